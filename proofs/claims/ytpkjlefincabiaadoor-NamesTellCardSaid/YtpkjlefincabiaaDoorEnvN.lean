/-
  EnvN: the environment: types, functions, words to the machine. WRITTEN BY PROGRAM (envgen.py).
-/
import Derived.Test.YtpkjlefincabiaaDoorChecked
import Derived.Test.YtpkjlefincabiaaDoorSimRow
import Derived.Test.YtpkjlefincabiaaDoorPlTab
namespace Go.Sim
set_option maxRecDepth 100000
noncomputable abbrev P0 : Program := Proofs.Tryd.prog
def rows0 : List (TypeId × TRow) := [(3, ⟨(.int .i64), 1, 8, [.int .i64 0]⟩),
  (4, ⟨.bool, 1, 1, [.bool false]⟩),
  (5, ⟨(.int .u8), 1, 1, [.int .u8 0]⟩),
  (9, ⟨.str, 1, 16, [.str []]⟩),
  (12, ⟨(.int .u64), 1, 8, [.int .u64 0]⟩),
  (21, ⟨(.int .i32), 1, 4, [.int .i32 0]⟩),
  (59, ⟨(.array 256 5), 256, 256, [.int .u8 0, .int .u8 0, .int .u8 0, .int .u8 0, .int .u8 0, .int .u8 0, .int .u8 0, .int .u8 0, .int .u8 0, .int .u8 0, .int .u8 0, .int .u8 0, .int .u8 0, .int .u8 0, .int .u8 0, .int .u8 0, .int .u8 0, .int .u8 0, .int .u8 0, .int .u8 0, .int .u8 0, .int .u8 0, .int .u8 0, .int .u8 0, .int .u8 0, .int .u8 0, .int .u8 0, .int .u8 0, .int .u8 0, .int .u8 0, .int .u8 0, .int .u8 0, .int .u8 0, .int .u8 0, .int .u8 0, .int .u8 0, .int .u8 0, .int .u8 0, .int .u8 0, .int .u8 0, .int .u8 0, .int .u8 0, .int .u8 0, .int .u8 0, .int .u8 0, .int .u8 0, .int .u8 0, .int .u8 0, .int .u8 0, .int .u8 0, .int .u8 0, .int .u8 0, .int .u8 0, .int .u8 0, .int .u8 0, .int .u8 0, .int .u8 0, .int .u8 0, .int .u8 0, .int .u8 0, .int .u8 0, .int .u8 0, .int .u8 0, .int .u8 0, .int .u8 0, .int .u8 0, .int .u8 0, .int .u8 0, .int .u8 0, .int .u8 0, .int .u8 0, .int .u8 0, .int .u8 0, .int .u8 0, .int .u8 0, .int .u8 0, .int .u8 0, .int .u8 0, .int .u8 0, .int .u8 0, .int .u8 0, .int .u8 0, .int .u8 0, .int .u8 0, .int .u8 0, .int .u8 0, .int .u8 0, .int .u8 0, .int .u8 0, .int .u8 0, .int .u8 0, .int .u8 0, .int .u8 0, .int .u8 0, .int .u8 0, .int .u8 0, .int .u8 0, .int .u8 0, .int .u8 0, .int .u8 0, .int .u8 0, .int .u8 0, .int .u8 0, .int .u8 0, .int .u8 0, .int .u8 0, .int .u8 0, .int .u8 0, .int .u8 0, .int .u8 0, .int .u8 0, .int .u8 0, .int .u8 0, .int .u8 0, .int .u8 0, .int .u8 0, .int .u8 0, .int .u8 0, .int .u8 0, .int .u8 0, .int .u8 0, .int .u8 0, .int .u8 0, .int .u8 0, .int .u8 0, .int .u8 0, .int .u8 0, .int .u8 0, .int .u8 0, .int .u8 0, .int .u8 0, .int .u8 0, .int .u8 0, .int .u8 0, .int .u8 0, .int .u8 0, .int .u8 0, .int .u8 0, .int .u8 0, .int .u8 0, .int .u8 0, .int .u8 0, .int .u8 0, .int .u8 0, .int .u8 0, .int .u8 0, .int .u8 0, .int .u8 0, .int .u8 0, .int .u8 0, .int .u8 0, .int .u8 0, .int .u8 0, .int .u8 0, .int .u8 0, .int .u8 0, .int .u8 0, .int .u8 0, .int .u8 0, .int .u8 0, .int .u8 0, .int .u8 0, .int .u8 0, .int .u8 0, .int .u8 0, .int .u8 0, .int .u8 0, .int .u8 0, .int .u8 0, .int .u8 0, .int .u8 0, .int .u8 0, .int .u8 0, .int .u8 0, .int .u8 0, .int .u8 0, .int .u8 0, .int .u8 0, .int .u8 0, .int .u8 0, .int .u8 0, .int .u8 0, .int .u8 0, .int .u8 0, .int .u8 0, .int .u8 0, .int .u8 0, .int .u8 0, .int .u8 0, .int .u8 0, .int .u8 0, .int .u8 0, .int .u8 0, .int .u8 0, .int .u8 0, .int .u8 0, .int .u8 0, .int .u8 0, .int .u8 0, .int .u8 0, .int .u8 0, .int .u8 0, .int .u8 0, .int .u8 0, .int .u8 0, .int .u8 0, .int .u8 0, .int .u8 0, .int .u8 0, .int .u8 0, .int .u8 0, .int .u8 0, .int .u8 0, .int .u8 0, .int .u8 0, .int .u8 0, .int .u8 0, .int .u8 0, .int .u8 0, .int .u8 0, .int .u8 0, .int .u8 0, .int .u8 0, .int .u8 0, .int .u8 0, .int .u8 0, .int .u8 0, .int .u8 0, .int .u8 0, .int .u8 0, .int .u8 0, .int .u8 0, .int .u8 0, .int .u8 0, .int .u8 0, .int .u8 0, .int .u8 0, .int .u8 0, .int .u8 0, .int .u8 0, .int .u8 0, .int .u8 0, .int .u8 0, .int .u8 0, .int .u8 0, .int .u8 0, .int .u8 0, .int .u8 0, .int .u8 0, .int .u8 0, .int .u8 0, .int .u8 0, .int .u8 0, .int .u8 0, .int .u8 0, .int .u8 0]⟩),
  (61, ⟨(.struct [(0, 1), (1, 1)] [(.int .u8), (.int .u8)]), 2, 2, [.int .u8 0, .int .u8 0]⟩),
  (62, ⟨(.array 16 61), 32, 32, [.int .u8 0, .int .u8 0, .int .u8 0, .int .u8 0, .int .u8 0, .int .u8 0, .int .u8 0, .int .u8 0, .int .u8 0, .int .u8 0, .int .u8 0, .int .u8 0, .int .u8 0, .int .u8 0, .int .u8 0, .int .u8 0, .int .u8 0, .int .u8 0, .int .u8 0, .int .u8 0, .int .u8 0, .int .u8 0, .int .u8 0, .int .u8 0, .int .u8 0, .int .u8 0, .int .u8 0, .int .u8 0, .int .u8 0, .int .u8 0, .int .u8 0, .int .u8 0]⟩),
  (69, ⟨(.int .u64), 1, 8, [.int .u64 0]⟩)]
def tys0 : List (TypeId × Ty) := [(3, (.int .i64)),
  (4, .bool),
  (5, (.int .u8)),
  (9, .str),
  (12, (.int .u64)),
  (21, (.int .i32)),
  (61, (.pair (.int .u8) (.int .u8))),
  (69, (.int .u64))]
theorem all0 : allB P0 rows0 tys0 = true := by kernel_rfl
theorem mixed0 : P0.follows .mixedOrders = true := by kernel_rfl
instance : Tabs P0 := ⟨[⟨0, (.int .u8), utf8First⟩, ⟨1, (.pair (.int .u8) (.int .u8)), utf8Acc⟩]⟩
def globs0 : List (Nat × AV) := [(0, .ap (.int .u8) utf8First), (1, .ap (.pair (.int .u8) (.int .u8)) utf8Acc)]
abbrev env (cons : List (FuncId × Con)) : Env := mkEnv rows0 tys0 cons globs0
theorem glob0 {cons : List (FuncId × Con)} : GlobOK P0 (env cons) := fun g => by
  simp only [mkEnv, globs0]
  by_cases h0 : g = 0
  · subst h0; exact .inr ⟨⟨0, (.int .u8), utf8First⟩, by simp [Tabs.tab], rfl, rfl⟩
  by_cases h1 : g = 1
  · subst h1; exact .inr ⟨⟨1, (.pair (.int .u8) (.int .u8)), utf8Acc⟩, by simp [Tabs.tab], rfl, rfl⟩
  have hb : ∀ k, k ≠ g → Nat.beq k g = false := fun k h => by
    cases hh : Nat.beq k g with
    | false => rfl
    | true => exact absurd (Nat.eq_of_beq_eq_true hh) h
  exact .inl (by simp [lk, hb 0 (Ne.symm h0), hb 1 (Ne.symm h1)])
theorem env_ok {cons : List (FuncId × Con)} (hc : ∀ x ∈ cons, HoldsC P0 x.1 x.2) : EnvOK P0 (env cons) := mkEnv_ok all0 hc
abbrev I.cooperagelaw3_alive : FuncId := 9
noncomputable abbrev F.cooperagelaw3_alive : Func := Proofs.Tryd.f9
theorem G.cooperagelaw3_alive : P0.funcs[9]? = some F.cooperagelaw3_alive := Proofs.Tryd.func9
theorem C.cooperagelaw3_alive : Called P0 9 := ⟨_, G.cooperagelaw3_alive, by kernel_rfl, by kernel_rfl⟩
def H.cooperagelaw3_alive : Hint := { nt := 6, vs := [], nh := [], join := [(1, 0)], loops := [] }
noncomputable abbrev B.cooperagelaw3_alive : Code := (F.cooperagelaw3_alive.body).getD .skip
theorem Bd.cooperagelaw3_alive : F.cooperagelaw3_alive.body = some B.cooperagelaw3_alive := by kernel_rfl
abbrev I.cooperagelaw3_NamesCut : FuncId := 5
noncomputable abbrev F.cooperagelaw3_NamesCut : Func := Proofs.Tryd.f5
theorem G.cooperagelaw3_NamesCut : P0.funcs[5]? = some F.cooperagelaw3_NamesCut := Proofs.Tryd.func5
theorem C.cooperagelaw3_NamesCut : Called P0 5 := ⟨_, G.cooperagelaw3_NamesCut, by kernel_rfl, by kernel_rfl⟩
def H.cooperagelaw3_NamesCut : Hint := { nt := 74, vs := [], nh := [], join := [(2, 21), (5, 38), (12, 4)], loops := [] }
noncomputable abbrev B.cooperagelaw3_NamesCut : Code := (F.cooperagelaw3_NamesCut.body).getD .skip
theorem Bd.cooperagelaw3_NamesCut : F.cooperagelaw3_NamesCut.body = some B.cooperagelaw3_NamesCut := by kernel_rfl
abbrev I.names_Valid : FuncId := 10
noncomputable abbrev F.names_Valid : Func := Proofs.Tryd.f10
theorem G.names_Valid : P0.funcs[10]? = some F.names_Valid := Proofs.Tryd.func10
theorem C.names_Valid : Called P0 10 := ⟨_, G.names_Valid, by kernel_rfl, by kernel_rfl⟩
def H.names_Valid : Hint := { nt := 34, vs := [], nh := [], join := [(5, 21), (8, 2)], loops := [(3, [0, 2, 3, 7])] }
noncomputable abbrev B.names_Valid : Code := (F.names_Valid.body).getD .skip
theorem Bd.names_Valid : F.names_Valid.body = some B.names_Valid := by kernel_rfl
noncomputable abbrev L.names_Valid_3 : Code := findL 3 (loopsIn B.names_Valid)
abbrev V.names_Valid_3 : List Nat := (lk? H.names_Valid.loops 3).getD []
abbrev I.names_Count : FuncId := 11
noncomputable abbrev F.names_Count : Func := Proofs.Tryd.f11
theorem G.names_Count : P0.funcs[11]? = some F.names_Count := Proofs.Tryd.func11
theorem C.names_Count : Called P0 11 := ⟨_, G.names_Count, by kernel_rfl, by kernel_rfl⟩
def H.names_Count : Hint := { nt := 11, vs := [], nh := [], join := [], loops := [(3, [3, 5])] }
noncomputable abbrev B.names_Count : Code := (F.names_Count.body).getD .skip
theorem Bd.names_Count : F.names_Count.body = some B.names_Count := by kernel_rfl
noncomputable abbrev L.names_Count_3 : Code := findL 3 (loopsIn B.names_Count)
abbrev V.names_Count_3 : List Nat := (lk? H.names_Count.loops 3).getD []
abbrev I.names_Cut : FuncId := 14
noncomputable abbrev F.names_Cut : Func := Proofs.Tryd.f14
theorem G.names_Cut : P0.funcs[14]? = some F.names_Cut := Proofs.Tryd.func14
theorem C.names_Cut : Called P0 14 := ⟨_, G.names_Cut, by kernel_rfl, by kernel_rfl⟩
def H.names_Cut : Hint := { nt := 19, vs := [], nh := [], join := [], loops := [(2, [0, 1, 4, 7])] }
noncomputable abbrev B.names_Cut : Code := (F.names_Cut.body).getD .skip
theorem Bd.names_Cut : F.names_Cut.body = some B.names_Cut := by kernel_rfl
noncomputable abbrev L.names_Cut_2 : Code := findL 2 (loopsIn B.names_Cut)
abbrev V.names_Cut_2 : List Nat := (lk? H.names_Cut.loops 2).getD []
abbrev I.names_may : FuncId := 24
noncomputable abbrev F.names_may : Func := Proofs.Tryd.f24
theorem G.names_may : P0.funcs[24]? = some F.names_may := Proofs.Tryd.func24
theorem C.names_may : Called P0 24 := ⟨_, G.names_may, by kernel_rfl, by kernel_rfl⟩
def H.names_may : Hint := { nt := 25, vs := [], nh := [], join := [(1, 2)], loops := [] }
noncomputable abbrev B.names_may : Code := (F.names_may.body).getD .skip
theorem Bd.names_may : F.names_may.body = some B.names_may := by kernel_rfl
abbrev I.names_among : FuncId := 25
noncomputable abbrev F.names_among : Func := Proofs.Tryd.f25
theorem G.names_among : P0.funcs[25]? = some F.names_among := Proofs.Tryd.func25
theorem C.names_among : Called P0 25 := ⟨_, G.names_among, by kernel_rfl, by kernel_rfl⟩
def H.names_among : Hint := { nt := 15, vs := [], nh := [], join := [], loops := [(2, [1, 4, 8])] }
noncomputable abbrev B.names_among : Code := (F.names_among.body).getD .skip
theorem Bd.names_among : F.names_among.body = some B.names_among := by kernel_rfl
noncomputable abbrev L.names_among_2 : Code := findL 2 (loopsIn B.names_among)
abbrev V.names_among_2 : List Nat := (lk? H.names_among.loops 2).getD []
abbrev I.unicode_utf8_ValidString : FuncId := 26
noncomputable abbrev F.unicode_utf8_ValidString : Func := Proofs.Tryd.f26
theorem G.unicode_utf8_ValidString : P0.funcs[26]? = some F.unicode_utf8_ValidString := Proofs.Tryd.func26
theorem C.unicode_utf8_ValidString : Called P0 26 := ⟨_, G.unicode_utf8_ValidString, by kernel_rfl, by kernel_rfl⟩
def H.unicode_utf8_ValidString : Hint := { nt := 169, vs := [], nh := [], join := [(5, 24), (7, 39), (9, 62), (17, 94), (21, 125), (25, 166)], loops := [(1, [0, 2]), (9, [0, 2])] }
noncomputable abbrev B.unicode_utf8_ValidString : Code := (F.unicode_utf8_ValidString.body).getD .skip
theorem Bd.unicode_utf8_ValidString : F.unicode_utf8_ValidString.body = some B.unicode_utf8_ValidString := by kernel_rfl
noncomputable abbrev L.unicode_utf8_ValidString_1 : Code := findL 1 (loopsIn B.unicode_utf8_ValidString)
noncomputable abbrev L.unicode_utf8_ValidString_9 : Code := findL 9 (loopsIn B.unicode_utf8_ValidString)
abbrev V.unicode_utf8_ValidString_1 : List Nat := (lk? H.unicode_utf8_ValidString.loops 1).getD []
abbrev V.unicode_utf8_ValidString_9 : List Nat := (lk? H.unicode_utf8_ValidString.loops 9).getD []
abbrev I.unicode_utf8_word_string : FuncId := 31
noncomputable abbrev F.unicode_utf8_word_string : Func := Proofs.Tryd.f31
theorem G.unicode_utf8_word_string : P0.funcs[31]? = some F.unicode_utf8_word_string := Proofs.Tryd.func31
theorem C.unicode_utf8_word_string : Called P0 31 := ⟨_, G.unicode_utf8_word_string, by kernel_rfl, by kernel_rfl⟩
def H.unicode_utf8_word_string : Hint := { nt := 59, vs := [], nh := [], join := [], loops := [] }
noncomputable abbrev B.unicode_utf8_word_string : Code := (F.unicode_utf8_word_string.body).getD .skip
theorem Bd.unicode_utf8_word_string : F.unicode_utf8_word_string.body = some B.unicode_utf8_word_string := by kernel_rfl
abbrev I.cooperagelaw3_NamesLong : FuncId := 3
noncomputable abbrev F.cooperagelaw3_NamesLong : Func := Proofs.Tryd.f3
theorem G.cooperagelaw3_NamesLong : P0.funcs[3]? = some F.cooperagelaw3_NamesLong := Proofs.Tryd.func3
theorem C.cooperagelaw3_NamesLong : Called P0 3 := ⟨_, G.cooperagelaw3_NamesLong, by kernel_rfl, by kernel_rfl⟩
def H.cooperagelaw3_NamesLong : Hint := { nt := 45, vs := [], nh := [], join := [(2, 18), (11, 4)], loops := [(6, [0, 1, 6, 7])] }
noncomputable abbrev B.cooperagelaw3_NamesLong : Code := (F.cooperagelaw3_NamesLong.body).getD .skip
theorem Bd.cooperagelaw3_NamesLong : F.cooperagelaw3_NamesLong.body = some B.cooperagelaw3_NamesLong := by kernel_rfl
noncomputable abbrev L.cooperagelaw3_NamesLong_6 : Code := findL 6 (loopsIn B.cooperagelaw3_NamesLong)
abbrev V.cooperagelaw3_NamesLong_6 : List Nat := (lk? H.cooperagelaw3_NamesLong.loops 6).getD []
abbrev I.cooperagelaw3_NamesSigns : FuncId := 6
noncomputable abbrev F.cooperagelaw3_NamesSigns : Func := Proofs.Tryd.f6
theorem G.cooperagelaw3_NamesSigns : P0.funcs[6]? = some F.cooperagelaw3_NamesSigns := Proofs.Tryd.func6
theorem C.cooperagelaw3_NamesSigns : Called P0 6 := ⟨_, G.cooperagelaw3_NamesSigns, by kernel_rfl, by kernel_rfl⟩
def H.cooperagelaw3_NamesSigns : Hint := { nt := 96, vs := [], nh := [], join := [(2, 25), (5, 5), (6, 6), (7, 2)], loops := [] }
noncomputable abbrev B.cooperagelaw3_NamesSigns : Code := (F.cooperagelaw3_NamesSigns.body).getD .skip
theorem Bd.cooperagelaw3_NamesSigns : F.cooperagelaw3_NamesSigns.body = some B.cooperagelaw3_NamesSigns := by kernel_rfl
abbrev I.cooperagelaw3_NamesTell : FuncId := 4
noncomputable abbrev F.cooperagelaw3_NamesTell : Func := Proofs.Tryd.f4
theorem G.cooperagelaw3_NamesTell : P0.funcs[4]? = some F.cooperagelaw3_NamesTell := Proofs.Tryd.func4
theorem C.cooperagelaw3_NamesTell : Called P0 4 := ⟨_, G.cooperagelaw3_NamesTell, by kernel_rfl, by kernel_rfl⟩
def H.cooperagelaw3_NamesTell : Hint := { nt := 36, vs := [], nh := [], join := [(2, 13), (4, 4)], loops := [] }
noncomputable abbrev B.cooperagelaw3_NamesTell : Code := (F.cooperagelaw3_NamesTell.body).getD .skip
theorem Bd.cooperagelaw3_NamesTell : F.cooperagelaw3_NamesTell.body = some B.cooperagelaw3_NamesTell := by kernel_rfl
abbrev I.cooperageref1_Valid : FuncId := 12
noncomputable abbrev F.cooperageref1_Valid : Func := Proofs.Tryd.f12
theorem G.cooperageref1_Valid : P0.funcs[12]? = some F.cooperageref1_Valid := Proofs.Tryd.func12
theorem C.cooperageref1_Valid : Called P0 12 := ⟨_, G.cooperageref1_Valid, by kernel_rfl, by kernel_rfl⟩
def H.cooperageref1_Valid : Hint := { nt := 88, vs := [], nh := [], join := [(5, 8), (6, 9), (7, 10), (8, 76), (12, 2)], loops := [(3, [0, 2, 3, 4])] }
noncomputable abbrev B.cooperageref1_Valid : Code := (F.cooperageref1_Valid.body).getD .skip
theorem Bd.cooperageref1_Valid : F.cooperageref1_Valid.body = some B.cooperageref1_Valid := by kernel_rfl
noncomputable abbrev L.cooperageref1_Valid_3 : Code := findL 3 (loopsIn B.cooperageref1_Valid)
abbrev V.cooperageref1_Valid_3 : List Nat := (lk? H.cooperageref1_Valid.loops 3).getD []
abbrev I.cooperageref1_Count : FuncId := 13
noncomputable abbrev F.cooperageref1_Count : Func := Proofs.Tryd.f13
theorem G.cooperageref1_Count : P0.funcs[13]? = some F.cooperageref1_Count := Proofs.Tryd.func13
theorem C.cooperageref1_Count : Called P0 13 := ⟨_, G.cooperageref1_Count, by kernel_rfl, by kernel_rfl⟩
def H.cooperageref1_Count : Hint := { nt := 26, vs := [], nh := [], join := [], loops := [(3, [0, 3, 4])] }
noncomputable abbrev B.cooperageref1_Count : Code := (F.cooperageref1_Count.body).getD .skip
theorem Bd.cooperageref1_Count : F.cooperageref1_Count.body = some B.cooperageref1_Count := by kernel_rfl
noncomputable abbrev L.cooperageref1_Count_3 : Code := findL 3 (loopsIn B.cooperageref1_Count)
abbrev V.cooperageref1_Count_3 : List Nat := (lk? H.cooperageref1_Count.loops 3).getD []
abbrev I.cooperageref1_Cut : FuncId := 15
noncomputable abbrev F.cooperageref1_Cut : Func := Proofs.Tryd.f15
theorem G.cooperageref1_Cut : P0.funcs[15]? = some F.cooperageref1_Cut := Proofs.Tryd.func15
theorem C.cooperageref1_Cut : Called P0 15 := ⟨_, G.cooperageref1_Cut, by kernel_rfl, by kernel_rfl⟩
def H.cooperageref1_Cut : Hint := { nt := 33, vs := [], nh := [], join := [(2, 16)], loops := [(2, [0, 1, 5])] }
noncomputable abbrev B.cooperageref1_Cut : Code := (F.cooperageref1_Cut.body).getD .skip
theorem Bd.cooperageref1_Cut : F.cooperageref1_Cut.body = some B.cooperageref1_Cut := by kernel_rfl
noncomputable abbrev L.cooperageref1_Cut_2 : Code := findL 2 (loopsIn B.cooperageref1_Cut)
abbrev V.cooperageref1_Cut_2 : List Nat := (lk? H.cooperageref1_Cut.loops 2).getD []
abbrev I.cooperageref1_rune1 : FuncId := 27
noncomputable abbrev F.cooperageref1_rune1 : Func := Proofs.Tryd.f27
theorem G.cooperageref1_rune1 : P0.funcs[27]? = some F.cooperageref1_rune1 := Proofs.Tryd.func27
theorem C.cooperageref1_rune1 : Called P0 27 := ⟨_, G.cooperageref1_rune1, by kernel_rfl, by kernel_rfl⟩
def H.cooperageref1_rune1 : Hint := { nt := 86, vs := [], nh := [], join := [(8, 18), (12, 27), (16, 36), (26, 63), (29, 83)], loops := [(23, [0, 2, 3, 4, 6, 7, 8, 9])] }
noncomputable abbrev B.cooperageref1_rune1 : Code := (F.cooperageref1_rune1.body).getD .skip
theorem Bd.cooperageref1_rune1 : F.cooperageref1_rune1.body = some B.cooperageref1_rune1 := by kernel_rfl
noncomputable abbrev L.cooperageref1_rune1_23 : Code := findL 23 (loopsIn B.cooperageref1_rune1)
abbrev V.cooperageref1_rune1_23 : List Nat := (lk? H.cooperageref1_rune1.loops 23).getD []
end Go.Sim
