/-
  EnvN: the environment: types, functions, words to the machine. WRITTEN BY PROGRAM (envgen.py). · PlUtf: runes of a text in plain Lean. · PlWrd: eight bytes at once. · PlVal: right UTF-8 in plain Lean. · PlSkp: plain letters are passed over, many at once. · PlNam: which texts are names, in plain Lean. · WkNam: the walks of package names. · WkNaw: the walk of utf8.ValidString. · WkNal: the walks of NamesLong and NamesSigns. · PlSgn: one rune's bytes, in plain Lean. · WkSgn: the walk of NamesSigns. · PlRn: the document's own rune reader, in plain Lean. · WkTel: the walk of NamesTell.
-/
import Derived.Test.YtpkjlefincabiaaDoorChecked
import Derived.Test.YtpkjlefincabiaaDoorPartC
namespace Go.Sim
set_option maxRecDepth 100000
noncomputable abbrev P0 : Program := Proofs.Tryd.prog
def rows0 : List (TypeId × TRow) := [(3, ⟨(.int .i64), 1, 8, [.int .i64 0]⟩),
  (4, ⟨.bool, 1, 1, [.bool false]⟩),
  (5, ⟨(.int .u8), 1, 1, [.int .u8 0]⟩),
  (9, ⟨.str, 1, 16, [.str []]⟩),
  (12, ⟨(.int .u64), 1, 8, [.int .u64 0]⟩),
  (21, ⟨(.int .i32), 1, 4, [.int .i32 0]⟩),
  (29, ⟨(.slice 54), 1, 24, [.nils]⟩),
  (31, ⟨(.struct [(0, 1)] []), 1, 24, [.nils]⟩),
  (32, ⟨(.int .i64), 1, 8, [.int .i64 0]⟩),
  (38, ⟨(.slice 44), 1, 24, [.nils]⟩),
  (39, ⟨(.ptr 42), 1, 8, [.nilp]⟩),
  (40, ⟨(.slice 56), 1, 24, [.nils]⟩),
  (42, ⟨(.struct [(0, 1)] []), 1, 24, [.nils]⟩),
  (44, ⟨(.struct [(0, 1), (1, 1)] [.str, (.int .i64)]), 2, 24, [.str [], .int .i64 0]⟩),
  (53, ⟨(.ptr 31), 1, 8, [.nilp]⟩),
  (54, ⟨(.struct [(0, 1), (1, 1)] [.str, (.int .i64)]), 2, 24, [.str [], .int .i64 0]⟩),
  (56, ⟨(.struct [(0, 1), (1, 1)] [.str, (.int .i64)]), 2, 24, [.str [], .int .i64 0]⟩),
  (59, ⟨(.array 256 5), 256, 256, [.int .u8 0, .int .u8 0, .int .u8 0, .int .u8 0, .int .u8 0, .int .u8 0, .int .u8 0, .int .u8 0, .int .u8 0, .int .u8 0, .int .u8 0, .int .u8 0, .int .u8 0, .int .u8 0, .int .u8 0, .int .u8 0, .int .u8 0, .int .u8 0, .int .u8 0, .int .u8 0, .int .u8 0, .int .u8 0, .int .u8 0, .int .u8 0, .int .u8 0, .int .u8 0, .int .u8 0, .int .u8 0, .int .u8 0, .int .u8 0, .int .u8 0, .int .u8 0, .int .u8 0, .int .u8 0, .int .u8 0, .int .u8 0, .int .u8 0, .int .u8 0, .int .u8 0, .int .u8 0, .int .u8 0, .int .u8 0, .int .u8 0, .int .u8 0, .int .u8 0, .int .u8 0, .int .u8 0, .int .u8 0, .int .u8 0, .int .u8 0, .int .u8 0, .int .u8 0, .int .u8 0, .int .u8 0, .int .u8 0, .int .u8 0, .int .u8 0, .int .u8 0, .int .u8 0, .int .u8 0, .int .u8 0, .int .u8 0, .int .u8 0, .int .u8 0, .int .u8 0, .int .u8 0, .int .u8 0, .int .u8 0, .int .u8 0, .int .u8 0, .int .u8 0, .int .u8 0, .int .u8 0, .int .u8 0, .int .u8 0, .int .u8 0, .int .u8 0, .int .u8 0, .int .u8 0, .int .u8 0, .int .u8 0, .int .u8 0, .int .u8 0, .int .u8 0, .int .u8 0, .int .u8 0, .int .u8 0, .int .u8 0, .int .u8 0, .int .u8 0, .int .u8 0, .int .u8 0, .int .u8 0, .int .u8 0, .int .u8 0, .int .u8 0, .int .u8 0, .int .u8 0, .int .u8 0, .int .u8 0, .int .u8 0, .int .u8 0, .int .u8 0, .int .u8 0, .int .u8 0, .int .u8 0, .int .u8 0, .int .u8 0, .int .u8 0, .int .u8 0, .int .u8 0, .int .u8 0, .int .u8 0, .int .u8 0, .int .u8 0, .int .u8 0, .int .u8 0, .int .u8 0, .int .u8 0, .int .u8 0, .int .u8 0, .int .u8 0, .int .u8 0, .int .u8 0, .int .u8 0, .int .u8 0, .int .u8 0, .int .u8 0, .int .u8 0, .int .u8 0, .int .u8 0, .int .u8 0, .int .u8 0, .int .u8 0, .int .u8 0, .int .u8 0, .int .u8 0, .int .u8 0, .int .u8 0, .int .u8 0, .int .u8 0, .int .u8 0, .int .u8 0, .int .u8 0, .int .u8 0, .int .u8 0, .int .u8 0, .int .u8 0, .int .u8 0, .int .u8 0, .int .u8 0, .int .u8 0, .int .u8 0, .int .u8 0, .int .u8 0, .int .u8 0, .int .u8 0, .int .u8 0, .int .u8 0, .int .u8 0, .int .u8 0, .int .u8 0, .int .u8 0, .int .u8 0, .int .u8 0, .int .u8 0, .int .u8 0, .int .u8 0, .int .u8 0, .int .u8 0, .int .u8 0, .int .u8 0, .int .u8 0, .int .u8 0, .int .u8 0, .int .u8 0, .int .u8 0, .int .u8 0, .int .u8 0, .int .u8 0, .int .u8 0, .int .u8 0, .int .u8 0, .int .u8 0, .int .u8 0, .int .u8 0, .int .u8 0, .int .u8 0, .int .u8 0, .int .u8 0, .int .u8 0, .int .u8 0, .int .u8 0, .int .u8 0, .int .u8 0, .int .u8 0, .int .u8 0, .int .u8 0, .int .u8 0, .int .u8 0, .int .u8 0, .int .u8 0, .int .u8 0, .int .u8 0, .int .u8 0, .int .u8 0, .int .u8 0, .int .u8 0, .int .u8 0, .int .u8 0, .int .u8 0, .int .u8 0, .int .u8 0, .int .u8 0, .int .u8 0, .int .u8 0, .int .u8 0, .int .u8 0, .int .u8 0, .int .u8 0, .int .u8 0, .int .u8 0, .int .u8 0, .int .u8 0, .int .u8 0, .int .u8 0, .int .u8 0, .int .u8 0, .int .u8 0, .int .u8 0, .int .u8 0, .int .u8 0, .int .u8 0, .int .u8 0, .int .u8 0, .int .u8 0, .int .u8 0, .int .u8 0, .int .u8 0, .int .u8 0, .int .u8 0, .int .u8 0, .int .u8 0, .int .u8 0, .int .u8 0, .int .u8 0, .int .u8 0, .int .u8 0, .int .u8 0, .int .u8 0, .int .u8 0, .int .u8 0, .int .u8 0, .int .u8 0, .int .u8 0, .int .u8 0]⟩),
  (61, ⟨(.struct [(0, 1), (1, 1)] [(.int .u8), (.int .u8)]), 2, 2, [.int .u8 0, .int .u8 0]⟩),
  (62, ⟨(.array 16 61), 32, 32, [.int .u8 0, .int .u8 0, .int .u8 0, .int .u8 0, .int .u8 0, .int .u8 0, .int .u8 0, .int .u8 0, .int .u8 0, .int .u8 0, .int .u8 0, .int .u8 0, .int .u8 0, .int .u8 0, .int .u8 0, .int .u8 0, .int .u8 0, .int .u8 0, .int .u8 0, .int .u8 0, .int .u8 0, .int .u8 0, .int .u8 0, .int .u8 0, .int .u8 0, .int .u8 0, .int .u8 0, .int .u8 0, .int .u8 0, .int .u8 0, .int .u8 0, .int .u8 0]⟩),
  (63, ⟨(.int .u64), 1, 8, [.int .u64 0]⟩),
  (66, ⟨.flat, 1, 8, [.undef]⟩),
  (69, ⟨(.int .u64), 1, 8, [.int .u64 0]⟩)]
def tys0 : List (TypeId × Ty) := [(3, (.int .i64)),
  (4, .bool),
  (5, (.int .u8)),
  (9, .str),
  (12, (.int .u64)),
  (21, (.int .i32)),
  (29, (.sl (.pair .str (.int .i64)))),
  (32, (.int .i64)),
  (38, (.sl (.pair .str (.int .i64)))),
  (40, (.sl (.pair .str (.int .i64)))),
  (44, (.pair .str (.int .i64))),
  (54, (.pair .str (.int .i64))),
  (56, (.pair .str (.int .i64))),
  (61, (.pair (.int .u8) (.int .u8))),
  (63, (.int .u64)),
  (69, (.int .u64))]
theorem all0 : allB P0 rows0 tys0 = true := by kernel_rfl
theorem mixed0 : P0.follows .mixedOrders = true := by kernel_rfl
instance : Tabs P0 := ⟨[⟨0, (.int .u8), utf8First⟩, ⟨1, (.pair (.int .u8) (.int .u8)), utf8Acc⟩]⟩
def globs0 : List (Nat × AV) := [(0, .ap (.int .u8) utf8First), (1, .ap (.pair (.int .u8) (.int .u8)) utf8Acc)]
abbrev env (cons : List (FuncId × Con)) : Env := mkEnv rows0 tys0 cons globs0
theorem glob0 {cons : List (FuncId × Con)} : GlobOK P0 (env cons) := fun g => by
  simp only [mkEnv, globs0]
  by_cases h0 : g = 0
  · subst h0; exact .inr ⟨⟨0, (.int .u8), utf8First⟩, by simp [Tabs.tab], rfl, rfl⟩
  by_cases h1 : g = 1
  · subst h1; exact .inr ⟨⟨1, (.pair (.int .u8) (.int .u8)), utf8Acc⟩, by simp [Tabs.tab], rfl, rfl⟩
  have hb : ∀ k, k ≠ g → Nat.beq k g = false := fun k h => by
    cases hh : Nat.beq k g with
    | false => rfl
    | true => exact absurd (Nat.eq_of_beq_eq_true hh) h
  exact .inl (by simp [lk, hb 0 (Ne.symm h0), hb 1 (Ne.symm h1)])
theorem env_ok {cons : List (FuncId × Con)} (hc : ∀ x ∈ cons, HoldsC P0 x.1 x.2) : EnvOK P0 (env cons) := mkEnv_ok all0 hc
abbrev I.cooperagelaw3_NamesLong : FuncId := 3
noncomputable abbrev F.cooperagelaw3_NamesLong : Func := Proofs.Tryd.f3
theorem G.cooperagelaw3_NamesLong : P0.funcs[3]? = some F.cooperagelaw3_NamesLong := Proofs.Tryd.func3
theorem C.cooperagelaw3_NamesLong : Called P0 3 := ⟨_, G.cooperagelaw3_NamesLong, by kernel_rfl, by kernel_rfl⟩
def H.cooperagelaw3_NamesLong : Hint := { nt := 45, lg := [], vs := [], nh := [], join := [(2, 18), (11, 4)], loops := [(6, [0, 1, 6, 7])], jc := [] }
noncomputable abbrev B.cooperagelaw3_NamesLong : Code := (F.cooperagelaw3_NamesLong.body).getD .skip
theorem Bd.cooperagelaw3_NamesLong : F.cooperagelaw3_NamesLong.body = some B.cooperagelaw3_NamesLong := by kernel_rfl
noncomputable abbrev L.cooperagelaw3_NamesLong_6 : Code := findL 6 (loopsIn B.cooperagelaw3_NamesLong)
abbrev V.cooperagelaw3_NamesLong_6 : List Nat := (lk? H.cooperagelaw3_NamesLong.loops 6).getD []
abbrev I.cooperagelaw3_NamesTell : FuncId := 4
noncomputable abbrev F.cooperagelaw3_NamesTell : Func := Proofs.Tryd.f4
theorem G.cooperagelaw3_NamesTell : P0.funcs[4]? = some F.cooperagelaw3_NamesTell := Proofs.Tryd.func4
theorem C.cooperagelaw3_NamesTell : Called P0 4 := ⟨_, G.cooperagelaw3_NamesTell, by kernel_rfl, by kernel_rfl⟩
def H.cooperagelaw3_NamesTell : Hint := { nt := 36, lg := [], vs := [], nh := [], join := [(2, 13), (4, 4)], loops := [], jc := [] }
noncomputable abbrev B.cooperagelaw3_NamesTell : Code := (F.cooperagelaw3_NamesTell.body).getD .skip
theorem Bd.cooperagelaw3_NamesTell : F.cooperagelaw3_NamesTell.body = some B.cooperagelaw3_NamesTell := by kernel_rfl
abbrev I.cooperagelaw3_NamesCut : FuncId := 5
noncomputable abbrev F.cooperagelaw3_NamesCut : Func := Proofs.Tryd.f5
theorem G.cooperagelaw3_NamesCut : P0.funcs[5]? = some F.cooperagelaw3_NamesCut := Proofs.Tryd.func5
theorem C.cooperagelaw3_NamesCut : Called P0 5 := ⟨_, G.cooperagelaw3_NamesCut, by kernel_rfl, by kernel_rfl⟩
def H.cooperagelaw3_NamesCut : Hint := { nt := 74, lg := [], vs := [], nh := [], join := [(2, 21), (5, 38), (12, 4)], loops := [], jc := [] }
noncomputable abbrev B.cooperagelaw3_NamesCut : Code := (F.cooperagelaw3_NamesCut.body).getD .skip
theorem Bd.cooperagelaw3_NamesCut : F.cooperagelaw3_NamesCut.body = some B.cooperagelaw3_NamesCut := by kernel_rfl
abbrev I.cooperagelaw3_NamesSigns : FuncId := 6
noncomputable abbrev F.cooperagelaw3_NamesSigns : Func := Proofs.Tryd.f6
theorem G.cooperagelaw3_NamesSigns : P0.funcs[6]? = some F.cooperagelaw3_NamesSigns := Proofs.Tryd.func6
theorem C.cooperagelaw3_NamesSigns : Called P0 6 := ⟨_, G.cooperagelaw3_NamesSigns, by kernel_rfl, by kernel_rfl⟩
def H.cooperagelaw3_NamesSigns : Hint := { nt := 96, lg := [], vs := [], nh := [], join := [(2, 25), (5, 5), (6, 6), (7, 2)], loops := [], jc := [] }
noncomputable abbrev B.cooperagelaw3_NamesSigns : Code := (F.cooperagelaw3_NamesSigns.body).getD .skip
theorem Bd.cooperagelaw3_NamesSigns : F.cooperagelaw3_NamesSigns.body = some B.cooperagelaw3_NamesSigns := by kernel_rfl
abbrev I.cooperagelaw12_GroupsMany : FuncId := 7
noncomputable abbrev F.cooperagelaw12_GroupsMany : Func := Proofs.Tryd.f7
theorem G.cooperagelaw12_GroupsMany : P0.funcs[7]? = some F.cooperagelaw12_GroupsMany := Proofs.Tryd.func7
theorem C.cooperagelaw12_GroupsMany : Called P0 7 := ⟨_, G.cooperagelaw12_GroupsMany, by kernel_rfl, by kernel_rfl⟩
def H.cooperagelaw12_GroupsMany : Hint := { nt := 71, lg := [], vs := [], nh := [], join := [(2, 24), (17, 4)], loops := [(7, [0, 1, 4, 6, 7, 8])], jc := [] }
noncomputable abbrev B.cooperagelaw12_GroupsMany : Code := (F.cooperagelaw12_GroupsMany.body).getD .skip
theorem Bd.cooperagelaw12_GroupsMany : F.cooperagelaw12_GroupsMany.body = some B.cooperagelaw12_GroupsMany := by kernel_rfl
noncomputable abbrev L.cooperagelaw12_GroupsMany_7 : Code := findL 7 (loopsIn B.cooperagelaw12_GroupsMany)
abbrev V.cooperagelaw12_GroupsMany_7 : List Nat := (lk? H.cooperagelaw12_GroupsMany.loops 7).getD []
abbrev I.cooperagelaw12_GroupsPlay : FuncId := 8
noncomputable abbrev F.cooperagelaw12_GroupsPlay : Func := Proofs.Tryd.f8
theorem G.cooperagelaw12_GroupsPlay : P0.funcs[8]? = some F.cooperagelaw12_GroupsPlay := Proofs.Tryd.func8
theorem C.cooperagelaw12_GroupsPlay : Called P0 8 := ⟨_, G.cooperagelaw12_GroupsPlay, by kernel_rfl, by kernel_rfl⟩
def H.cooperagelaw12_GroupsPlay : Hint := { nt := 83, lg := [], vs := [], nh := [], join := [(2, 20), (18, 82)], loops := [(8, [0, 2, 4, 5, 6, 7])], jc := [] }
noncomputable abbrev B.cooperagelaw12_GroupsPlay : Code := (F.cooperagelaw12_GroupsPlay.body).getD .skip
theorem Bd.cooperagelaw12_GroupsPlay : F.cooperagelaw12_GroupsPlay.body = some B.cooperagelaw12_GroupsPlay := by kernel_rfl
noncomputable abbrev L.cooperagelaw12_GroupsPlay_8 : Code := findL 8 (loopsIn B.cooperagelaw12_GroupsPlay)
abbrev V.cooperagelaw12_GroupsPlay_8 : List Nat := (lk? H.cooperagelaw12_GroupsPlay.loops 8).getD []
abbrev I.cooperagelaw3_alive : FuncId := 9
noncomputable abbrev F.cooperagelaw3_alive : Func := Proofs.Tryd.f9
theorem G.cooperagelaw3_alive : P0.funcs[9]? = some F.cooperagelaw3_alive := Proofs.Tryd.func9
theorem C.cooperagelaw3_alive : Called P0 9 := ⟨_, G.cooperagelaw3_alive, by kernel_rfl, by kernel_rfl⟩
def H.cooperagelaw3_alive : Hint := { nt := 6, lg := [], vs := [], nh := [], join := [(1, 0)], loops := [], jc := [] }
noncomputable abbrev B.cooperagelaw3_alive : Code := (F.cooperagelaw3_alive.body).getD .skip
theorem Bd.cooperagelaw3_alive : F.cooperagelaw3_alive.body = some B.cooperagelaw3_alive := by kernel_rfl
abbrev I.names_Valid : FuncId := 10
noncomputable abbrev F.names_Valid : Func := Proofs.Tryd.f10
theorem G.names_Valid : P0.funcs[10]? = some F.names_Valid := Proofs.Tryd.func10
theorem C.names_Valid : Called P0 10 := ⟨_, G.names_Valid, by kernel_rfl, by kernel_rfl⟩
def H.names_Valid : Hint := { nt := 34, lg := [], vs := [], nh := [], join := [(5, 21), (8, 2)], loops := [(3, [0, 2, 3, 7])], jc := [] }
noncomputable abbrev B.names_Valid : Code := (F.names_Valid.body).getD .skip
theorem Bd.names_Valid : F.names_Valid.body = some B.names_Valid := by kernel_rfl
noncomputable abbrev L.names_Valid_3 : Code := findL 3 (loopsIn B.names_Valid)
abbrev V.names_Valid_3 : List Nat := (lk? H.names_Valid.loops 3).getD []
abbrev I.names_Count : FuncId := 11
noncomputable abbrev F.names_Count : Func := Proofs.Tryd.f11
theorem G.names_Count : P0.funcs[11]? = some F.names_Count := Proofs.Tryd.func11
theorem C.names_Count : Called P0 11 := ⟨_, G.names_Count, by kernel_rfl, by kernel_rfl⟩
def H.names_Count : Hint := { nt := 11, lg := [], vs := [], nh := [], join := [], loops := [(3, [3, 5])], jc := [] }
noncomputable abbrev B.names_Count : Code := (F.names_Count.body).getD .skip
theorem Bd.names_Count : F.names_Count.body = some B.names_Count := by kernel_rfl
noncomputable abbrev L.names_Count_3 : Code := findL 3 (loopsIn B.names_Count)
abbrev V.names_Count_3 : List Nat := (lk? H.names_Count.loops 3).getD []
abbrev I.cooperageref1_Valid : FuncId := 12
noncomputable abbrev F.cooperageref1_Valid : Func := Proofs.Tryd.f12
theorem G.cooperageref1_Valid : P0.funcs[12]? = some F.cooperageref1_Valid := Proofs.Tryd.func12
theorem C.cooperageref1_Valid : Called P0 12 := ⟨_, G.cooperageref1_Valid, by kernel_rfl, by kernel_rfl⟩
def H.cooperageref1_Valid : Hint := { nt := 88, lg := [], vs := [], nh := [], join := [(5, 8), (6, 9), (7, 10), (8, 76), (12, 2)], loops := [(3, [0, 2, 3, 4])], jc := [] }
noncomputable abbrev B.cooperageref1_Valid : Code := (F.cooperageref1_Valid.body).getD .skip
theorem Bd.cooperageref1_Valid : F.cooperageref1_Valid.body = some B.cooperageref1_Valid := by kernel_rfl
noncomputable abbrev L.cooperageref1_Valid_3 : Code := findL 3 (loopsIn B.cooperageref1_Valid)
abbrev V.cooperageref1_Valid_3 : List Nat := (lk? H.cooperageref1_Valid.loops 3).getD []
abbrev I.cooperageref1_Count : FuncId := 13
noncomputable abbrev F.cooperageref1_Count : Func := Proofs.Tryd.f13
theorem G.cooperageref1_Count : P0.funcs[13]? = some F.cooperageref1_Count := Proofs.Tryd.func13
theorem C.cooperageref1_Count : Called P0 13 := ⟨_, G.cooperageref1_Count, by kernel_rfl, by kernel_rfl⟩
def H.cooperageref1_Count : Hint := { nt := 26, lg := [], vs := [], nh := [], join := [], loops := [(3, [0, 3, 4])], jc := [] }
noncomputable abbrev B.cooperageref1_Count : Code := (F.cooperageref1_Count.body).getD .skip
theorem Bd.cooperageref1_Count : F.cooperageref1_Count.body = some B.cooperageref1_Count := by kernel_rfl
noncomputable abbrev L.cooperageref1_Count_3 : Code := findL 3 (loopsIn B.cooperageref1_Count)
abbrev V.cooperageref1_Count_3 : List Nat := (lk? H.cooperageref1_Count.loops 3).getD []
abbrev I.names_Cut : FuncId := 14
noncomputable abbrev F.names_Cut : Func := Proofs.Tryd.f14
theorem G.names_Cut : P0.funcs[14]? = some F.names_Cut := Proofs.Tryd.func14
theorem C.names_Cut : Called P0 14 := ⟨_, G.names_Cut, by kernel_rfl, by kernel_rfl⟩
def H.names_Cut : Hint := { nt := 19, lg := [], vs := [], nh := [], join := [], loops := [(2, [0, 1, 4, 7])], jc := [] }
noncomputable abbrev B.names_Cut : Code := (F.names_Cut.body).getD .skip
theorem Bd.names_Cut : F.names_Cut.body = some B.names_Cut := by kernel_rfl
noncomputable abbrev L.names_Cut_2 : Code := findL 2 (loopsIn B.names_Cut)
abbrev V.names_Cut_2 : List Nat := (lk? H.names_Cut.loops 2).getD []
abbrev I.cooperageref1_Cut : FuncId := 15
noncomputable abbrev F.cooperageref1_Cut : Func := Proofs.Tryd.f15
theorem G.cooperageref1_Cut : P0.funcs[15]? = some F.cooperageref1_Cut := Proofs.Tryd.func15
theorem C.cooperageref1_Cut : Called P0 15 := ⟨_, G.cooperageref1_Cut, by kernel_rfl, by kernel_rfl⟩
def H.cooperageref1_Cut : Hint := { nt := 33, lg := [], vs := [], nh := [], join := [(2, 16)], loops := [(2, [0, 1, 5])], jc := [] }
noncomputable abbrev B.cooperageref1_Cut : Code := (F.cooperageref1_Cut.body).getD .skip
theorem Bd.cooperageref1_Cut : F.cooperageref1_Cut.body = some B.cooperageref1_Cut := by kernel_rfl
noncomputable abbrev L.cooperageref1_Cut_2 : Code := findL 2 (loopsIn B.cooperageref1_Cut)
abbrev V.cooperageref1_Cut_2 : List Nat := (lk? H.cooperageref1_Cut.loops 2).getD []
abbrev I.cooperagelaw12_alive : FuncId := 16
noncomputable abbrev F.cooperagelaw12_alive : Func := Proofs.Tryd.f16
theorem G.cooperagelaw12_alive : P0.funcs[16]? = some F.cooperagelaw12_alive := Proofs.Tryd.func16
theorem C.cooperagelaw12_alive : Called P0 16 := ⟨_, G.cooperagelaw12_alive, by kernel_rfl, by kernel_rfl⟩
def H.cooperagelaw12_alive : Hint := { nt := 30, lg := [], vs := [], nh := [], join := [(5, 0)], loops := [], jc := [] }
noncomputable abbrev B.cooperagelaw12_alive : Code := (F.cooperagelaw12_alive.body).getD .skip
theorem Bd.cooperagelaw12_alive : F.cooperagelaw12_alive.body = some B.cooperagelaw12_alive := by kernel_rfl
abbrev I.groups_Table_Set : FuncId := 17
noncomputable abbrev F.groups_Table_Set : Func := Proofs.Tryd.f17
theorem G.groups_Table_Set : P0.funcs[17]? = some F.groups_Table_Set := Proofs.Tryd.func17
theorem C.groups_Table_Set : Called P0 17 := ⟨_, G.groups_Table_Set, by kernel_rfl, by kernel_rfl⟩
def H.groups_Table_Set : Hint := { nt := 48, lg := [], vs := [27], nh := [], join := [], loops := [], jc := [] }
noncomputable abbrev B.groups_Table_Set : Code := (F.groups_Table_Set.body).getD .skip
theorem Bd.groups_Table_Set : F.groups_Table_Set.body = some B.groups_Table_Set := by kernel_rfl
abbrev I.cooperagelaw12_num : FuncId := 18
noncomputable abbrev F.cooperagelaw12_num : Func := Proofs.Tryd.f18
theorem G.cooperagelaw12_num : P0.funcs[18]? = some F.cooperagelaw12_num := Proofs.Tryd.func18
theorem C.cooperagelaw12_num : Called P0 18 := ⟨_, G.cooperagelaw12_num, by kernel_rfl, by kernel_rfl⟩
def H.cooperagelaw12_num : Hint := { nt := 4, lg := [], vs := [], nh := [], join := [], loops := [], jc := [] }
noncomputable abbrev B.cooperagelaw12_num : Code := (F.cooperagelaw12_num.body).getD .skip
theorem Bd.cooperagelaw12_num : F.cooperagelaw12_num.body = some B.cooperagelaw12_num := by kernel_rfl
abbrev I.groups_Table_Get : FuncId := 19
noncomputable abbrev F.groups_Table_Get : Func := Proofs.Tryd.f19
theorem G.groups_Table_Get : P0.funcs[19]? = some F.groups_Table_Get := Proofs.Tryd.func19
theorem C.groups_Table_Get : Called P0 19 := ⟨_, G.groups_Table_Get, by kernel_rfl, by kernel_rfl⟩
def H.groups_Table_Get : Hint := { nt := 24, lg := [], vs := [], nh := [], join := [], loops := [], jc := [] }
noncomputable abbrev B.groups_Table_Get : Code := (F.groups_Table_Get.body).getD .skip
theorem Bd.groups_Table_Get : F.groups_Table_Get.body = some B.groups_Table_Get := by kernel_rfl
abbrev I.cooperageref10_Places_Set : FuncId := 20
noncomputable abbrev F.cooperageref10_Places_Set : Func := Proofs.Tryd.f20
theorem G.cooperageref10_Places_Set : P0.funcs[20]? = some F.cooperageref10_Places_Set := Proofs.Tryd.func20
theorem C.cooperageref10_Places_Set : Called P0 20 := ⟨_, G.cooperageref10_Places_Set, by kernel_rfl, by kernel_rfl⟩
def H.cooperageref10_Places_Set : Hint := { nt := 85, lg := [], vs := [], nh := [], join := [(4, 31), (7, 53)], loops := [(4, [0, 1, 2, 7])], jc := [] }
noncomputable abbrev B.cooperageref10_Places_Set : Code := (F.cooperageref10_Places_Set.body).getD .skip
theorem Bd.cooperageref10_Places_Set : F.cooperageref10_Places_Set.body = some B.cooperageref10_Places_Set := by kernel_rfl
noncomputable abbrev L.cooperageref10_Places_Set_4 : Code := findL 4 (loopsIn B.cooperageref10_Places_Set)
abbrev V.cooperageref10_Places_Set_4 : List Nat := (lk? H.cooperageref10_Places_Set.loops 4).getD []
abbrev I.cooperageref10_Places_Get : FuncId := 21
noncomputable abbrev F.cooperageref10_Places_Get : Func := Proofs.Tryd.f21
theorem G.cooperageref10_Places_Get : P0.funcs[21]? = some F.cooperageref10_Places_Get := Proofs.Tryd.func21
theorem C.cooperageref10_Places_Get : Called P0 21 := ⟨_, G.cooperageref10_Places_Get, by kernel_rfl, by kernel_rfl⟩
def H.cooperageref10_Places_Get : Hint := { nt := 34, lg := [], vs := [], nh := [], join := [], loops := [(2, [0, 1, 4, 5, 6])], jc := [] }
noncomputable abbrev B.cooperageref10_Places_Get : Code := (F.cooperageref10_Places_Get.body).getD .skip
theorem Bd.cooperageref10_Places_Get : F.cooperageref10_Places_Get.body = some B.cooperageref10_Places_Get := by kernel_rfl
noncomputable abbrev L.cooperageref10_Places_Get_2 : Code := findL 2 (loopsIn B.cooperageref10_Places_Get)
abbrev V.cooperageref10_Places_Get_2 : List Nat := (lk? H.cooperageref10_Places_Get.loops 2).getD []
abbrev I.cooperagelaw12_SameRows : FuncId := 22
noncomputable abbrev F.cooperagelaw12_SameRows : Func := Proofs.Tryd.f22
theorem G.cooperagelaw12_SameRows : P0.funcs[22]? = some F.cooperagelaw12_SameRows := Proofs.Tryd.func22
theorem C.cooperagelaw12_SameRows : Called P0 22 := ⟨_, G.cooperagelaw12_SameRows, by kernel_rfl, by kernel_rfl⟩
def H.cooperagelaw12_SameRows : Hint := { nt := 41, lg := [], vs := [], nh := [], join := [(6, 40)], loops := [(4, [0, 1, 4, 5])], jc := [] }
noncomputable abbrev B.cooperagelaw12_SameRows : Code := (F.cooperagelaw12_SameRows.body).getD .skip
theorem Bd.cooperagelaw12_SameRows : F.cooperagelaw12_SameRows.body = some B.cooperagelaw12_SameRows := by kernel_rfl
noncomputable abbrev L.cooperagelaw12_SameRows_4 : Code := findL 4 (loopsIn B.cooperagelaw12_SameRows)
abbrev V.cooperagelaw12_SameRows_4 : List Nat := (lk? H.cooperagelaw12_SameRows.loops 4).getD []
abbrev I.groups_Table_Rows : FuncId := 23
noncomputable abbrev F.groups_Table_Rows : Func := Proofs.Tryd.f23
theorem G.groups_Table_Rows : P0.funcs[23]? = some F.groups_Table_Rows := Proofs.Tryd.func23
theorem C.groups_Table_Rows : Called P0 23 := ⟨_, G.groups_Table_Rows, by kernel_rfl, by kernel_rfl⟩
def H.groups_Table_Rows : Hint := { nt := 8, lg := [], vs := [2], nh := [], join := [], loops := [], jc := [] }
noncomputable abbrev B.groups_Table_Rows : Code := (F.groups_Table_Rows.body).getD .skip
theorem Bd.groups_Table_Rows : F.groups_Table_Rows.body = some B.groups_Table_Rows := by kernel_rfl
abbrev I.names_may : FuncId := 24
noncomputable abbrev F.names_may : Func := Proofs.Tryd.f24
theorem G.names_may : P0.funcs[24]? = some F.names_may := Proofs.Tryd.func24
theorem C.names_may : Called P0 24 := ⟨_, G.names_may, by kernel_rfl, by kernel_rfl⟩
def H.names_may : Hint := { nt := 25, lg := [], vs := [], nh := [], join := [(1, 2)], loops := [], jc := [] }
noncomputable abbrev B.names_may : Code := (F.names_may.body).getD .skip
theorem Bd.names_may : F.names_may.body = some B.names_may := by kernel_rfl
abbrev I.names_among : FuncId := 25
noncomputable abbrev F.names_among : Func := Proofs.Tryd.f25
theorem G.names_among : P0.funcs[25]? = some F.names_among := Proofs.Tryd.func25
theorem C.names_among : Called P0 25 := ⟨_, G.names_among, by kernel_rfl, by kernel_rfl⟩
def H.names_among : Hint := { nt := 15, lg := [], vs := [], nh := [], join := [], loops := [(2, [1, 4, 8])], jc := [] }
noncomputable abbrev B.names_among : Code := (F.names_among.body).getD .skip
theorem Bd.names_among : F.names_among.body = some B.names_among := by kernel_rfl
noncomputable abbrev L.names_among_2 : Code := findL 2 (loopsIn B.names_among)
abbrev V.names_among_2 : List Nat := (lk? H.names_among.loops 2).getD []
abbrev I.unicode_utf8_ValidString : FuncId := 26
noncomputable abbrev F.unicode_utf8_ValidString : Func := Proofs.Tryd.f26
theorem G.unicode_utf8_ValidString : P0.funcs[26]? = some F.unicode_utf8_ValidString := Proofs.Tryd.func26
theorem C.unicode_utf8_ValidString : Called P0 26 := ⟨_, G.unicode_utf8_ValidString, by kernel_rfl, by kernel_rfl⟩
def H.unicode_utf8_ValidString : Hint := { nt := 169, lg := [], vs := [], nh := [], join := [(5, 24), (7, 39), (9, 62), (17, 94), (21, 125), (25, 166)], loops := [(1, [0, 2]), (9, [0, 2])], jc := [] }
noncomputable abbrev B.unicode_utf8_ValidString : Code := (F.unicode_utf8_ValidString.body).getD .skip
theorem Bd.unicode_utf8_ValidString : F.unicode_utf8_ValidString.body = some B.unicode_utf8_ValidString := by kernel_rfl
noncomputable abbrev L.unicode_utf8_ValidString_1 : Code := findL 1 (loopsIn B.unicode_utf8_ValidString)
noncomputable abbrev L.unicode_utf8_ValidString_9 : Code := findL 9 (loopsIn B.unicode_utf8_ValidString)
abbrev V.unicode_utf8_ValidString_1 : List Nat := (lk? H.unicode_utf8_ValidString.loops 1).getD []
abbrev V.unicode_utf8_ValidString_9 : List Nat := (lk? H.unicode_utf8_ValidString.loops 9).getD []
abbrev I.cooperageref1_rune1 : FuncId := 27
noncomputable abbrev F.cooperageref1_rune1 : Func := Proofs.Tryd.f27
theorem G.cooperageref1_rune1 : P0.funcs[27]? = some F.cooperageref1_rune1 := Proofs.Tryd.func27
theorem C.cooperageref1_rune1 : Called P0 27 := ⟨_, G.cooperageref1_rune1, by kernel_rfl, by kernel_rfl⟩
def H.cooperageref1_rune1 : Hint := { nt := 86, lg := [], vs := [], nh := [], join := [(8, 18), (12, 27), (16, 36), (26, 63), (29, 83)], loops := [(23, [0, 2, 3, 4, 6, 7, 8, 9])], jc := [] }
noncomputable abbrev B.cooperageref1_rune1 : Code := (F.cooperageref1_rune1.body).getD .skip
theorem Bd.cooperageref1_rune1 : F.cooperageref1_rune1.body = some B.cooperageref1_rune1 := by kernel_rfl
noncomputable abbrev L.cooperageref1_rune1_23 : Code := findL 23 (loopsIn B.cooperageref1_rune1)
abbrev V.cooperageref1_rune1_23 : List Nat := (lk? H.cooperageref1_rune1.loops 23).getD []
abbrev I.groups_Table_find : FuncId := 28
noncomputable abbrev F.groups_Table_find : Func := Proofs.Tryd.f28
theorem G.groups_Table_find : P0.funcs[28]? = some F.groups_Table_find := Proofs.Tryd.func28
theorem C.groups_Table_find : Called P0 28 := ⟨_, G.groups_Table_find, by kernel_rfl, by kernel_rfl⟩
def H.groups_Table_find : Hint := { nt := 14, lg := [], vs := [], nh := [], join := [], loops := [], jc := [] }
noncomputable abbrev B.groups_Table_find : Code := (F.groups_Table_find.body).getD .skip
theorem Bd.groups_Table_find : F.groups_Table_find.body = some B.groups_Table_find := by kernel_rfl
abbrev I.slices_Insert_groups_Row_groups_Row : FuncId := 29
noncomputable abbrev F.slices_Insert_groups_Row_groups_Row : Func := Proofs.Tryd.f29
theorem G.slices_Insert_groups_Row_groups_Row : P0.funcs[29]? = some F.slices_Insert_groups_Row_groups_Row := Proofs.Tryd.func29
theorem C.slices_Insert_groups_Row_groups_Row : Called P0 29 := ⟨_, G.slices_Insert_groups_Row_groups_Row, by kernel_rfl, by kernel_rfl⟩
def H.slices_Insert_groups_Row_groups_Row : Hint := { nt := 95, lg := [], vs := [6], nh := [], join := [], loops := [], jc := [] }
noncomputable abbrev B.slices_Insert_groups_Row_groups_Row : Code := (F.slices_Insert_groups_Row_groups_Row.body).getD .skip
theorem Bd.slices_Insert_groups_Row_groups_Row : F.slices_Insert_groups_Row_groups_Row.body = some B.slices_Insert_groups_Row_groups_Row := by kernel_rfl
abbrev I.slices_Clone_groups_Row_groups_Row : FuncId := 30
noncomputable abbrev F.slices_Clone_groups_Row_groups_Row : Func := Proofs.Tryd.f30
theorem G.slices_Clone_groups_Row_groups_Row : P0.funcs[30]? = some F.slices_Clone_groups_Row_groups_Row := Proofs.Tryd.func30
theorem C.slices_Clone_groups_Row_groups_Row : Called P0 30 := ⟨_, G.slices_Clone_groups_Row_groups_Row, by kernel_rfl, by kernel_rfl⟩
def H.slices_Clone_groups_Row_groups_Row : Hint := { nt := 8, lg := [], vs := [2], nh := [], join := [], loops := [], jc := [] }
noncomputable abbrev B.slices_Clone_groups_Row_groups_Row : Code := (F.slices_Clone_groups_Row_groups_Row.body).getD .skip
theorem Bd.slices_Clone_groups_Row_groups_Row : F.slices_Clone_groups_Row_groups_Row.body = some B.slices_Clone_groups_Row_groups_Row := by kernel_rfl
abbrev I.unicode_utf8_word_string : FuncId := 31
noncomputable abbrev F.unicode_utf8_word_string : Func := Proofs.Tryd.f31
theorem G.unicode_utf8_word_string : P0.funcs[31]? = some F.unicode_utf8_word_string := Proofs.Tryd.func31
theorem C.unicode_utf8_word_string : Called P0 31 := ⟨_, G.unicode_utf8_word_string, by kernel_rfl, by kernel_rfl⟩
def H.unicode_utf8_word_string : Hint := { nt := 59, lg := [], vs := [], nh := [], join := [], loops := [], jc := [] }
noncomputable abbrev B.unicode_utf8_word_string : Code := (F.unicode_utf8_word_string.body).getD .skip
theorem Bd.unicode_utf8_word_string : F.unicode_utf8_word_string.body = some B.unicode_utf8_word_string := by kernel_rfl
abbrev I.slices_BinarySearchFunc_groups_Row_groups_Row_string : FuncId := 32
noncomputable abbrev F.slices_BinarySearchFunc_groups_Row_groups_Row_string : Func := Proofs.Tryd.f32
theorem G.slices_BinarySearchFunc_groups_Row_groups_Row_string : P0.funcs[32]? = some F.slices_BinarySearchFunc_groups_Row_groups_Row_string := Proofs.Tryd.func32
theorem C.slices_BinarySearchFunc_groups_Row_groups_Row_string : Called P0 32 := ⟨_, G.slices_BinarySearchFunc_groups_Row_groups_Row_string, by kernel_rfl, by kernel_rfl⟩
def H.slices_BinarySearchFunc_groups_Row_groups_Row_string : Hint := { nt := 49, lg := [], vs := [], nh := [], join := [], loops := [(3, [0, 1, 2, 8, 9, 10])], jc := [] }
noncomputable abbrev B.slices_BinarySearchFunc_groups_Row_groups_Row_string : Code := (F.slices_BinarySearchFunc_groups_Row_groups_Row_string.body).getD .skip
theorem Bd.slices_BinarySearchFunc_groups_Row_groups_Row_string : F.slices_BinarySearchFunc_groups_Row_groups_Row_string.body = some B.slices_BinarySearchFunc_groups_Row_groups_Row_string := by kernel_rfl
noncomputable abbrev L.slices_BinarySearchFunc_groups_Row_groups_Row_string_3 : Code := findL 3 (loopsIn B.slices_BinarySearchFunc_groups_Row_groups_Row_string)
abbrev V.slices_BinarySearchFunc_groups_Row_groups_Row_string_3 : List Nat := (lk? H.slices_BinarySearchFunc_groups_Row_groups_Row_string.loops 3).getD []
abbrev I.groups_Table_find_1 : FuncId := 33
noncomputable abbrev F.groups_Table_find_1 : Func := Proofs.Tryd.f33
theorem G.groups_Table_find_1 : P0.funcs[33]? = some F.groups_Table_find_1 := Proofs.Tryd.func33
theorem C.groups_Table_find_1 : Called P0 33 := ⟨_, G.groups_Table_find_1, by kernel_rfl, by kernel_rfl⟩
def H.groups_Table_find_1 : Hint := { nt := 9, lg := [], vs := [], nh := [], join := [], loops := [], jc := [] }
noncomputable abbrev B.groups_Table_find_1 : Code := (F.groups_Table_find_1.body).getD .skip
theorem Bd.groups_Table_find_1 : F.groups_Table_find_1.body = some B.groups_Table_find_1 := by kernel_rfl
abbrev I.strings_Compare : FuncId := 34
noncomputable abbrev F.strings_Compare : Func := Proofs.Tryd.f34
theorem G.strings_Compare : P0.funcs[34]? = some F.strings_Compare := Proofs.Tryd.func34
theorem C.strings_Compare : Called P0 34 := ⟨_, G.strings_Compare, by kernel_rfl, by kernel_rfl⟩
def H.strings_Compare : Hint := { nt := 8, lg := [], vs := [], nh := [], join := [], loops := [], jc := [] }
noncomputable abbrev B.strings_Compare : Code := (F.strings_Compare.body).getD .skip
theorem Bd.strings_Compare : F.strings_Compare.body = some B.strings_Compare := by kernel_rfl
abbrev I.slices_rotateRight_groups_Row : FuncId := 36
noncomputable abbrev F.slices_rotateRight_groups_Row : Func := Proofs.Tryd.f36
theorem G.slices_rotateRight_groups_Row : P0.funcs[36]? = some F.slices_rotateRight_groups_Row := Proofs.Tryd.func36
theorem C.slices_rotateRight_groups_Row : Called P0 36 := ⟨_, G.slices_rotateRight_groups_Row, by kernel_rfl, by kernel_rfl⟩
def H.slices_rotateRight_groups_Row : Hint := { nt := 10, lg := [], vs := [], nh := [], join := [], loops := [], jc := [] }
noncomputable abbrev B.slices_rotateRight_groups_Row : Code := (F.slices_rotateRight_groups_Row.body).getD .skip
theorem Bd.slices_rotateRight_groups_Row : F.slices_rotateRight_groups_Row.body = some B.slices_rotateRight_groups_Row := by kernel_rfl
abbrev I.internal_bytealg_CompareString : FuncId := 37
noncomputable abbrev F.internal_bytealg_CompareString : Func := Proofs.Tryd.f37
theorem G.internal_bytealg_CompareString : P0.funcs[37]? = some F.internal_bytealg_CompareString := Proofs.Tryd.func37
theorem C.internal_bytealg_CompareString : Called P0 37 := ⟨_, G.internal_bytealg_CompareString, by kernel_rfl, by kernel_rfl⟩
def H.internal_bytealg_CompareString : Hint := { nt := 8, lg := [], vs := [], nh := [], join := [], loops := [], jc := [] }
noncomputable abbrev B.internal_bytealg_CompareString : Code := (F.internal_bytealg_CompareString.body).getD .skip
theorem Bd.internal_bytealg_CompareString : F.internal_bytealg_CompareString.body = some B.internal_bytealg_CompareString := by kernel_rfl
abbrev I.slices_rotateLeft_groups_Row : FuncId := 38
noncomputable abbrev F.slices_rotateLeft_groups_Row : Func := Proofs.Tryd.f38
theorem G.slices_rotateLeft_groups_Row : P0.funcs[38]? = some F.slices_rotateLeft_groups_Row := Proofs.Tryd.func38
theorem C.slices_rotateLeft_groups_Row : Called P0 38 := ⟨_, G.slices_rotateLeft_groups_Row, by kernel_rfl, by kernel_rfl⟩
def H.slices_rotateLeft_groups_Row : Hint := { nt := 14, lg := [], vs := [], nh := [], join := [], loops := [], jc := [] }
noncomputable abbrev B.slices_rotateLeft_groups_Row : Code := (F.slices_rotateLeft_groups_Row.body).getD .skip
theorem Bd.slices_rotateLeft_groups_Row : F.slices_rotateLeft_groups_Row.body = some B.slices_rotateLeft_groups_Row := by kernel_rfl
abbrev I.slices_Reverse_groups_Row_groups_Row : FuncId := 40
noncomputable abbrev F.slices_Reverse_groups_Row_groups_Row : Func := Proofs.Tryd.f40
theorem G.slices_Reverse_groups_Row_groups_Row : P0.funcs[40]? = some F.slices_Reverse_groups_Row_groups_Row := Proofs.Tryd.func40
theorem C.slices_Reverse_groups_Row_groups_Row : Called P0 40 := ⟨_, G.slices_Reverse_groups_Row_groups_Row, by kernel_rfl, by kernel_rfl⟩
def H.slices_Reverse_groups_Row_groups_Row : Hint := { nt := 28, lg := [], vs := [], nh := [], join := [], loops := [(1, [0, 2, 3])], jc := [] }
noncomputable abbrev B.slices_Reverse_groups_Row_groups_Row : Code := (F.slices_Reverse_groups_Row_groups_Row.body).getD .skip
theorem Bd.slices_Reverse_groups_Row_groups_Row : F.slices_Reverse_groups_Row_groups_Row.body = some B.slices_Reverse_groups_Row_groups_Row := by kernel_rfl
noncomputable abbrev L.slices_Reverse_groups_Row_groups_Row_1 : Code := findL 1 (loopsIn B.slices_Reverse_groups_Row_groups_Row)
abbrev V.slices_Reverse_groups_Row_groups_Row_1 : List Nat := (lk? H.slices_Reverse_groups_Row_groups_Row.loops 1).getD []
end Go.Sim
namespace Go.Sim
def bt (l : List UInt8) (k : Nat) : Nat := (l.getD k 0).toNat
def contL (l : List UInt8) (k : Nat) : Bool := decide (k < l.length) && bt l k / 64 == 2
/-- A text's first rune and its length. -/
def dec1 (l : List UInt8) : Nat × Nat :=
  if bt l 0 < 0x80 then (bt l 0, 1)
  else if bt l 0 / 32 == 6 && contL l 1 then
    (if (bt l 0 % 32) * 64 + bt l 1 % 64 ≥ 0x80 then ((bt l 0 % 32) * 64 + bt l 1 % 64, 2) else (0xFFFD, 1))
  else if bt l 0 / 16 == 14 && contL l 1 && contL l 2 then
    (if (bt l 0 % 16) * 4096 + (bt l 1 % 64) * 64 + bt l 2 % 64 ≥ 0x800 && Utf8.valid (((bt l 0 % 16) * 4096 + (bt l 1 % 64) * 64 + bt l 2 % 64 : Nat) : Int) then ((bt l 0 % 16) * 4096 + (bt l 1 % 64) * 64 + bt l 2 % 64, 3) else (0xFFFD, 1))
  else if bt l 0 / 8 == 30 && contL l 1 && contL l 2 && contL l 3 then
    (if (bt l 0 % 8) * 262144 + (bt l 1 % 64) * 4096 + (bt l 2 % 64) * 64 + bt l 3 % 64 ≥ 0x10000 && Utf8.valid (((bt l 0 % 8) * 262144 + (bt l 1 % 64) * 4096 + (bt l 2 % 64) * 64 + bt l 3 % 64 : Nat) : Int) then ((bt l 0 % 8) * 262144 + (bt l 1 % 64) * 4096 + (bt l 2 % 64) * 64 + bt l 3 % 64, 4) else (0xFFFD, 1))
  else (0xFFFD, 1)
theorem get_bt (s : List UInt8) (i k : Nat) : ((⟨s.toArray⟩ : ByteArray).get! (i + k)).toNat = bt (s.drop i) k := by
  unfold bt ByteArray.get!
  rw [List.getD_eq_getElem?_getD, List.getElem?_drop]
  congr 1
  rcases Nat.lt_or_ge (i + k) s.length with h | h
  · simp [h]
  · have h2 : s[i + k]? = none := by simpa using h
    rw [h2]
    simp [h]
    rfl
theorem size_drop (s : List UInt8) (i k : Nat) : decide (i + k < (⟨s.toArray⟩ : ByteArray).size) = decide (k < (s.drop i).length) := by
  apply decide_eq_decide.2
  have : (⟨s.toArray⟩ : ByteArray).size = s.length := by simp [ByteArray.size]
  rw [this, List.length_drop]
  omega
theorem decode_dec1 (s : List UInt8) (pos : Nat) : Utf8.decode ⟨s.toArray⟩ pos = dec1 (s.drop pos) := by
  unfold Utf8.decode dec1
  simp only [size_drop, get_bt, Utf8.runeError, contL]
  rfl
theorem dec1_pos (l : List UInt8) : 1 ≤ (dec1 l).2 := by
  unfold dec1
  repeat' split
  all_goals simp
theorem contL_lt {l : List UInt8} {k : Nat} (h : contL l k = true) : k < l.length := by
  unfold contL at h
  simp only [Bool.and_eq_true, decide_eq_true_eq] at h
  exact h.1
theorem dec1_le (l : List UInt8) (h : l ≠ []) : (dec1 l).2 ≤ l.length := by
  have hl : 1 ≤ l.length := by cases l with | nil => exact absurd rfl h | cons a b => simp
  unfold dec1
  split
  · exact hl
  · split
    · rename_i h2
      simp only [Bool.and_eq_true] at h2
      have := contL_lt h2.2
      split <;> simp <;> omega
    · split
      · rename_i h2
        simp only [Bool.and_eq_true] at h2
        have := contL_lt h2.2
        split <;> simp <;> omega
      · split
        · rename_i h2
          simp only [Bool.and_eq_true] at h2
          have := contL_lt h2.2
          split <;> simp <;> omega
        · exact hl
/-- How many runes there are. -/
def cnt (l : List UInt8) : Nat := if h : l = [] then 0 else cnt (l.drop (dec1 l).2) + 1
termination_by l.length
decreasing_by
  have := dec1_pos l
  have hl : 1 ≤ l.length := by cases l with | nil => exact absurd rfl h | cons a b => simp
  simp
  omega
/-- How many bytes the first n runes have. -/
def cutP (l : List UInt8) (n : Nat) : Nat := match n with
  | 0 => 0
  | n + 1 => if l = [] then 0 else (dec1 l).2 + cutP (l.drop (dec1 l).2) n
theorem cnt_nil : cnt [] = 0 := by rw [cnt]; simp
theorem cnt_cons (l : List UInt8) (h : l ≠ []) : cnt l = cnt (l.drop (dec1 l).2) + 1 := by rw [cnt]; simp [h]
theorem bt_take (l : List UInt8) (m k : Nat) (h : k < m) : bt (l.take m) k = bt l k := by
  unfold bt
  rw [List.getD_eq_getElem?_getD, List.getD_eq_getElem?_getD, List.getElem?_take_of_lt h]
theorem contL_take (l : List UInt8) (m k : Nat) (h : k < m) : contL (l.take m) k = contL l k := by
  unfold contL
  rw [bt_take l m k h]
  congr 1
  apply decide_eq_decide.2
  rw [List.length_take]
  omega
theorem contL_short (l : List UInt8) (m k : Nat) (h : m ≤ k) : contL (l.take m) k = false := by
  unfold contL
  have : ¬ k < (l.take m).length := by rw [List.length_take]; omega
  rw [decide_eq_false this]
  rfl
def decC (p x2 v2 x3 v3 x4 v4 : Bool) (r1 r2 r3 r4 : Nat) : Nat × Nat :=
  bif p then (r1, 1) else bif x2 then (bif v2 then (r2, 2) else (0xFFFD, 1)) else bif x3 then (bif v3 then (r3, 3) else (0xFFFD, 1)) else bif x4 then (bif v4 then (r4, 4) else (0xFFFD, 1)) else (0xFFFD, 1)
theorem decC_3 {p x2 v2 x3 v3 x4 v4 w4 : Bool} {r1 r2 r3 r4 s4 : Nat} (h : (decC p x2 v2 x3 v3 x4 v4 r1 r2 r3 r4).2 ≤ 3) : decC p x2 v2 x3 v3 false w4 r1 r2 r3 s4 = decC p x2 v2 x3 v3 x4 v4 r1 r2 r3 r4 := by
  revert h
  cases p <;> cases x2 <;> cases v2 <;> cases x3 <;> cases v3 <;> cases x4 <;> cases v4 <;> simp [decC]
theorem decC_2 {p x2 v2 x3 v3 x4 v4 w3 w4 : Bool} {r1 r2 r3 r4 s3 s4 : Nat} (h : (decC p x2 v2 x3 v3 x4 v4 r1 r2 r3 r4).2 ≤ 2) : decC p x2 v2 false w3 false w4 r1 r2 s3 s4 = decC p x2 v2 x3 v3 x4 v4 r1 r2 r3 r4 := by
  revert h
  cases p <;> cases x2 <;> cases v2 <;> cases x3 <;> cases v3 <;> cases x4 <;> cases v4 <;> simp [decC]
theorem decC_1 {p x2 v2 x3 v3 x4 v4 w2 w3 w4 : Bool} {r1 r2 r3 r4 s2 s3 s4 : Nat} (h : (decC p x2 v2 x3 v3 x4 v4 r1 r2 r3 r4).2 ≤ 1) : decC p false w2 false w3 false w4 r1 s2 s3 s4 = decC p x2 v2 x3 v3 x4 v4 r1 r2 r3 r4 := by
  revert h
  cases p <;> cases x2 <;> cases v2 <;> cases x3 <;> cases v3 <;> cases x4 <;> cases v4 <;> simp [decC]
theorem ite_cond {α : Type} {c : Prop} [Decidable c] {a b : α} : (if c then a else b) = bif decide c then a else b := by
  by_cases h : c <;> simp [h]
theorem dec1_decC (l : List UInt8) : dec1 l = decC (decide (bt l 0 < 0x80)) (bt l 0 / 32 == 6 && contL l 1) (decide ((bt l 0 % 32) * 64 + bt l 1 % 64 ≥ 0x80)) (bt l 0 / 16 == 14 && contL l 1 && contL l 2)
    (decide ((bt l 0 % 16) * 4096 + (bt l 1 % 64) * 64 + bt l 2 % 64 ≥ 0x800) && Utf8.valid (((bt l 0 % 16) * 4096 + (bt l 1 % 64) * 64 + bt l 2 % 64 : Nat) : Int)) (bt l 0 / 8 == 30 && contL l 1 && contL l 2 && contL l 3)
    (decide ((bt l 0 % 8) * 262144 + (bt l 1 % 64) * 4096 + (bt l 2 % 64) * 64 + bt l 3 % 64 ≥ 0x10000) && Utf8.valid (((bt l 0 % 8) * 262144 + (bt l 1 % 64) * 4096 + (bt l 2 % 64) * 64 + bt l 3 % 64 : Nat) : Int))
    (bt l 0) ((bt l 0 % 32) * 64 + bt l 1 % 64) ((bt l 0 % 16) * 4096 + (bt l 1 % 64) * 64 + bt l 2 % 64) ((bt l 0 % 8) * 262144 + (bt l 1 % 64) * 4096 + (bt l 2 % 64) * 64 + bt l 3 % 64) := by
  unfold dec1 decC
  simp only [ite_cond, Bool.decide_eq_true]
theorem dec1_take (l : List UInt8) (m : Nat) (h0 : 1 ≤ m) (h : (dec1 l).2 ≤ m) : dec1 (l.take m) = dec1 l := by
  have b0 := bt_take l m 0 h0
  rw [dec1_decC] at h
  rw [dec1_decC (l.take m), dec1_decC l]
  rcases Nat.lt_or_ge 3 m with h4 | h4
  · simp only [b0, bt_take l m 1 (by omega), bt_take l m 2 (by omega), bt_take l m 3 (by omega), contL_take l m 1 (by omega), contL_take l m 2 (by omega), contL_take l m 3 (by omega)]
  · have c3 := contL_short l m 3 h4
    rcases Nat.lt_or_ge 2 m with h3 | h3
    · simp only [b0, bt_take l m 1 (by omega), bt_take l m 2 (by omega), contL_take l m 1 (by omega), contL_take l m 2 (by omega), c3, Bool.and_false]
      exact decC_3 (Nat.le_trans h h4)
    · have c2 := contL_short l m 2 h3
      rcases Nat.lt_or_ge 1 m with h2 | h2
      · simp only [b0, bt_take l m 1 (by omega), contL_take l m 1 (by omega), c2, c3, Bool.and_false]
        exact decC_2 (Nat.le_trans h h3)
      · have c1 := contL_short l m 1 h2
        simp only [b0, c1, c2, c3, Bool.and_false]
        exact decC_1 (Nat.le_trans h h2)
/-! ### Cutting -/
theorem cutP_le : ∀ (n : Nat) (l : List UInt8), cutP l n ≤ l.length
  | 0, l => by simp [cutP]
  | n + 1, l => by
    simp only [cutP]
    split
    · simp
    · rename_i h
      have h1 := dec1_le l h
      have h2 := cutP_le n (l.drop (dec1 l).2)
      rw [List.length_drop] at h2
      omega
theorem cnt_split : ∀ (n : Nat) (l : List UInt8), cnt (l.take (cutP l n)) = min n (cnt l) ∧ cnt (l.take (cutP l n)) + cnt (l.drop (cutP l n)) = cnt l
  | 0, l => by simp [cutP, cnt_nil]
  | n + 1, l => by
    simp only [cutP]
    split
    · rename_i h
      subst h
      simp [cnt_nil]
    · rename_i h
      have h1 := dec1_le l h
      have hp := dec1_pos l
      obtain ⟨i1, i2⟩ := cnt_split n (l.drop (dec1 l).2)
      have hd : dec1 (l.take ((dec1 l).2 + cutP (l.drop (dec1 l).2) n)) = dec1 l := dec1_take l _ (by omega) (by omega)
      have hne : l.take ((dec1 l).2 + cutP (l.drop (dec1 l).2) n) ≠ [] := by
        intro e
        have := congrArg List.length e
        simp at this
        rcases this with h' | h'
        · omega
        · exact h h'
      have e1 : cnt (l.take ((dec1 l).2 + cutP (l.drop (dec1 l).2) n)) = cnt ((l.drop (dec1 l).2).take (cutP (l.drop (dec1 l).2) n)) + 1 := by
        rw [cnt_cons _ hne, hd, List.drop_take]
        congr 3
        omega
      have e2 : l.drop ((dec1 l).2 + cutP (l.drop (dec1 l).2) n) = (l.drop (dec1 l).2).drop (cutP (l.drop (dec1 l).2) n) := by rw [List.drop_drop]
      rw [e1, e2, cnt_cons l h]
      omega
/-- What is cut off is cut off again whole. -/
theorem cut_again (n : Nat) (l : List UInt8) : ∀ k, n ≤ k → cutP (l.take (cutP l n)) k = cutP l n := by
  induction n generalizing l with
  | zero => intro k _; cases k <;> simp [cutP]
  | succ n ih =>
    intro k hk
    obtain ⟨k, rfl⟩ : ∃ j, k = j + 1 := ⟨k - 1, by omega⟩
    by_cases h : l = []
    · subst h; simp [cutP]
    · have h1 := dec1_le l h
      have hp := dec1_pos l
      have hc : cutP l (n + 1) = (dec1 l).2 + cutP (l.drop (dec1 l).2) n := by simp [cutP, h]
      rw [hc]
      have hd : dec1 (l.take ((dec1 l).2 + cutP (l.drop (dec1 l).2) n)) = dec1 l := dec1_take l _ (by omega) (by omega)
      have hne : l.take ((dec1 l).2 + cutP (l.drop (dec1 l).2) n) ≠ [] := by
        intro e
        have := congrArg List.length e
        simp at this
        rcases this with h' | h'
        · omega
        · exact h h'
      simp only [cutP, hne, if_false, hd]
      rw [List.drop_take, show (dec1 l).2 + cutP (l.drop (dec1 l).2) n - (dec1 l).2 = cutP (l.drop (dec1 l).2) n by omega, ih _ k (by omega)]
theorem cnt_le : ∀ (m : Nat) (l : List UInt8), l.length ≤ m → cnt l ≤ l.length
  | 0, l, h => by
    have : l = [] := List.length_eq_zero_iff.1 (by omega)
    subst this
    simp [cnt_nil]
  | m + 1, l, h => by
    by_cases hl : l = []
    · subst hl; simp [cnt_nil]
    · have hp := dec1_pos l
      have hle := dec1_le l hl
      have ih := cnt_le m (l.drop (dec1 l).2) (by simp; omega)
      rw [List.length_drop] at ih
      rw [cnt_cons l hl]
      omega
/-! ### Is it one of them? -/
/-- How many bytes there are up to the first rune that is c, it with them. -/
def findF : Nat → List UInt8 → Int → Option Nat
  | 0, _, _ => none
  | m + 1, l, c => bif l.isEmpty then none else bif (((dec1 l).1 : Nat) : Int) == c then some (dec1 l).2 else (findF m (l.drop (dec1 l).2) c).map fun k => (dec1 l).2 + k
def hasR (l : List UInt8) (c : Int) : Bool := (findF l.length l c).isSome
end Go.Sim
namespace Go.Sim
def byB (l : List UInt8) (k : Nat) : BitVec 64 := BitVec.ofNat 64 (bt l k * 256 ^ k)
/-- The first eight bytes as one number. -/
def w8 (l : List UInt8) : BitVec 64 := byB l 0 ||| byB l 1 ||| byB l 2 ||| byB l 3 ||| byB l 4 ||| byB l 5 ||| byB l 6 ||| byB l 7
def m80 : BitVec 64 := BitVec.ofInt 64 9259542123273814144
theorem bt_lt (l : List UInt8) (k : Nat) : bt l k < 256 := UInt8.toNat_lt _
theorem byB_bit (l : List UInt8) (k : Nat) (hk : k < 8) : (byB l k).getLsbD (8 * k + 7) = (bt l k).testBit 7 := by
  unfold byB
  rw [BitVec.getLsbD_ofNat]
  have h1 : decide (8 * k + 7 < 64) = true := decide_eq_true (by omega)
  rw [h1, Bool.true_and, show 256 ^ k = 2 ^ (8 * k) by rw [Nat.pow_mul], Nat.testBit_mul_two_pow]
  simp
theorem m80_bit (k : Nat) (hk : k < 8) : m80.getLsbD (8 * k + 7) = true := by
  have : ∀ k : Fin 8, m80.getLsbD (8 * k.val + 7) = true := by decide
  exact this ⟨k, hk⟩
theorem bit7 (n : Nat) (h : n < 256) (hb : n.testBit 7 = false) : n < 128 := by
  rcases Nat.lt_or_ge n 128 with h' | h'
  · exact h'
  · have : n.testBit 7 = true := by
      rw [Nat.testBit_eq_decide_div_mod_eq]
      have : n / 2 ^ 7 = 1 := by omega
      rw [this]
      rfl
    rw [this] at hb; cases hb
/-- No byte of eight has its highest bit where the mask finds none. -/
theorem w8_low (l : List UInt8) (h : w8 l &&& m80 = 0) : ∀ k, k < 8 → bt l k < 128 := fun k hk => by
  apply bit7 _ (bt_lt l k)
  have h1 := congrArg (fun x : BitVec 64 => x.getLsbD (8 * k + 7)) h
  simp only [BitVec.getLsbD_and, m80_bit k hk, Bool.and_true, w8, BitVec.getLsbD_or] at h1
  have h2 : (0 : BitVec 64).getLsbD (8 * k + 7) = false := by simp
  rw [h2] at h1
  simp only [Bool.or_eq_false_iff] at h1
  have key := byB_bit l k hk
  obtain ⟨⟨⟨⟨⟨⟨⟨a0, a1⟩, a2⟩, a3⟩, a4⟩, a5⟩, a6⟩, a7⟩ := h1
  rw [← key]
  rcases (show k = 0 ∨ k = 1 ∨ k = 2 ∨ k = 3 ∨ k = 4 ∨ k = 5 ∨ k = 6 ∨ k = 7 by omega) with rfl | rfl | rfl | rfl | rfl | rfl | rfl | rfl
  · exact a0
  · exact a1
  · exact a2
  · exact a3
  · exact a4
  · exact a5
  · exact a6
  · exact a7
theorem ofInt_wrap (x : BitVec 64) : BitVec.ofInt 64 (IntKind.u64.wrap (x.toNat : Int)) = x := by
  have := x.isLt
  rw [wrapu64 (by omega) (by omega)]
  simp
theorem wrap_toNat (x : BitVec 64) : IntKind.u64.wrap (x.toNat : Int) = (x.toNat : Int) := by
  have := x.isLt
  exact wrapu64 (by omega) (by omega)
theorem ofInt_byte (l : List UInt8) : BitVec.ofInt 64 (IntKind.u64.wrap (((l.getD 0 0).toNat : Nat) : Int)) = byB l 0 := by
  have := bt_lt l 0
  unfold bt at this
  rw [wrapu64 (by omega) (by omega)]
  unfold byB bt
  simp
theorem ofInt_shift (l : List UInt8) (k : Nat) (c : Int) (hc : c = ((256 ^ k : Nat) : Int)) (hk : k < 8) : BitVec.ofInt 64 (IntKind.u64.wrap (IntKind.u64.wrap (((l.getD k 0).toNat : Nat) : Int) * c)) = byB l k := by
  have := bt_lt l k
  unfold bt at this
  have hp : 256 ^ k ≤ 72057594037927936 := by
    rcases (show k = 0 ∨ k = 1 ∨ k = 2 ∨ k = 3 ∨ k = 4 ∨ k = 5 ∨ k = 6 ∨ k = 7 by omega) with rfl | rfl | rfl | rfl | rfl | rfl | rfl | rfl <;> decide
  have hm : (l.getD k 0).toNat * 256 ^ k ≤ 255 * 72057594037927936 := Nat.mul_le_mul (by omega) hp
  have e : IntKind.u64.wrap (((l.getD k 0).toNat : Nat) : Int) = (((l.getD k 0).toNat : Nat) : Int) := wrapu64 (by omega) (by omega)
  rw [e, hc, ← Int.natCast_mul, wrapu64 (by omega) (by omega)]
  unfold byB bt
  rw [← BitVec.ofInt_natCast]
end Go.Sim
namespace Go.Sim
def tailB (n : Nat) : Bool := decide (128 ≤ n) && decide (n ≤ 191)
/-- How long the first rune is, if it is right. -/
def good1 (l : List UInt8) : Option Nat :=
  if bt l 0 < 128 then some 1
  else if bt l 0 < 194 then none
  else if bt l 0 < 224 then (if decide (2 ≤ l.length) && tailB (bt l 1) then some 2 else none)
  else if bt l 0 < 240 then (if decide (3 ≤ l.length) && tailB (bt l 1) && (decide (bt l 0 ≠ 224) || decide (160 ≤ bt l 1)) && (decide (bt l 0 ≠ 237) || decide (bt l 1 ≤ 159)) && tailB (bt l 2) then some 3 else none)
  else if bt l 0 < 245 then (if decide (4 ≤ l.length) && tailB (bt l 1) && (decide (bt l 0 ≠ 240) || decide (144 ≤ bt l 1)) && (decide (bt l 0 ≠ 244) || decide (bt l 1 ≤ 143)) && tailB (bt l 2) && tailB (bt l 3) then some 4 else none)
  else none
/-- All of it is right; m: at most so many runes. -/
def okF : Nat → List UInt8 → Bool
  | 0, l => l.isEmpty
  | m + 1, l => bif l.isEmpty then true else match good1 l with
    | none => false
    | some w => okF m (l.drop w)
/-- Where it ends. -/
def endF : Nat → List UInt8 → List UInt8
  | 0, l => l
  | m + 1, l => bif l.isEmpty then [] else match good1 l with
    | none => l
    | some w => endF m (l.drop w)
theorem good1_pos {l : List UInt8} {w : Nat} (h : good1 l = some w) : 1 ≤ w := by
  unfold good1 at h
  repeat' split at h
  all_goals first | (cases h; decide) | cases h
theorem good1_le {l : List UInt8} {w : Nat} (hl : l ≠ []) (h : good1 l = some w) : w ≤ l.length := by
  have h1 : 1 ≤ l.length := by cases l with | nil => exact absurd rfl hl | cons a b => simp
  unfold good1 at h
  repeat' split at h
  all_goals first
    | (cases h; rename_i hc; simp only [Bool.and_eq_true, decide_eq_true_eq] at hc; omega)
    | (cases h; omega)
    | cases h
theorem ok_more : ∀ (m : Nat) (l : List UInt8), l.length ≤ m → okF (m + 1) l = okF m l ∧ endF (m + 1) l = endF m l
  | 0, l, h => by
    have : l = [] := List.length_eq_zero_iff.1 (by omega)
    subst this
    exact ⟨rfl, rfl⟩
  | m + 1, l, h => by
    by_cases hl : l = []
    · subst hl; exact ⟨rfl, rfl⟩
    · have he : l.isEmpty = false := by cases l with | nil => exact absurd rfl hl | cons a b => rfl
      cases hg : good1 l with
      | none => rw [okF, okF, endF, endF, he, hg]; exact ⟨rfl, rfl⟩
      | some w =>
        have hp := good1_pos hg
        have hw := good1_le hl hg
        have ih := ok_more m (l.drop w) (by simp; omega)
        rw [okF, endF, he, hg]
        rw [show okF (m + 1) l = (bif l.isEmpty then true else match good1 l with | none => false | some w => okF m (l.drop w)) from rfl, show endF (m + 1) l = (bif l.isEmpty then [] else match good1 l with | none => l | some w => endF m (l.drop w)) from rfl, he, hg]
        exact ih
def okL (l : List UInt8) : Bool := okF l.length l
def endL (l : List UInt8) : List UInt8 := endF l.length l
theorem ok_fuel (l : List UInt8) : ∀ m, l.length ≤ m → okF m l = okL l ∧ endF m l = endL l := by
  intro m h
  induction m with
  | zero =>
    have : l = [] := List.length_eq_zero_iff.1 (by omega)
    subst this
    exact ⟨rfl, rfl⟩
  | succ m ih =>
    rcases Nat.lt_or_ge m l.length with h' | h'
    · have : m + 1 = l.length := by omega
      unfold okL endL
      rw [this]
      exact ⟨rfl, rfl⟩
    · obtain ⟨a, b⟩ := ok_more m l h'
      obtain ⟨c, d⟩ := ih h'
      exact ⟨a.trans c, b.trans d⟩
theorem okL_nil : okL [] = true := rfl
theorem endL_nil : endL [] = [] := rfl
theorem okL_some {l : List UInt8} {w : Nat} (hl : l ≠ []) (h : good1 l = some w) : okL l = okL (l.drop w) ∧ endL l = endL (l.drop w) := by
  have he : l.isEmpty = false := by cases l with | nil => exact absurd rfl hl | cons a b => rfl
  have h1 : 1 ≤ l.length := by cases l with | nil => exact absurd rfl hl | cons a b => simp
  have hp := good1_pos h
  obtain ⟨m, hm⟩ : ∃ m, l.length = m + 1 := ⟨l.length - 1, by omega⟩
  obtain ⟨a, b⟩ := ok_fuel (l.drop w) m (by simp; omega)
  unfold okL endL
  rw [hm, okF, endF, he, h]
  exact ⟨a, b⟩
theorem okL_none {l : List UInt8} (hl : l ≠ []) (h : good1 l = none) : okL l = false ∧ endL l = l := by
  have he : l.isEmpty = false := by cases l with | nil => exact absurd rfl hl | cons a b => rfl
  have h1 : 1 ≤ l.length := by cases l with | nil => exact absurd rfl hl | cons a b => simp
  obtain ⟨m, hm⟩ : ∃ m, l.length = m + 1 := ⟨l.length - 1, by omega⟩
  unfold okL endL
  rw [hm, okF, endF, he, h]
  exact ⟨rfl, rfl⟩
theorem bt_drop (l : List UInt8) (j k : Nat) : bt (l.drop j) k = bt l (j + k) := by
  unfold bt
  rw [List.getD_eq_getElem?_getD, List.getD_eq_getElem?_getD, List.getElem?_drop]
/-- Plain letters are passed over. -/
theorem okL_asc : ∀ (j : Nat) (l : List UInt8), j ≤ l.length → (∀ k, k < j → bt l k < 128) → okL l = okL (l.drop j) ∧ endL l = endL (l.drop j)
  | 0, l, _, _ => ⟨rfl, rfl⟩
  | j + 1, l, h, ha => by
    have hl : l ≠ [] := by intro e; subst e; simp at h
    have hg : good1 l = some 1 := by unfold good1; rw [if_pos (ha 0 (by omega))]
    obtain ⟨a, b⟩ := okL_some hl hg
    obtain ⟨c, d⟩ := okL_asc j (l.drop 1) (by simp; omega) (fun k hk => by rw [bt_drop, Nat.add_comm]; exact ha (k + 1) (by omega))
    rw [List.drop_drop] at c d
    rw [show j + 1 = 1 + j by omega]
    exact ⟨a.trans c, b.trans d⟩
end Go.Sim
namespace Go.Sim
theorem or_low {x y m : BitVec 64} (h : (x ||| y) &&& m = 0) : x &&& m = 0 ∧ y &&& m = 0 := by
  have key : ∀ i, i < 64 → ((x.getLsbD i || y.getLsbD i) && m.getLsbD i) = false := fun i hi => by
    have h1 := congrArg (fun z : BitVec 64 => z.getLsbD i) h
    simpa only [BitVec.getLsbD_and, BitVec.getLsbD_or, BitVec.ofNat_eq_ofNat, BitVec.getLsbD_zero] using h1
  constructor
  · apply BitVec.eq_of_getLsbD_eq
    intro i hi
    have := key i hi
    simp only [BitVec.getLsbD_and, BitVec.ofNat_eq_ofNat, BitVec.getLsbD_zero]
    revert this
    cases x.getLsbD i <;> cases y.getLsbD i <;> cases m.getLsbD i <;> simp
  · apply BitVec.eq_of_getLsbD_eq
    intro i hi
    have := key i hi
    simp only [BitVec.getLsbD_and, BitVec.ofNat_eq_ofNat, BitVec.getLsbD_zero]
    revert this
    cases x.getLsbD i <;> cases y.getLsbD i <;> cases m.getLsbD i <;> simp
def nullB (x : BitVec 64) : Bool := ((x.toNat : Nat) : Int) == (0 : Int)
theorem nullB_eq {x : BitVec 64} (h : nullB x = true) : x = 0 := by
  unfold nullB at h
  simp only [beq_iff_eq] at h
  apply BitVec.eq_of_toNat_eq
  simp
  omega
def low8 (l : List UInt8) : Bool := nullB (w8 l &&& m80)
def low16 (l : List UInt8) : Bool := nullB ((w8 l ||| w8 (l.drop 8)) &&& m80)
def low32 (l : List UInt8) : Bool := nullB (((w8 l ||| w8 (l.drop 8)) ||| (w8 (l.drop 16) ||| w8 (l.drop 24))) &&& m80)
theorem low8_asc {l : List UInt8} (h : low8 l = true) : ∀ k, k < 8 → bt l k < 128 := w8_low l (nullB_eq h)
theorem two_asc {l : List UInt8} {a b : Nat} (h1 : ∀ k, k < a → bt l k < 128) (h2 : ∀ k, k < b → bt (l.drop a) k < 128) : ∀ k, k < a + b → bt l k < 128 := fun k hk => by
  rcases Nat.lt_or_ge k a with h | h
  · exact h1 k h
  · have := h2 (k - a) (by omega)
    rw [bt_drop, show a + (k - a) = k by omega] at this
    exact this
theorem low16_asc {l : List UInt8} (h : low16 l = true) : ∀ k, k < 16 → bt l k < 128 := by
  obtain ⟨a, b⟩ := or_low (nullB_eq h)
  exact two_asc (a := 8) (b := 8) (w8_low l a) (w8_low _ b)
theorem low32_asc {l : List UInt8} (h : low32 l = true) : ∀ k, k < 32 → bt l k < 128 := by
  obtain ⟨a, b⟩ := or_low (nullB_eq h)
  obtain ⟨a1, a2⟩ := or_low a
  obtain ⟨b1, b2⟩ := or_low b
  have e : l.drop 24 = (l.drop 16).drop 8 := by rw [List.drop_drop]
  rw [e] at b2
  exact two_asc (a := 16) (b := 16) (two_asc (a := 8) (b := 8) (w8_low l a1) (w8_low _ a2)) (two_asc (a := 8) (b := 8) (w8_low _ b1) (w8_low _ b2))
def skipF : Nat → List UInt8 → List UInt8
  | 0, l => l
  | m + 1, l => bif decide (l.length > 32) && low32 l then skipF m (l.drop 32) else l
theorem skipF_ok : ∀ (m : Nat) (l : List UInt8), okL (skipF m l) = okL l ∧ endL (skipF m l) = endL l ∧ (skipF m l).length ≤ l.length
  | 0, l => ⟨rfl, rfl, Nat.le_refl _⟩
  | m + 1, l => by
    simp only [skipF]
    cases h : (decide (l.length > 32) && low32 l)
    · exact ⟨rfl, rfl, Nat.le_refl _⟩
    · simp only [Bool.and_eq_true, decide_eq_true_eq] at h
      obtain ⟨a, b⟩ := okL_asc 32 l (by omega) (low32_asc h.2)
      obtain ⟨c, d, e⟩ := skipF_ok m (l.drop 32)
      rw [List.length_drop] at e
      exact ⟨c.trans a.symm, d.trans b.symm, by simp only [cond_true]; omega⟩
def skip32 (l : List UInt8) : List UInt8 := skipF l.length l
/-- What is left behind a plain letter: more of them may be passed over. -/
def adv (t : List UInt8) : List UInt8 :=
  bif decide (t.length > 8) && low8 t then (bif decide ((t.drop 8).length > 16) && low16 (t.drop 8) then skip32 ((t.drop 8).drop 16) else t.drop 8) else t
theorem adv_ok (t : List UInt8) : okL (adv t) = okL t ∧ endL (adv t) = endL t ∧ (adv t).length ≤ t.length := by
  unfold adv
  cases h : (decide (t.length > 8) && low8 t)
  · exact ⟨rfl, rfl, Nat.le_refl _⟩
  · simp only [Bool.and_eq_true, decide_eq_true_eq] at h
    obtain ⟨a, b⟩ := okL_asc 8 t (by omega) (low8_asc h.2)
    simp only [cond_true]
    cases h2 : (decide ((t.drop 8).length > 16) && low16 (t.drop 8))
    · simp only [cond_false]
      exact ⟨a.symm, b.symm, by simp⟩
    · simp only [Bool.and_eq_true, decide_eq_true_eq] at h2
      obtain ⟨c, d⟩ := okL_asc 16 (t.drop 8) (by omega) (low16_asc h2.2)
      obtain ⟨e, f, g⟩ := skipF_ok ((t.drop 8).drop 16).length ((t.drop 8).drop 16)
      simp only [cond_true]
      unfold skip32
      refine ⟨e.trans (c.symm.trans a.symm), f.trans (d.symm.trans b.symm), ?_⟩
      simp only [List.length_drop] at g ⊢
      omega
end Go.Sim
namespace Go.Sim
def lettersL : List UInt8 := [97, 98, 99, 100, 101, 102, 103, 104, 105, 106, 107, 108, 109, 110, 111, 112, 113, 114, 115, 116, 117, 118, 119, 120, 121, 122, 48, 49, 50, 51, 52, 53, 54, 55, 56, 57]
def signsL : List UInt8 := [45, 95, 46]
def mayR (c : Int) : Bool := hasR lettersL c || hasR signsL c || (decide (c ≥ 161) && decide (c ≤ 65535) && c != 173 && c != 65279)
/-- May this rune not stand here? -/
def badR (c : Int) (first : Bool) : Bool := !mayR c || (first && hasR signsL c)
/-- The first bad rune: how many stand ahead of it; how many bytes there are, it with them. -/
def failF : Nat → List UInt8 → Bool → Option (Nat × Nat)
  | 0, _, _ => none
  | m + 1, l, first => bif l.isEmpty then none else bif badR (((dec1 l).1 : Nat) : Int) first then some (0, (dec1 l).2) else (failF m (l.drop (dec1 l).2) false).map fun p => (p.1 + 1, (dec1 l).2 + p.2)
def validL (s : List UInt8) : Bool := !(failF s.length s true).isSome && (decide ((cnt s : Int) > 0) && decide ((cnt s : Int) ≤ 40) && okL s)
end Go.Sim
namespace Go.Sim
set_option linter.unusedSimpArgs false
set_option linter.unusedVariables false
theorem env_nil : ∀ x ∈ ([] : List (FuncId × Con)), HoldsC P0 x.1 x.2 := fun x h => by cases h

theorem count_rd {R : Type} (s : List UInt8) (pos : Nat) (n : Int) (K : Ex → St → Option R) : roundK (env []) H.names_Count 0 (LPof []) V.names_Count_3 L.names_Count_3 ⟨[(3, .int .i64 n), (5, .it 0)], [(0, .siter s pos)], 1⟩ K = bif decide (pos < s.length) then K Ex.normal { slots := [(3, AV.int IntKind.i64 (IntKind.i64.wrap (n + (1 : Int)))), (5, AV.it 0)], objs := [(0, AObj.siter s (pos + (Utf8.decode { data := s.toArray } pos).snd))], nx := 1 } else K (Ex.exit 0) { slots := [(3, AV.int IntKind.i64 n), (5, AV.it 0)], objs := [(0, AObj.siter s pos)], nx := 1 } := by kernel_rfl

def countSt (s : List UInt8) (pos : Nat) (n : Int) : St := ⟨[(3, .int .i64 n), (5, .it 0)], [(0, .siter s pos)], 1⟩
theorem drop_ne {s : List UInt8} {pos : Nat} (h : pos < s.length) : s.drop pos ≠ [] := by
  intro e
  have := congrArg List.length e
  simp at this
  omega
theorem count_loop (s : List UInt8) (hs : s.length ≤ 1048576) {R : Type} (K : Ex → St → Option R) : ∀ (m pos : Nat) (n : Int), s.length ≤ pos + m → pos ≤ s.length → 0 ≤ n → n ≤ pos →
    rounds (env []) H.names_Count 0 (LPof []) V.names_Count_3 L.names_Count_3 (m + 1) (countSt s pos n) K = K (.exit 0) (countSt s s.length (n + (cnt (s.drop pos) : Nat)))
  | 0, pos, n, h, hp, h0, h1 => by
    have : pos = s.length := by omega
    subst this
    rw [rounds_succ']
    unfold countSt
    rw [count_rd, cond_neg (by omega)]
    simp [cnt_nil]
  | m + 1, pos, n, h, hp, h0, h1 => by
    rw [rounds_succ']
    unfold countSt
    by_cases hlt : pos < s.length
    · have hne := drop_ne hlt
      have hw := dec1_pos (s.drop pos)
      have hle := dec1_le _ hne
      rw [List.length_drop] at hle
      rw [count_rd, cond_pos hlt, decode_dec1, wrap64 (by omega) (by omega)]
      have ih := count_loop s hs K m (pos + (dec1 (s.drop pos)).2) (n + 1) (by omega) (by omega) (by omega) (by omega)
      rw [cnt_cons _ hne, List.drop_drop]
      unfold countSt at ih
      rw [show n + ((cnt (s.drop (pos + (dec1 (s.drop pos)).2)) + 1 : Nat) : Int) = n + 1 + ((cnt (s.drop (pos + (dec1 (s.drop pos)).2)) : Nat) : Int) by omega]
      exact ih
    · have : pos = s.length := by omega
      subst this
      rw [count_rd, cond_neg (by omega)]
      simp [cnt_nil]
def countPat : SPat := ⟨[(3, .int .i64), (5, .lit (.it 0))], [.siter]⟩
def countLC : LoopC := LoopC.of countPat (fun x => decide (List.length x.2.1.1 ≤ 1048576) && decide (x.1.1 = (0 : Int)) && decide (x.2.1.2 = 0))
  fun x => [(true, .exit 0, countSt x.2.1.1 (List.length x.2.1.1) ((cnt x.2.1.1 : Nat) : Int))]
theorem count_lok : LoopOK P0 H.names_Count 0 L.names_Count_3 countLC := loop_ok_of (env_ok env_nil) glob0 mixed0 noLoops V.names_Count_3 (by decide) fun ⟨⟨n, _, _⟩, ⟨s, pos⟩, _⟩ h hw => by
  simp only [Bool.and_eq_true, decide_eq_true_eq] at h
  obtain ⟨⟨h1, h2⟩, h3⟩ := h
  subst h2; subst h3
  have := count_loop s h1 (fun e s => some (e, s)) (List.length s) 0 0 (by omega) (Nat.zero_le _) (Int.le_refl _) (Int.le_refl _)
  rw [List.drop_zero, Int.zero_add] at this
  exact ⟨_, this⟩
theorem count_ev (s : List UInt8) : evFn (env []) H.names_Count (LPof [(3, countLC)]) F.names_Count [.str s] [] (finK 0) = bif decide (s.length ≤ 1048576) && true && true && true then some (AV.int IntKind.i64 (↑(cnt s) : Int), []) else none := by kernel_rfl

def caseCount : PCase := ⟨[.ty .str], [.int .i64], fun x => [(decide (List.length x.1 ≤ 1048576), (((cnt x.1 : Nat) : Int), ()))]⟩
theorem count_val (s : List UInt8) (h : s.length ≤ 1048576) : evFn (env []) H.names_Count (LPof [(3, countLC)]) F.names_Count [.str s] [] (finK 0) = some (.int .i64 ((cnt s : Nat) : Int), []) := by
  rw [count_ev]
  simp [h]
theorem count_ok : caseCount.ok P0 I.names_Count := case_ok (H := H.names_Count) (E := env []) (env_ok env_nil) glob0 mixed0 G.names_Count Bd.names_Count (by kernel_rfl) (loops_good (tab := [(3, countLC)]) (by kernel_rfl) (fun x hx => by simp at hx; subst hx; exact count_lok)) fun ⟨s, ()⟩ y h hw => by
  obtain ⟨hc, rfl⟩ := pick_pre h
  exact ⟨[], count_val s (of_decide_eq_true hc)⟩

theorem cut_rd {R : Type} (s t : List UInt8) (pos : Nat) (n : Int) (K : Ex → St → Option R) : roundK (env []) H.names_Cut 0 (LPof []) V.names_Cut_2 L.names_Cut_2 ⟨[(0, .str s), (1, .int .i64 n), (4, .str t), (7, .it 0)], [(0, .siter s pos)], 1⟩ K = bif decide (pos < s.length) then bif decide (n ≤ (0 : Int)) then bif decide ((0 : Int) ≤ (↑pos : Int)) && decide ((↑pos : Int) ≤ (↑s.length : Int)) then K Ex.ret { slots := [(0, AV.str s), (1, AV.int IntKind.i64 n), (4, AV.str (List.take pos s)), (7, AV.it 0)], objs := [(0, AObj.siter s (pos + (Utf8.decode { data := s.toArray } pos).snd))], nx := 1 } else none else K Ex.normal { slots := [(0, AV.str s), (1, AV.int IntKind.i64 (IntKind.i64.wrap (n - (1 : Int)))), (4, AV.str t), (7, AV.it 0)], objs := [(0, AObj.siter s (pos + (Utf8.decode { data := s.toArray } pos).snd))], nx := 1 } else K (Ex.exit 0) { slots := [(0, AV.str s), (1, AV.int IntKind.i64 n), (4, AV.str t), (7, AV.it 0)], objs := [(0, AObj.siter s pos)], nx := 1 } := by kernel_rfl

def cutSt (s t : List UInt8) (pos : Nat) (n : Int) : St := ⟨[(0, .str s), (1, .int .i64 n), (4, .str t), (7, .it 0)], [(0, .siter s pos)], 1⟩
/-- Where the loop of Cut ends. -/
def cutEnd (s t : List UInt8) (pos : Nat) (n : Int) {R : Type} (K : Ex → St → Option R) : Option R :=
  bif decide (pos + cutP (s.drop pos) n.toNat < s.length) then K .ret (cutSt s (s.take (pos + cutP (s.drop pos) n.toNat)) (pos + cutP (s.drop pos) n.toNat + (dec1 (s.drop (pos + cutP (s.drop pos) n.toNat))).2) (n - (n.toNat : Int)))
  else K (.exit 0) (cutSt s t s.length (n - ((cnt (s.drop pos) : Nat) : Int)))
theorem cut_loop (s t : List UInt8) (hs : s.length ≤ 1048576) {R : Type} (K : Ex → St → Option R) : ∀ (m pos : Nat) (n : Int), s.length ≤ pos + m → pos ≤ s.length → In .i64 n →
    rounds (env []) H.names_Cut 0 (LPof []) V.names_Cut_2 L.names_Cut_2 (m + 1) (cutSt s t pos n) K = cutEnd s t pos n K
  | m, pos, n, h, hp, hn => by
    rw [rounds_succ']
    unfold cutSt
    by_cases hlt : pos < s.length
    · have hne := drop_ne hlt
      have hw := dec1_pos (s.drop pos)
      have hle := dec1_le _ hne
      rw [List.length_drop] at hle
      rw [cut_rd, cond_pos hlt, decode_dec1]
      by_cases h0 : n ≤ 0
      · rw [cond_pos h0, cond_pos2 (by omega) (by omega)]
        have hz : n.toNat = 0 := by omega
        unfold cutEnd
        simp only [hz, cutP, Nat.add_zero, hlt, decide_true, cond_true]
        rw [show n - ((0 : Nat) : Int) = n by omega]
        rfl
      · rw [cond_neg h0]
        rw [In.i64] at hn
        obtain ⟨k, hk⟩ : ∃ k, n.toNat = k + 1 := ⟨n.toNat - 1, by omega⟩
        have hk1 : (n - 1).toNat = k := by omega
        obtain ⟨m, rfl⟩ : ∃ j, m = j + 1 := ⟨m - 1, by omega⟩
        have ih := cut_loop s t hs K m (pos + (dec1 (s.drop pos)).2) (n - 1) (by omega) (by omega) (by rw [In.i64]; omega)
        have hcut : cutP (s.drop pos) n.toNat = (dec1 (s.drop pos)).2 + cutP (s.drop (pos + (dec1 (s.drop pos)).2)) k := by
          rw [hk]
          simp only [cutP, hne, if_false]
          rw [List.drop_drop]
        have e1 : cutEnd s t (pos + (dec1 (s.drop pos)).2) (n - 1) K = cutEnd s t pos n K := by
          unfold cutEnd
          rw [hcut, hk1, cnt_cons _ hne, List.drop_drop, Nat.add_assoc]
          rw [show n - 1 - ((k : Nat) : Int) = n - ((n.toNat : Nat) : Int) by omega, show n - 1 - ((cnt (s.drop (pos + (dec1 (s.drop pos)).2)) : Nat) : Int) = n - ((cnt (s.drop (pos + (dec1 (s.drop pos)).2)) + 1 : Nat) : Int) by omega]
        rw [← e1, wrap64 (by omega) (by omega)]
        exact ih
    · have : pos = s.length := by omega
      subst this
      rw [cut_rd, cond_neg (by omega)]
      unfold cutEnd
      have hz : cutP [] n.toNat = 0 := by have := cutP_le n.toNat []; simpa using this
      simp [hz, cnt_nil]
      rfl
def cutPat : SPat := ⟨[(0, .str), (1, .int .i64), (4, .str), (7, .lit (.it 0))], [.siter]⟩
def cutLC : LoopC := LoopC.of cutPat (fun x => decide (List.length x.1.1 ≤ 1048576) && decide (x.2.1.1 = x.1.1) && decide (x.2.1.2 = 0))
  fun x => [(decide (cutP x.1.1 (Int.toNat x.1.2.1) < List.length x.1.1), .ret, cutSt x.1.1 (List.take (cutP x.1.1 (Int.toNat x.1.2.1)) x.1.1) (cutP x.1.1 (Int.toNat x.1.2.1) + (dec1 (List.drop (cutP x.1.1 (Int.toNat x.1.2.1)) x.1.1)).2) (x.1.2.1 - ((Int.toNat x.1.2.1 : Nat) : Int))),
    (true, .exit 0, cutSt x.1.1 x.1.2.2.1 (List.length x.1.1) (x.1.2.1 - ((cnt x.1.1 : Nat) : Int)))]
theorem cut_lok : LoopOK P0 H.names_Cut 0 L.names_Cut_2 cutLC := loop_ok_of (env_ok env_nil) glob0 mixed0 noLoops V.names_Cut_2 (by decide) fun ⟨⟨s, n, t, _, _⟩, ⟨s2, pos⟩, _⟩ h hw => by
  simp only [Bool.and_eq_true, decide_eq_true_eq] at h
  obtain ⟨⟨h1, h2⟩, h3⟩ := h
  subst h2; subst h3
  have := cut_loop s2 t h1 (fun e s => some (e, s)) (List.length s2) 0 n (by omega) (Nat.zero_le _) hw.1.2.1
  refine ⟨_, Eq.trans this ?_⟩
  unfold cutEnd
  simp only [pick, List.drop_zero, Nat.zero_add]
  rfl
theorem cut_ev (s : List UInt8) (n : Int) : evFn (env []) H.names_Cut (LPof [(2, cutLC)]) F.names_Cut [.str s, .int .i64 n] [] (finK 0) = bif decide (s.length ≤ 1048576) && decide (s = s) && true && decide (cutP s n.toNat < s.length) then some (AV.str (List.take (cutP s n.toNat) s), []) else bif decide (s.length ≤ 1048576) && decide (s = s) && true && true then some (AV.str s, []) else none := by kernel_rfl

def caseCut : PCase := ⟨[.ty .str, .ty (.int .i64)], [.str], fun x => [(decide (List.length x.1 ≤ 1048576), (List.take (cutP x.1 (Int.toNat x.2.1)) x.1, ()))]⟩
theorem cut_val (s : List UInt8) (n : Int) (h : s.length ≤ 1048576) : evFn (env []) H.names_Cut (LPof [(2, cutLC)]) F.names_Cut [.str s, .int .i64 n] [] (finK 0) = some (.str (s.take (cutP s n.toNat)), []) := by
  rw [cut_ev]
  have hle := cutP_le n.toNat s
  by_cases hc : cutP s n.toNat < s.length
  · simp [h, hc]
  · have : cutP s n.toNat = s.length := by omega
    simp [h, this]
theorem cut_ok : caseCut.ok P0 I.names_Cut := case_ok (H := H.names_Cut) (E := env []) (env_ok env_nil) glob0 mixed0 G.names_Cut Bd.names_Cut (by kernel_rfl) (loops_good (tab := [(2, cutLC)]) (by kernel_rfl) (fun x hx => by simp at hx; subst hx; exact cut_lok)) fun ⟨s, n, ()⟩ y h hw => by
  obtain ⟨hc, rfl⟩ := pick_pre h
  exact ⟨[], cut_val s n (of_decide_eq_true hc)⟩

theorem among_rd {R : Type} (s : List UInt8) (pos : Nat) (c : Int) (f : Bool) (K : Ex → St → Option R) : roundK (env []) H.names_among 0 (LPof []) V.names_among_2 L.names_among_2 ⟨[(1, .int .i32 c), (4, .bool f), (8, .it 0)], [(0, .siter s pos)], 1⟩ K = bif decide (pos < s.length) then bif (↑(Utf8.decode { data := s.toArray } pos).fst : Int) == c then K Ex.ret { slots := [(1, AV.int IntKind.i32 c), (4, AV.bool true), (8, AV.it 0)], objs := [(0, AObj.siter s (pos + (Utf8.decode { data := s.toArray } pos).snd))], nx := 1 } else K Ex.normal { slots := [(1, AV.int IntKind.i32 c), (4, AV.bool f), (8, AV.it 0)], objs := [(0, AObj.siter s (pos + (Utf8.decode { data := s.toArray } pos).snd))], nx := 1 } else K (Ex.exit 0) { slots := [(1, AV.int IntKind.i32 c), (4, AV.bool f), (8, AV.it 0)], objs := [(0, AObj.siter s pos)], nx := 1 } := by kernel_rfl

def amongSt (s : List UInt8) (pos : Nat) (c : Int) (f : Bool) : St := ⟨[(1, .int .i32 c), (4, .bool f), (8, .it 0)], [(0, .siter s pos)], 1⟩
theorem among_loop (s : List UInt8) (c : Int) (f : Bool) {R : Type} (K : Ex → St → Option R) : ∀ (m pos : Nat), s.length ≤ pos + m → pos ≤ s.length →
    rounds (env []) H.names_among 0 (LPof []) V.names_among_2 L.names_among_2 (m + 1) (amongSt s pos c f) K =
      match findF m (s.drop pos) c with
      | some k => K .ret (amongSt s (pos + k) c true)
      | none => K (.exit 0) (amongSt s s.length c f)
  | 0, pos, h, hp => by
    have : pos = s.length := by omega
    subst this
    rw [rounds_succ']
    unfold amongSt
    rw [among_rd, cond_neg (by omega)]
    rfl
  | m + 1, pos, h, hp => by
    rw [rounds_succ']
    unfold amongSt
    by_cases hlt : pos < s.length
    · have hne := drop_ne hlt
      have hw := dec1_pos (s.drop pos)
      have hle := dec1_le _ hne
      rw [List.length_drop] at hle
      have hem : (s.drop pos).isEmpty = false := by cases hd : s.drop pos with | nil => exact absurd hd hne | cons a b => rfl
      rw [among_rd, cond_pos hlt, decode_dec1]
      simp only [findF, hem, cond_false]
      cases hc : ((((dec1 (s.drop pos)).1 : Nat) : Int) == c)
      · have ih := among_loop s c f K m (pos + (dec1 (s.drop pos)).2) (by omega) (by omega)
        simp only [cond_false]
        rw [List.drop_drop]
        refine Eq.trans ih ?_
        cases findF m (s.drop (pos + (dec1 (s.drop pos)).2)) c with
        | none => rfl
        | some k => simp only [Option.map_some, Nat.add_assoc]; rfl
      · rfl
    · have : pos = s.length := by omega
      subst this
      rw [among_rd, cond_neg (by omega)]
      simp [findF]
def amongPat : SPat := ⟨[(1, .int .i32), (4, .bool), (8, .lit (.it 0))], [.siter]⟩
def amongLC : LoopC := LoopC.of amongPat (fun x => decide (x.2.1.2 = 0))
  fun x => [((findF (List.length x.2.1.1) x.2.1.1 x.1.1).isSome, .ret, amongSt x.2.1.1 ((findF (List.length x.2.1.1) x.2.1.1 x.1.1).getD 0) x.1.1 true), (true, .exit 0, amongSt x.2.1.1 (List.length x.2.1.1) x.1.1 x.1.2.1)]
theorem among_lok : LoopOK P0 H.names_among 0 L.names_among_2 amongLC := loop_ok_of (env_ok env_nil) glob0 mixed0 noLoops V.names_among_2 (by decide) fun ⟨⟨c, f, _, _⟩, ⟨s, pos⟩, _⟩ h hw => by
  obtain rfl := of_decide_eq_true h
  have := among_loop s c f (fun e s => some (e, s)) (List.length s) 0 (by omega) (Nat.zero_le _)
  rw [List.drop_zero] at this
  refine ⟨_, Eq.trans this ?_⟩
  simp only [pick]
  cases findF s.length s c with
  | none => rfl
  | some k => simp only [Nat.zero_add]; rfl
theorem among_ev (s : List UInt8) (c : Int) : evFn (env []) H.names_among (LPof [(2, amongLC)]) F.names_among [.str s, .int .i32 c] [] (finK 0) = bif (findF s.length s c).isSome then some (AV.bool true, []) else some (AV.bool false, []) := by kernel_rfl

def caseAmong : PCase := ⟨[.ty .str, .ty (.int .i32)], [.bool], fun x => [(true, (hasR x.1 x.2.1, ()))]⟩
theorem among_val (s : List UInt8) (c : Int) : evFn (env []) H.names_among (LPof [(2, amongLC)]) F.names_among [.str s, .int .i32 c] [] (finK 0) = some (.bool (hasR s c), []) := by
  rw [among_ev]
  unfold hasR
  cases (findF s.length s c).isSome <;> rfl
theorem among_ok : caseAmong.ok P0 I.names_among := case_ok (H := H.names_among) (E := env []) (env_ok env_nil) glob0 mixed0 G.names_among Bd.names_among (by kernel_rfl) (loops_good (tab := [(2, amongLC)]) (by kernel_rfl) (fun x hx => by simp at hx; subst hx; exact among_lok)) fun ⟨s, c, ()⟩ y h hw => by
  obtain rfl := pick_one h
  exact ⟨[], among_val s c⟩
noncomputable abbrev consM1 : List (FuncId × Con) := [(I.names_among, .pure (pureOf [caseAmong]))]
theorem consM1_ok : ∀ x ∈ consM1, HoldsC P0 x.1 x.2 := by
  intro x hx
  simp at hx
  subst hx
  exact ⟨pureOf_holds (by simp; exact among_ok), C.names_among⟩
theorem may_ev (c : Int) : evFn (env consM1) H.names_may (LPof []) F.names_may [.int .i32 c] [] (finK 0) = Option.bind (bif hasR [(97 : UInt8), (98 : UInt8), (99 : UInt8), (100 : UInt8), (101 : UInt8), (102 : UInt8), (103 : UInt8), (104 : UInt8), (105 : UInt8), (106 : UInt8), (107 : UInt8), (108 : UInt8), (109 : UInt8), (110 : UInt8), (111 : UInt8), (112 : UInt8), (113 : UInt8), (114 : UInt8), (115 : UInt8), (116 : UInt8), (117 : UInt8), (118 : UInt8), (119 : UInt8), (120 : UInt8), (121 : UInt8), (122 : UInt8), (48 : UInt8), (49 : UInt8), (50 : UInt8), (51 : UInt8), (52 : UInt8), (53 : UInt8), (54 : UInt8), (55 : UInt8), (56 : UInt8), (57 : UInt8)] c then some true else bif hasR [(45 : UInt8), (95 : UInt8), (46 : UInt8)] c then some true else bif decide (c ≥ (161 : Int)) then bif decide (c ≤ (65535 : Int)) then bif c != (173 : Int) then some (c != (65279 : Int)) else some false else some false else some false) fun v => some (AV.bool v, []) := by kernel_rfl

def caseMay : PCase := ⟨[.ty (.int .i32)], [.bool], fun x => [(true, (mayR x.1, ()))]⟩
theorem may_val (c : Int) : evFn (env consM1) H.names_may (LPof []) F.names_may [.int .i32 c] [] (finK 0) = some (.bool (mayR c), []) := by
  rw [may_ev]
  unfold mayR lettersL signsL
  generalize hasR _ c = a
  generalize hasR _ c = b
  cases a <;> cases b <;> cases decide (c ≥ 161) <;> cases decide (c ≤ 65535) <;> cases c != 173 <;> rfl
theorem may_ok : caseMay.ok P0 I.names_may := case_ok (H := H.names_may) (E := env consM1) (env_ok consM1_ok) glob0 mixed0 G.names_may Bd.names_may (by kernel_rfl) noLoops fun ⟨c, ()⟩ y h hw => by
  obtain rfl := pick_one h
  exact ⟨[], may_val c⟩
/-! ### The example -/
def ordersL : List UInt8 := [111, 114, 100, 101, 114, 115, 45, 49]
def caseUtfO : PCase := ⟨[.ty .str], [.bool], fun x => [(decide (x.1 = ordersL), (true, ()))]⟩
theorem utfO_ok : caseUtfO.ok P0 I.unicode_utf8_ValidString := case_ok (H := H.unicode_utf8_ValidString) (E := env []) (env_ok env_nil) glob0 mixed0 G.unicode_utf8_ValidString Bd.unicode_utf8_ValidString (by kernel_rfl)
  (loopsF_good (env_ok env_nil) glob0 mixed0 (by kernel_rfl) 20) fun ⟨s, ()⟩ y h hw => by
  obtain ⟨hc, rfl⟩ := pick_pre h
  obtain rfl := of_decide_eq_true hc
  exact ⟨[], by kernel_rfl⟩
noncomputable abbrev consV : List (FuncId × Con) := [(I.names_among, .pure (pureOf [caseAmong])), (I.names_may, .pure (pureOf [caseMay])), (I.unicode_utf8_ValidString, .pure (pureOf [caseUtfO]))]
theorem consV_ok : ∀ x ∈ consV, HoldsC P0 x.1 x.2 := by
  intro x hx
  simp at hx
  rcases hx with rfl | rfl | rfl
  · exact ⟨pureOf_holds (by simp; exact among_ok), C.names_among⟩
  · exact ⟨pureOf_holds (by simp; exact may_ok), C.names_may⟩
  · exact ⟨pureOf_holds (by simp; exact utfO_ok), C.unicode_utf8_ValidString⟩
def caseValO : PCase := ⟨[.ty .str], [.bool], fun x => [(decide (x.1 = ordersL), (true, ()))]⟩
theorem valO_ok : caseValO.ok P0 I.names_Valid := case_ok (H := H.names_Valid) (E := env consV) (env_ok consV_ok) glob0 mixed0 G.names_Valid Bd.names_Valid (by kernel_rfl)
  (loopsF_good (env_ok consV_ok) glob0 mixed0 (by kernel_rfl) 20) fun ⟨s, ()⟩ y h hw => by
  obtain ⟨hc, rfl⟩ := pick_pre h
  obtain rfl := of_decide_eq_true hc
  exact ⟨[], by kernel_rfl⟩

noncomputable abbrev consA : List (FuncId × Con) := [(I.names_Valid, .pure (pureOf [caseValO])), (I.names_Count, .pure (pureOf [caseCount]))]
theorem consA_ok : ∀ x ∈ consA, HoldsC P0 x.1 x.2 := by
  intro x hx
  simp at hx
  rcases hx with rfl | rfl
  · exact ⟨pureOf_holds (by simp; exact valO_ok), C.names_Valid⟩
  · exact ⟨pureOf_holds (by simp; exact count_ok), C.names_Count⟩
theorem alive_ev : evFn (env consA) H.cooperagelaw3_alive (LPof []) F.cooperagelaw3_alive [] [] (finK 0) = some (AV.bool true, []) := by kernel_rfl

def caseAlive : PCase := ⟨[], [.bool], fun _ => [(true, (true, ()))]⟩
theorem alive_ok : caseAlive.ok P0 I.cooperagelaw3_alive := case_ok (H := H.cooperagelaw3_alive) (E := env consA) (env_ok consA_ok) glob0 mixed0 G.cooperagelaw3_alive Bd.cooperagelaw3_alive (by kernel_rfl) noLoops fun ⟨⟩ y h hw => by
  obtain rfl := pick_one h
  exact ⟨[], alive_ev⟩
noncomputable abbrev consC : List (FuncId × Con) := [(I.cooperagelaw3_alive, .pure (pureOf [caseAlive])), (I.names_Count, .pure (pureOf [caseCount])), (I.names_Cut, .pure (pureOf [caseCut]))]
theorem ncut_ev (s : List UInt8) (n : Int) : evFn (env consC) H.cooperagelaw3_NamesCut (LPof []) F.cooperagelaw3_NamesCut [.str s, .int .i64 n] [] (finK 0) = Option.bind (bif decide ((↑s.length : Int) > (300 : Int)) then some true else some (decide (n < (0 : Int)))) fun v => bif v then some (AV.bool true, []) else bif decide (s.length ≤ 1048576) then Option.bind (bif decide ((↑(List.take (cutP s n.toNat) s).length : Int) > (↑s.length : Int)) then some true else bif decide ((0 : Int) ≤ (↑(List.take (cutP s n.toNat) s).length : Int)) && decide ((↑(List.take (cutP s n.toNat) s).length : Int) ≤ (↑s.length : Int)) then some !List.take (List.take (cutP s n.toNat) s).length s == List.take (cutP s n.toNat) s else none) fun v => bif v then some (AV.bool false, []) else bif decide ((List.take (cutP s n.toNat) s).length ≤ 1048576) then bif decide (s.length ≤ 1048576) then bif decide ((↑(cnt s) : Int) < n) then Option.bind (bif (↑(cnt (List.take (cutP s n.toNat) s)) : Int) == (↑(cnt s) : Int) then bif decide ((0 : Int) ≤ (↑(List.take (cutP s n.toNat) s).length : Int)) && decide ((↑(List.take (cutP s n.toNat) s).length : Int) ≤ (↑s.length : Int)) then bif decide ((List.drop (List.take (cutP s n.toNat) s).length s).length ≤ 1048576) then bif IntKind.i64.wrap ((↑(cnt (List.take (cutP s n.toNat) s)) : Int) + (↑(cnt (List.drop (List.take (cutP s n.toNat) s).length s)) : Int)) == (↑(cnt s) : Int) then bif decide ((↑(cnt (List.take (cutP s n.toNat) s)) : Int) < n) then some true else bif decide ((List.take (cutP s n.toNat) s).length ≤ 1048576) then some (List.take (cutP (List.take (cutP s n.toNat) s) n.toNat) (List.take (cutP s n.toNat) s) == List.take (cutP s n.toNat) s) else none else some false else none else none else some false) fun v => some (AV.bool v, []) else Option.bind (bif (↑(cnt (List.take (cutP s n.toNat) s)) : Int) == n then bif decide ((0 : Int) ≤ (↑(List.take (cutP s n.toNat) s).length : Int)) && decide ((↑(List.take (cutP s n.toNat) s).length : Int) ≤ (↑s.length : Int)) then bif decide ((List.drop (List.take (cutP s n.toNat) s).length s).length ≤ 1048576) then bif IntKind.i64.wrap ((↑(cnt (List.take (cutP s n.toNat) s)) : Int) + (↑(cnt (List.drop (List.take (cutP s n.toNat) s).length s)) : Int)) == (↑(cnt s) : Int) then bif decide ((↑(cnt (List.take (cutP s n.toNat) s)) : Int) < n) then some true else bif decide ((List.take (cutP s n.toNat) s).length ≤ 1048576) then some (List.take (cutP (List.take (cutP s n.toNat) s) n.toNat) (List.take (cutP s n.toNat) s) == List.take (cutP s n.toNat) s) else none else some false else none else none else some false) fun v => some (AV.bool v, []) else none else none else none := by kernel_rfl

theorem consC_ok : ∀ x ∈ consC, HoldsC P0 x.1 x.2 := by
  intro x hx
  simp at hx
  rcases hx with rfl | rfl | rfl
  · exact ⟨pureOf_holds (by simp; exact alive_ok), C.cooperagelaw3_alive⟩
  · exact ⟨pureOf_holds (by simp; exact count_ok), C.names_Count⟩
  · exact ⟨pureOf_holds (by simp; exact cut_ok), C.names_Cut⟩
theorem ncut_val (s : List UInt8) (n : Int) : evFn (env consC) H.cooperagelaw3_NamesCut (LPof []) F.cooperagelaw3_NamesCut [.str s, .int .i64 n] [] (finK 0) = some (.bool true, []) := by
  rw [ncut_ev]
  by_cases h1 : (s.length : Int) > 300
  · simp only [h1, decide_true, cond_true, Option.bind_some]
  · by_cases h2 : n < 0
    · simp only [h1, h2, decide_true, decide_false, cond_true, cond_false, Option.bind_some]
    · have hc := cutP_le n.toNat s
      have hp : (s.take (cutP s n.toNat)).length = cutP s n.toNat := by rw [List.length_take]; omega
      obtain ⟨i1, i2⟩ := cnt_split n.toNat s
      have hcl := cnt_le s.length s (Nat.le_refl _)
      have hag := cut_again n.toNat s n.toNat (Nat.le_refl _)
      have e1 : decide (s.length ≤ 1048576) = true := decide_eq_true (by omega)
      have e2 : decide ((cutP s n.toNat : Int) > (s.length : Int)) = false := decide_eq_false (by omega)
      have e3 : decide ((0 : Int) ≤ (cutP s n.toNat : Int)) = true := decide_eq_true (by omega)
      have e4 : decide ((cutP s n.toNat : Int) ≤ (s.length : Int)) = true := decide_eq_true (by omega)
      have e5 : decide (cutP s n.toNat ≤ 1048576) = true := decide_eq_true (by omega)
      have e6 : decide ((s.drop (cutP s n.toNat)).length ≤ 1048576) = true := decide_eq_true (by simp; omega)
      have e7 : IntKind.i64.wrap (((cnt (s.take (cutP s n.toNat)) : Nat) : Int) + ((cnt (s.drop (cutP s n.toNat)) : Nat) : Int)) = ((cnt s : Nat) : Int) := by rw [wrap64 (by omega) (by omega)]; omega
      simp only [h1, h2, decide_false, cond_false, Option.bind_some, hp, e1, e2, e3, e4, e5, e6, e7, hag, cond_true, Bool.and_self, beq_self_eq_true, Bool.not_true, List.take_take, Nat.min_self]
      by_cases h3 : ((cnt s : Nat) : Int) < n
      · have e8 : (((cnt (s.take (cutP s n.toNat)) : Nat) : Int) == ((cnt s : Nat) : Int)) = true := by simp; omega
        have e9 : decide (((cnt (s.take (cutP s n.toNat)) : Nat) : Int) < n) = true := decide_eq_true (by omega)
        simp only [h3, decide_true, cond_true, e8, e9, Option.bind_some]
      · have e8 : (((cnt (s.take (cutP s n.toNat)) : Nat) : Int) == n) = true := by simp; omega
        have e9 : decide (((cnt (s.take (cutP s n.toNat)) : Nat) : Int) < n) = false := decide_eq_false (by omega)
        simp only [h3, decide_false, cond_true, cond_false, e8, e9, Option.bind_some]
def tyCut : List Ty := [.str, .int .i64]
theorem ncut_good (x : tysDen tyCut) (hw : tysWf tyCut x) : ∃ o, EffGood P0 I.cooperagelaw3_NamesCut (valsOf tyCut x) [] (.bool true) o :=
  ⟨[], evFn_sound (H := H.cooperagelaw3_NamesCut) (E := env consC) (env_ok consC_ok) glob0 mixed0 G.cooperagelaw3_NamesCut (args := valsOf tyCut x) (by kernel_rfl) Bd.cooperagelaw3_NamesCut noLoops (ncut_val x.1 x.2.1)⟩

end Go.Sim
namespace Go.Sim
set_option linter.unusedSimpArgs false
set_option linter.unusedVariables false
theorem word_ev (s : List UInt8) : evFn (env []) H.unicode_utf8_word_string (LPof []) F.unicode_utf8_word_string [.str s] [] (finK 0) = bif decide ((0 : Int) < (↑s.length : Int)) then bif decide ((1 : Int) < (↑s.length : Int)) then bif decide ((2 : Int) < (↑s.length : Int)) then bif decide ((3 : Int) < (↑s.length : Int)) then bif decide ((4 : Int) < (↑s.length : Int)) then bif decide ((5 : Int) < (↑s.length : Int)) then bif decide ((6 : Int) < (↑s.length : Int)) then bif decide ((7 : Int) < (↑s.length : Int)) then some (AV.int IntKind.u64 (IntKind.u64.wrap (↑(BitVec.ofInt 64 (IntKind.u64.wrap (↑(BitVec.ofInt 64 (IntKind.u64.wrap (↑(BitVec.ofInt 64 (IntKind.u64.wrap (↑(BitVec.ofInt 64 (IntKind.u64.wrap (↑(BitVec.ofInt 64 (IntKind.u64.wrap (↑(BitVec.ofInt 64 (IntKind.u64.wrap (↑(BitVec.ofInt 64 (IntKind.u64.wrap (↑(s.getD 0 (0 : UInt8)).toNat : Int)) ||| BitVec.ofInt 64 (IntKind.u64.wrap (IntKind.u64.wrap (↑(s.getD 1 (0 : UInt8)).toNat : Int) * (256 : Int)))).toNat : Int)) ||| BitVec.ofInt 64 (IntKind.u64.wrap (IntKind.u64.wrap (↑(s.getD 2 (0 : UInt8)).toNat : Int) * (65536 : Int)))).toNat : Int)) ||| BitVec.ofInt 64 (IntKind.u64.wrap (IntKind.u64.wrap (↑(s.getD 3 (0 : UInt8)).toNat : Int) * (16777216 : Int)))).toNat : Int)) ||| BitVec.ofInt 64 (IntKind.u64.wrap (IntKind.u64.wrap (↑(s.getD 4 (0 : UInt8)).toNat : Int) * (4294967296 : Int)))).toNat : Int)) ||| BitVec.ofInt 64 (IntKind.u64.wrap (IntKind.u64.wrap (↑(s.getD 5 (0 : UInt8)).toNat : Int) * (1099511627776 : Int)))).toNat : Int)) ||| BitVec.ofInt 64 (IntKind.u64.wrap (IntKind.u64.wrap (↑(s.getD 6 (0 : UInt8)).toNat : Int) * (281474976710656 : Int)))).toNat : Int)) ||| BitVec.ofInt 64 (IntKind.u64.wrap (IntKind.u64.wrap (↑(s.getD 7 (0 : UInt8)).toNat : Int) * (72057594037927936 : Int)))).toNat : Int)), []) else none else none else none else none else none else none else none else none := by kernel_rfl

def caseWord : PCase := ⟨[.ty .str], [.int .u64], fun x => [(decide (8 ≤ List.length x.1), (((w8 x.1).toNat : Int), ()))]⟩
theorem word_val (s : List UInt8) (h : 8 ≤ s.length) : evFn (env []) H.unicode_utf8_word_string (LPof []) F.unicode_utf8_word_string [.str s] [] (finK 0) = some (.int .u64 ((w8 s).toNat : Int), []) := by
  rw [word_ev, cond_pos (by omega), cond_pos (by omega), cond_pos (by omega), cond_pos (by omega), cond_pos (by omega), cond_pos (by omega), cond_pos (by omega), cond_pos (by omega)]
  have hz : ∀ x : BitVec 64, BitVec.ofInt 64 ((x.toNat : Nat) : Int) = x := fun x => by simp
  simp only [hz, ofInt_byte, ofInt_shift s 1 256 rfl (by decide), ofInt_shift s 2 65536 rfl (by decide), ofInt_shift s 3 16777216 rfl (by decide), ofInt_shift s 4 4294967296 rfl (by decide), ofInt_shift s 5 1099511627776 rfl (by decide), ofInt_shift s 6 281474976710656 rfl (by decide), ofInt_shift s 7 72057594037927936 rfl (by decide), ofInt_wrap, wrap_toNat]
  rfl
theorem word_ok : caseWord.ok P0 I.unicode_utf8_word_string := case_ok (H := H.unicode_utf8_word_string) (E := env []) (env_ok env_nil) glob0 mixed0 G.unicode_utf8_word_string Bd.unicode_utf8_word_string (by kernel_rfl) noLoops fun ⟨s, ()⟩ y h hw => by
  obtain ⟨hc, rfl⟩ := pick_pre h
  exact ⟨[], word_val s (of_decide_eq_true hc)⟩
noncomputable abbrev consW : List (FuncId × Con) := [(I.unicode_utf8_word_string, .pure (pureOf [caseWord]))]
theorem consW_ok : ∀ x ∈ consW, HoldsC P0 x.1 x.2 := by
  intro x hx
  simp at hx
  subst hx
  exact ⟨pureOf_holds (by simp; exact word_ok), C.unicode_utf8_word_string⟩
theorem vs9_rd {R : Type} (s : List UInt8) (f : Bool) (K : Ex → St → Option R) : roundK (env consW) H.unicode_utf8_ValidString 0 (LPof []) V.unicode_utf8_ValidString_9 L.unicode_utf8_ValidString_9 ⟨[(0, .str s), (2, .bool f)], [], 0⟩ K = Option.bind (bif decide ((↑s.length : Int) > (32 : Int)) then bif decide (8 ≤ s.length) then bif decide ((8 : Int) ≤ (↑s.length : Int)) then bif decide (8 ≤ (List.drop 8 s).length) then bif decide ((16 : Int) ≤ (↑s.length : Int)) then bif decide (8 ≤ (List.drop 16 s).length) then bif decide ((24 : Int) ≤ (↑s.length : Int)) then bif decide (8 ≤ (List.drop 24 s).length) then some (IntKind.u64.wrap (↑(BitVec.ofInt 64 (IntKind.u64.wrap (↑(BitVec.ofInt 64 (IntKind.u64.wrap (↑(BitVec.ofInt 64 (↑(w8 s).toNat : Int) ||| BitVec.ofInt 64 (↑(w8 (List.drop 8 s)).toNat : Int)).toNat : Int)) ||| BitVec.ofInt 64 (IntKind.u64.wrap (↑(BitVec.ofInt 64 (↑(w8 (List.drop 16 s)).toNat : Int) ||| BitVec.ofInt 64 (↑(w8 (List.drop 24 s)).toNat : Int)).toNat : Int))).toNat : Int)) &&& BitVec.ofInt 64 (9259542123273814144 : Int)).toNat : Int) == (0 : Int)) else none else none else none else none else none else none else none else some false) fun v => bif v then bif decide ((32 : Int) ≤ (↑s.length : Int)) then K Ex.normal { slots := [(0, AV.str (List.drop 32 s)), (2, AV.bool f)], objs := [], nx := 0 } else none else K (Ex.exit 2) { slots := [(0, AV.str s), (2, AV.bool f)], objs := [], nx := 0 } := by kernel_rfl

theorem ofInt_toNat64 (x : BitVec 64) : BitVec.ofInt 64 ((x.toNat : Nat) : Int) = x := by simp
theorem cond_some {c : Prop} [Decidable c] {b : Bool} {R : Type} (k : Bool → Option R) (h : Bool) : (bif decide c then some h else some false).bind k = k (decide c && h) := by
  by_cases hc : c <;> simp [hc]
theorem vs9_round {R : Type} (s : List UInt8) (f : Bool) (K : Ex → St → Option R) : roundK (env consW) H.unicode_utf8_ValidString 0 (LPof []) V.unicode_utf8_ValidString_9 L.unicode_utf8_ValidString_9 ⟨[(0, .str s), (2, .bool f)], [], 0⟩ K =
    bif decide (s.length > 32) && low32 s then K .normal ⟨[(0, .str (s.drop 32)), (2, .bool f)], [], 0⟩ else K (.exit 2) ⟨[(0, .str s), (2, .bool f)], [], 0⟩ := by
  rw [vs9_rd]
  by_cases h : s.length > 32
  · have h1 : 8 ≤ (s.drop 8).length := by simp; omega
    have h2 : 8 ≤ (s.drop 16).length := by simp; omega
    have h3 : 8 ≤ (s.drop 24).length := by simp; omega
    rw [cond_pos (by omega), cond_pos (by omega), cond_pos (by omega), cond_pos h1, cond_pos (by omega), cond_pos h2, cond_pos (by omega), cond_pos h3]
    simp only [ofInt_toNat64, wrap_toNat, Option.bind_some]
    rw [show (((((w8 s ||| w8 (s.drop 8)) ||| (w8 (s.drop 16) ||| w8 (s.drop 24))) &&& BitVec.ofInt 64 (9259542123273814144 : Int)).toNat : Int) == (0 : Int)) = low32 s from rfl]
    have hd : decide (s.length > 32) = true := decide_eq_true h
    rw [hd, Bool.true_and]
    cases low32 s
    · rfl
    · simp only [cond_true]
      rw [cond_pos (by omega)]
  · have hd : decide (s.length > 32) = false := decide_eq_false h
    rw [cond_neg (by omega), hd]
    rfl
theorem vs9_loop {R : Type} (f : Bool) (K : Ex → St → Option R) : ∀ (m : Nat) (s : List UInt8), s.length ≤ m → rounds (env consW) H.unicode_utf8_ValidString 0 (LPof []) V.unicode_utf8_ValidString_9 L.unicode_utf8_ValidString_9 (m + 1) ⟨[(0, .str s), (2, .bool f)], [], 0⟩ K = K (.exit 2) ⟨[(0, .str (skipF m s)), (2, .bool f)], [], 0⟩
  | 0, s, h => by
    have hd : decide (s.length > 32) = false := decide_eq_false (by omega)
    rw [rounds_succ', vs9_round, hd]
    rfl
  | m + 1, s, h => by
    rw [rounds_succ', vs9_round]
    simp only [skipF]
    cases hc : (decide (s.length > 32) && low32 s)
    · rfl
    · simp only [Bool.and_eq_true, decide_eq_true_eq] at hc
      exact vs9_loop f K m (s.drop 32) (by simp; omega)
def vs9Pat : SPat := ⟨[(0, .str), (2, .bool)], []⟩
def vs9LC : LoopC := LoopC.of vs9Pat (fun _ => true) fun x => [(true, .exit 2, ⟨[(0, .str (skip32 x.1.1)), (2, .bool x.1.2.1)], [], 0⟩)]
theorem vs9_lok : LoopOK P0 H.unicode_utf8_ValidString 0 L.unicode_utf8_ValidString_9 vs9LC := loop_ok_of (env_ok consW_ok) glob0 mixed0 noLoops V.unicode_utf8_ValidString_9 (by decide) fun ⟨⟨s, f, _⟩, _⟩ h hw =>
  ⟨_, vs9_loop f (fun e s => some (e, s)) (List.length s) s (Nat.le_refl _)⟩

theorem vs1_rd {R : Type} (s : List UInt8) (f : Bool) (K : Ex → St → Option R) : roundK (env consW) H.unicode_utf8_ValidString 0 (LPof [(9, vs9LC)]) V.unicode_utf8_ValidString_1 L.unicode_utf8_ValidString_1 ⟨[(0, .str s), (2, .bool f)], [], 0⟩ K = bif decide ((↑s.length : Int) > (0 : Int)) then bif decide ((0 : Int) < (↑s.length : Int)) then bif decide ((↑(s.getD 0 (0 : UInt8)).toNat : Int) < (128 : Int)) then bif decide ((1 : Int) ≤ (↑s.length : Int)) then Option.bind (bif decide ((↑(List.drop 1 s).length : Int) > (8 : Int)) then bif decide (8 ≤ (List.drop 1 s).length) then some (IntKind.u64.wrap (↑(BitVec.ofInt 64 (↑(w8 (List.drop 1 s)).toNat : Int) &&& BitVec.ofInt 64 (9259542123273814144 : Int)).toNat : Int) == (0 : Int)) else none else some false) fun v => bif v then bif decide ((8 : Int) ≤ (↑(List.drop 1 s).length : Int)) then Option.bind (bif decide ((↑(List.drop 8 (List.drop 1 s)).length : Int) > (16 : Int)) then bif decide (8 ≤ (List.drop 8 (List.drop 1 s)).length) then bif decide ((8 : Int) ≤ (↑(List.drop 8 (List.drop 1 s)).length : Int)) then bif decide (8 ≤ (List.drop 8 (List.drop 8 (List.drop 1 s))).length) then some (IntKind.u64.wrap (↑(BitVec.ofInt 64 (IntKind.u64.wrap (↑(BitVec.ofInt 64 (↑(w8 (List.drop 8 (List.drop 1 s))).toNat : Int) ||| BitVec.ofInt 64 (↑(w8 (List.drop 8 (List.drop 8 (List.drop 1 s)))).toNat : Int)).toNat : Int)) &&& BitVec.ofInt 64 (9259542123273814144 : Int)).toNat : Int) == (0 : Int)) else none else none else none else some false) fun v => bif v then bif decide ((16 : Int) ≤ (↑(List.drop 8 (List.drop 1 s)).length : Int)) then K Ex.normal { slots := [(0, AV.str (skip32 (List.drop 16 (List.drop 8 (List.drop 1 s))))), (2, AV.bool f)], objs := [], nx := 0 } else none else K Ex.normal { slots := [(0, AV.str (List.drop 8 (List.drop 1 s))), (2, AV.bool f)], objs := [], nx := 0 } else none else K Ex.normal { slots := [(0, AV.str (List.drop 1 s)), (2, AV.bool f)], objs := [], nx := 0 } else none else bif decide ((0 : Int) ≤ (↑(s.getD 0 (0 : UInt8)).toNat : Int)) && decide ((↑(s.getD 0 (0 : UInt8)).toNat : Int) < (256 : Int)) then bif decide ((0 : Int) ≤ Int.fdiv (utf8First.getD (s.getD 0 (0 : UInt8)).toNat (0 : Int)) (16 : Int)) && decide (Int.fdiv (utf8First.getD (s.getD 0 (0 : UInt8)).toNat (0 : Int)) (16 : Int) < (16 : Int)) then bif IntKind.i64.wrap (IntKind.u8.wrap (↑(BitVec.ofInt 8 (utf8First.getD (s.getD 0 (0 : UInt8)).toNat (0 : Int)) &&& BitVec.ofInt 8 (7 : Int)).toNat : Int)) == (2 : Int) then Option.bind (bif decide ((↑s.length : Int) < (2 : Int)) then some true else bif decide ((1 : Int) < (↑s.length : Int)) then bif decide ((↑(s.getD 1 (0 : UInt8)).toNat : Int) < (utf8Acc.getD (Int.fdiv (utf8First.getD (s.getD 0 (0 : UInt8)).toNat (0 : Int)) (16 : Int)).toNat ((Ty.int IntKind.u8).pair (Ty.int IntKind.u8)).zero).fst) then some true else bif decide ((1 : Int) < (↑s.length : Int)) then some (decide ((utf8Acc.getD (Int.fdiv (utf8First.getD (s.getD 0 (0 : UInt8)).toNat (0 : Int)) (16 : Int)).toNat ((Ty.int IntKind.u8).pair (Ty.int IntKind.u8)).zero).snd < (↑(s.getD 1 (0 : UInt8)).toNat : Int))) else none else none) fun v => bif v then K Ex.ret { slots := [(0, AV.str s), (2, AV.bool false)], objs := [], nx := 0 } else bif decide ((2 : Int) ≤ (↑s.length : Int)) then K Ex.normal { slots := [(0, AV.str (List.drop 2 s)), (2, AV.bool f)], objs := [], nx := 0 } else none else bif IntKind.i64.wrap (IntKind.u8.wrap (↑(BitVec.ofInt 8 (utf8First.getD (s.getD 0 (0 : UInt8)).toNat (0 : Int)) &&& BitVec.ofInt 8 (7 : Int)).toNat : Int)) == (3 : Int) then Option.bind (bif decide ((↑s.length : Int) < (3 : Int)) then some true else bif decide ((1 : Int) < (↑s.length : Int)) then bif decide ((↑(s.getD 1 (0 : UInt8)).toNat : Int) < (utf8Acc.getD (Int.fdiv (utf8First.getD (s.getD 0 (0 : UInt8)).toNat (0 : Int)) (16 : Int)).toNat ((Ty.int IntKind.u8).pair (Ty.int IntKind.u8)).zero).fst) then some true else bif decide ((1 : Int) < (↑s.length : Int)) then bif decide ((utf8Acc.getD (Int.fdiv (utf8First.getD (s.getD 0 (0 : UInt8)).toNat (0 : Int)) (16 : Int)).toNat ((Ty.int IntKind.u8).pair (Ty.int IntKind.u8)).zero).snd < (↑(s.getD 1 (0 : UInt8)).toNat : Int)) then some true else bif decide ((2 : Int) < (↑s.length : Int)) then bif decide ((↑(s.getD 2 (0 : UInt8)).toNat : Int) < (128 : Int)) then some true else bif decide ((2 : Int) < (↑s.length : Int)) then some (decide ((191 : Int) < (↑(s.getD 2 (0 : UInt8)).toNat : Int))) else none else none else none else none) fun v => bif v then K Ex.ret { slots := [(0, AV.str s), (2, AV.bool false)], objs := [], nx := 0 } else bif decide ((3 : Int) ≤ (↑s.length : Int)) then K Ex.normal { slots := [(0, AV.str (List.drop 3 s)), (2, AV.bool f)], objs := [], nx := 0 } else none else bif IntKind.i64.wrap (IntKind.u8.wrap (↑(BitVec.ofInt 8 (utf8First.getD (s.getD 0 (0 : UInt8)).toNat (0 : Int)) &&& BitVec.ofInt 8 (7 : Int)).toNat : Int)) == (4 : Int) then Option.bind (bif decide ((↑s.length : Int) < (4 : Int)) then some true else bif decide ((1 : Int) < (↑s.length : Int)) then bif decide ((↑(s.getD 1 (0 : UInt8)).toNat : Int) < (utf8Acc.getD (Int.fdiv (utf8First.getD (s.getD 0 (0 : UInt8)).toNat (0 : Int)) (16 : Int)).toNat ((Ty.int IntKind.u8).pair (Ty.int IntKind.u8)).zero).fst) then some true else bif decide ((1 : Int) < (↑s.length : Int)) then bif decide ((utf8Acc.getD (Int.fdiv (utf8First.getD (s.getD 0 (0 : UInt8)).toNat (0 : Int)) (16 : Int)).toNat ((Ty.int IntKind.u8).pair (Ty.int IntKind.u8)).zero).snd < (↑(s.getD 1 (0 : UInt8)).toNat : Int)) then some true else bif decide ((2 : Int) < (↑s.length : Int)) then bif decide ((↑(s.getD 2 (0 : UInt8)).toNat : Int) < (128 : Int)) then some true else bif decide ((2 : Int) < (↑s.length : Int)) then bif decide ((191 : Int) < (↑(s.getD 2 (0 : UInt8)).toNat : Int)) then some true else bif decide ((3 : Int) < (↑s.length : Int)) then bif decide ((↑(s.getD 3 (0 : UInt8)).toNat : Int) < (128 : Int)) then some true else bif decide ((3 : Int) < (↑s.length : Int)) then some (decide ((191 : Int) < (↑(s.getD 3 (0 : UInt8)).toNat : Int))) else none else none else none else none else none else none) fun v => bif v then K Ex.ret { slots := [(0, AV.str s), (2, AV.bool false)], objs := [], nx := 0 } else bif decide ((4 : Int) ≤ (↑s.length : Int)) then K Ex.normal { slots := [(0, AV.str (List.drop 4 s)), (2, AV.bool f)], objs := [], nx := 0 } else none else K Ex.ret { slots := [(0, AV.str s), (2, AV.bool false)], objs := [], nx := 0 } else none else none else none else K (Ex.exit 0) { slots := [(0, AV.str s), (2, AV.bool f)], objs := [], nx := 0 } := by kernel_rfl

def vsSt (s : List UInt8) (f : Bool) : St := ⟨[(0, .str s), (2, .bool f)], [], 0⟩
theorem vs1_end {R : Type} (f : Bool) (K : Ex → St → Option R) : roundK (env consW) H.unicode_utf8_ValidString 0 (LPof [(9, vs9LC)]) V.unicode_utf8_ValidString_1 L.unicode_utf8_ValidString_1 (vsSt [] f) K = K (.exit 0) (vsSt [] f) := by
  unfold vsSt
  rw [vs1_rd, cond_neg (by simp)]
theorem vs1_asc {R : Type} (s : List UInt8) (f : Bool) (hl : 1 ≤ s.length) (h : bt s 0 < 128) (K : Ex → St → Option R) : roundK (env consW) H.unicode_utf8_ValidString 0 (LPof [(9, vs9LC)]) V.unicode_utf8_ValidString_1 L.unicode_utf8_ValidString_1 (vsSt s f) K = K .normal (vsSt (adv (s.drop 1)) f) := by
  unfold bt at h
  unfold vsSt
  rw [vs1_rd, cond_pos (by omega), cond_pos (by omega), cond_pos (by omega), cond_pos (by omega)]
  unfold adv
  by_cases h8 : (s.drop 1).length > 8
  · have hd : decide ((s.drop 1).length > 8) = true := decide_eq_true h8
    rw [hd, cond_pos (by omega), cond_pos (by omega)]
    simp only [ofInt_toNat64, wrap_toNat, Option.bind_some, Bool.true_and]
    rw [show ((((w8 (s.drop 1)) &&& BitVec.ofInt 64 (9259542123273814144 : Int)).toNat : Int) == (0 : Int)) = low8 (s.drop 1) from rfl]
    cases low8 (s.drop 1)
    · rfl
    · simp only [cond_true]
      rw [cond_pos (by omega)]
      by_cases h16 : ((s.drop 1).drop 8).length > 16
      · have hd2 : decide (((s.drop 1).drop 8).length > 16) = true := decide_eq_true h16
        have h8' : 8 ≤ (((s.drop 1).drop 8).drop 8).length := by rw [List.length_drop]; omega
        rw [hd2, cond_pos (by omega), cond_pos (by omega), cond_pos (by omega), cond_pos h8']
        simp only [Option.bind_some, Bool.true_and]
        rw [show ((((w8 ((s.drop 1).drop 8) ||| w8 (((s.drop 1).drop 8).drop 8)) &&& BitVec.ofInt 64 (9259542123273814144 : Int)).toNat : Int) == (0 : Int)) = low16 ((s.drop 1).drop 8) from rfl]
        cases low16 ((s.drop 1).drop 8)
        · rfl
        · simp only [cond_true]
          rw [cond_pos (by omega)]
      · have hd2 : decide (((s.drop 1).drop 8).length > 16) = false := decide_eq_false h16
        rw [hd2, cond_neg (by omega)]
        rfl
  · have hd : decide ((s.drop 1).length > 8) = false := decide_eq_false h8
    rw [hd, cond_neg (by omega)]
    rfl

theorem vs1_head {R : Type} (s : List UInt8) (f : Bool) (hl : 1 ≤ s.length) (h : 128 ≤ bt s 0) {F q : Int} {lo hi : Int} (hF : utf8F (bt s 0) = F) (hq : Int.fdiv F 16 = q) (h0 : 0 ≤ q) (h1 : q < 16)
    (ha : utf8Acc.getD q.toNat (0, 0) = (lo, hi)) (K : Ex → St → Option R) (z : Int) (hz : IntKind.i64.wrap (IntKind.u8.wrap (↑(BitVec.ofInt 8 F &&& BitVec.ofInt 8 (7 : Int)).toNat : Int)) = z) :
    roundK (env consW) H.unicode_utf8_ValidString 0 (LPof [(9, vs9LC)]) V.unicode_utf8_ValidString_1 L.unicode_utf8_ValidString_1 (vsSt s f) K =
      bif z == (2 : Int) then (bif decide (2 ≤ s.length) && (decide (lo ≤ (bt s 1 : Int)) && decide ((bt s 1 : Int) ≤ hi)) then K .normal (vsSt (s.drop 2) f) else K .ret (vsSt s false))
      else bif z == (3 : Int) then (bif decide (3 ≤ s.length) && (decide (lo ≤ (bt s 1 : Int)) && decide ((bt s 1 : Int) ≤ hi)) && tailB (bt s 2) then K .normal (vsSt (s.drop 3) f) else K .ret (vsSt s false))
      else bif z == (4 : Int) then (bif decide (4 ≤ s.length) && (decide (lo ≤ (bt s 1 : Int)) && decide ((bt s 1 : Int) ≤ hi)) && tailB (bt s 2) && tailB (bt s 3) then K .normal (vsSt (s.drop 4) f) else K .ret (vsSt s false))
      else K .ret (vsSt s false) := by
  have hF' : utf8First.getD (s.getD 0 0).toNat (0 : Int) = F := (utf8First_get _ (bt_lt s 0)).trans hF
  have hb := bt_lt s 0
  unfold bt at h hb
  unfold vsSt
  have ha1 : (utf8Acc.getD q.toNat ((Ty.int IntKind.u8).pair (Ty.int IntKind.u8)).zero).fst = lo := congrArg Prod.fst ha
  have ha2 : (utf8Acc.getD q.toNat ((Ty.int IntKind.u8).pair (Ty.int IntKind.u8)).zero).snd = hi := congrArg Prod.snd ha
  rw [vs1_rd, cond_pos (by omega), cond_pos (by omega), cond_neg (by omega), cond_pos2 (by omega) (by omega)]
  simp only [hF', hq]
  rw [cond_pos2 h0 h1]
  simp only [ha1, ha2, hz]
  unfold tailB bt
  have t2 : decide (lo ≤ ((s.getD 1 0).toNat : Int)) = !decide (((s.getD 1 0).toNat : Int) < lo) := by rw [← decide_not]; exact decide_eq_decide.2 (by omega)
  have t3 : decide (((s.getD 1 0).toNat : Int) ≤ hi) = !decide (hi < ((s.getD 1 0).toNat : Int)) := by rw [← decide_not]; exact decide_eq_decide.2 (by omega)
  have u1 : ∀ k, decide (128 ≤ (s.getD k 0).toNat) = !decide (((s.getD k 0).toNat : Int) < 128) := fun k => by rw [← decide_not]; exact decide_eq_decide.2 (by omega)
  have u2 : ∀ k, decide ((s.getD k 0).toNat ≤ 191) = !decide ((191 : Int) < ((s.getD k 0).toNat : Int)) := fun k => by rw [← decide_not]; exact decide_eq_decide.2 (by omega)
  simp only [t2, t3, u1, u2]
  generalize decide (((s.getD 1 0).toNat : Int) < lo) = A
  generalize decide (hi < ((s.getD 1 0).toNat : Int)) = B
  generalize decide (((s.getD 2 0).toNat : Int) < 128) = C
  generalize decide ((191 : Int) < ((s.getD 2 0).toNat : Int)) = D
  generalize decide (((s.getD 3 0).toNat : Int) < 128) = X
  generalize decide ((191 : Int) < ((s.getD 3 0).toNat : Int)) = Y
  have lt2 : decide ((s.length : Int) < (2 : Int)) = !decide (2 ≤ s.length) := by rw [← decide_not]; exact decide_eq_decide.2 (by omega)
  have le2 : decide ((2 : Int) ≤ (s.length : Int)) = decide (2 ≤ s.length) := decide_eq_decide.2 (by omega)
  have ls2 : decide ((1 : Int) < (s.length : Int)) = decide (2 ≤ s.length) := decide_eq_decide.2 (by omega)
  have lt3 : decide ((s.length : Int) < (3 : Int)) = !decide (3 ≤ s.length) := by rw [← decide_not]; exact decide_eq_decide.2 (by omega)
  have le3 : decide ((3 : Int) ≤ (s.length : Int)) = decide (3 ≤ s.length) := decide_eq_decide.2 (by omega)
  have ls3 : decide ((2 : Int) < (s.length : Int)) = decide (3 ≤ s.length) := decide_eq_decide.2 (by omega)
  have lt4 : decide ((s.length : Int) < (4 : Int)) = !decide (4 ≤ s.length) := by rw [← decide_not]; exact decide_eq_decide.2 (by omega)
  have le4 : decide ((4 : Int) ≤ (s.length : Int)) = decide (4 ≤ s.length) := decide_eq_decide.2 (by omega)
  have ls4 : decide ((3 : Int) < (s.length : Int)) = decide (4 ≤ s.length) := decide_eq_decide.2 (by omega)
  simp only [lt2, lt3, lt4, le2, le3, le4, ls2, ls3, ls4]
  cases z == (2 : Int)
  · cases z == (3 : Int)
    · cases z == (4 : Int)
      · rfl
      · by_cases hlen : 4 ≤ s.length
        · have w1 : decide (2 ≤ s.length) = true := decide_eq_true (by omega)
          have w2 : decide (3 ≤ s.length) = true := decide_eq_true (by omega)
          have w3 : decide (4 ≤ s.length) = true := decide_eq_true (by omega)
          simp only [w1, w2, w3]
          cases A <;> cases B <;> cases C <;> cases D <;> cases X <;> cases Y <;> rfl
        · have w3 : decide (4 ≤ s.length) = false := decide_eq_false hlen
          simp only [w3]
          rfl
    · by_cases hlen : 3 ≤ s.length
      · have w1 : decide (2 ≤ s.length) = true := decide_eq_true (by omega)
        have w2 : decide (3 ≤ s.length) = true := decide_eq_true (by omega)
        simp only [w1, w2]
        cases A <;> cases B <;> cases C <;> cases D <;> rfl
      · have w3 : decide (3 ≤ s.length) = false := decide_eq_false hlen
        simp only [w3]
        rfl
  · by_cases hlen : 2 ≤ s.length
    · have w1 : decide (2 ≤ s.length) = true := decide_eq_true (by omega)
      simp only [w1]
      cases A <;> cases B <;> rfl
    · have w3 : decide (2 ≤ s.length) = false := decide_eq_false hlen
      simp only [w3]
      rfl

/-- How a round ends. -/
def roundV (s : List UInt8) (f : Bool) (o : Option Nat) {R : Type} (K : Ex → St → Option R) : Option R := match o with
  | some w => K .normal (vsSt (s.drop w) f)
  | none => K .ret (vsSt s false)
theorem roundV_if {s : List UInt8} {f : Bool} {c c' : Bool} {w : Nat} (h : c = c') {R : Type} (K : Ex → St → Option R) : (bif c then K .normal (vsSt (s.drop w) f) else K .ret (vsSt s false)) = roundV s f (if c' = true then some w else none) K := by
  subst h
  cases c <;> rfl
theorem vs1_high {R : Type} (s : List UInt8) (f : Bool) (hl : 1 ≤ s.length) (h : 128 ≤ bt s 0) (K : Ex → St → Option R) :
    roundK (env consW) H.unicode_utf8_ValidString 0 (LPof [(9, vs9LC)]) V.unicode_utf8_ValidString_1 L.unicode_utf8_ValidString_1 (vsSt s f) K = roundV s f (good1 s) K := by
  have hb := bt_lt s 0
  unfold good1
  rw [if_neg (by omega)]
  by_cases h0 : bt s 0 < 194
  · have hF : utf8F (bt s 0) = 241 := by
        unfold utf8F
        repeat' split
        all_goals first | rfl | omega
    rw [vs1_head s f hl h hF (q := 15) rfl (by decide) (by decide) (lo := 0) (hi := 0) rfl K 1 (by decide)]
    rw [if_pos h0]
    rfl
  · skip
    by_cases h1 : bt s 0 < 224
    · have hF : utf8F (bt s 0) = 2 := by
          unfold utf8F
          repeat' split
          all_goals first | rfl | omega
      rw [vs1_head s f hl h hF (q := 0) rfl (by decide) (by decide) (lo := 128) (hi := 191) rfl K 2 (by decide)]
      rw [if_neg (by omega), if_pos h1]
      exact roundV_if (by unfold tailB; rw [Bool.eq_iff_iff]; simp only [Bool.and_eq_true, decide_eq_true_eq]; omega) K
    · skip
      by_cases h2 : bt s 0 = 224
      · have hF : utf8F (bt s 0) = 19 := by
            unfold utf8F
            repeat' split
            all_goals first | rfl | omega
        rw [vs1_head s f hl h hF (q := 1) rfl (by decide) (by decide) (lo := 160) (hi := 191) rfl K 3 (by decide)]
        rw [if_neg (by omega), if_neg (by omega), if_pos (by omega)]
        exact roundV_if (by unfold tailB; rw [Bool.eq_iff_iff]; simp only [Bool.and_eq_true, Bool.or_eq_true, decide_eq_true_eq]; omega) K
      · skip
        by_cases h3 : bt s 0 < 237
        · have hF : utf8F (bt s 0) = 3 := by
              unfold utf8F
              repeat' split
              all_goals first | rfl | omega
          rw [vs1_head s f hl h hF (q := 0) rfl (by decide) (by decide) (lo := 128) (hi := 191) rfl K 3 (by decide)]
          rw [if_neg (by omega), if_neg (by omega), if_pos (by omega)]
          exact roundV_if (by unfold tailB; rw [Bool.eq_iff_iff]; simp only [Bool.and_eq_true, Bool.or_eq_true, decide_eq_true_eq]; omega) K
        · skip
          by_cases h4 : bt s 0 = 237
          · have hF : utf8F (bt s 0) = 35 := by
                unfold utf8F
                repeat' split
                all_goals first | rfl | omega
            rw [vs1_head s f hl h hF (q := 2) rfl (by decide) (by decide) (lo := 128) (hi := 159) rfl K 3 (by decide)]
            rw [if_neg (by omega), if_neg (by omega), if_pos (by omega)]
            exact roundV_if (by unfold tailB; rw [Bool.eq_iff_iff]; simp only [Bool.and_eq_true, Bool.or_eq_true, decide_eq_true_eq]; omega) K
          · skip
            by_cases h5 : bt s 0 < 240
            · have hF : utf8F (bt s 0) = 3 := by
                  unfold utf8F
                  repeat' split
                  all_goals first | rfl | omega
              rw [vs1_head s f hl h hF (q := 0) rfl (by decide) (by decide) (lo := 128) (hi := 191) rfl K 3 (by decide)]
              rw [if_neg (by omega), if_neg (by omega), if_pos (by omega)]
              exact roundV_if (by unfold tailB; rw [Bool.eq_iff_iff]; simp only [Bool.and_eq_true, Bool.or_eq_true, decide_eq_true_eq]; omega) K
            · skip
              by_cases h6 : bt s 0 = 240
              · have hF : utf8F (bt s 0) = 52 := by
                    unfold utf8F
                    repeat' split
                    all_goals first | rfl | omega
                rw [vs1_head s f hl h hF (q := 3) rfl (by decide) (by decide) (lo := 144) (hi := 191) rfl K 4 (by decide)]
                rw [if_neg (by omega), if_neg (by omega), if_neg (by omega), if_pos (by omega)]
                exact roundV_if (by unfold tailB; rw [Bool.eq_iff_iff]; simp only [Bool.and_eq_true, Bool.or_eq_true, decide_eq_true_eq]; omega) K
              · skip
                by_cases h7 : bt s 0 < 244
                · have hF : utf8F (bt s 0) = 4 := by
                      unfold utf8F
                      repeat' split
                      all_goals first | rfl | omega
                  rw [vs1_head s f hl h hF (q := 0) rfl (by decide) (by decide) (lo := 128) (hi := 191) rfl K 4 (by decide)]
                  rw [if_neg (by omega), if_neg (by omega), if_neg (by omega), if_pos (by omega)]
                  exact roundV_if (by unfold tailB; rw [Bool.eq_iff_iff]; simp only [Bool.and_eq_true, Bool.or_eq_true, decide_eq_true_eq]; omega) K
                · skip
                  by_cases h8 : bt s 0 = 244
                  · have hF : utf8F (bt s 0) = 68 := by
                        unfold utf8F
                        repeat' split
                        all_goals first | rfl | omega
                    rw [vs1_head s f hl h hF (q := 4) rfl (by decide) (by decide) (lo := 128) (hi := 143) rfl K 4 (by decide)]
                    rw [if_neg (by omega), if_neg (by omega), if_neg (by omega), if_pos (by omega)]
                    exact roundV_if (by unfold tailB; rw [Bool.eq_iff_iff]; simp only [Bool.and_eq_true, Bool.or_eq_true, decide_eq_true_eq]; omega) K
                  · skip
                    have hF : utf8F (bt s 0) = 241 := by
                          unfold utf8F
                          repeat' split
                          all_goals first | rfl | omega
                    rw [vs1_head s f hl h hF (q := 15) rfl (by decide) (by decide) (lo := 0) (hi := 0) rfl K 1 (by decide)]
                    rw [if_neg (by omega), if_neg (by omega), if_neg (by omega), if_neg (by omega)]
                    rfl

theorem vs1_loop {R : Type} (f : Bool) (K : Ex → St → Option R) : ∀ (m : Nat) (s : List UInt8), s.length ≤ m →
    rounds (env consW) H.unicode_utf8_ValidString 0 (LPof [(9, vs9LC)]) V.unicode_utf8_ValidString_1 L.unicode_utf8_ValidString_1 (m + 1) (vsSt s f) K = bif okL s then K (.exit 0) (vsSt [] f) else K .ret (vsSt (endL s) false)
  | 0, s, h => by
    have : s = [] := List.length_eq_zero_iff.1 (by omega)
    subst this
    rw [rounds_succ', vs1_end]
    rfl
  | m + 1, s, h => by
    by_cases hs : s = []
    · subst hs
      rw [rounds_succ', vs1_end]
      rfl
    · have hl : 1 ≤ s.length := by cases s with | nil => exact absurd rfl hs | cons a b => simp
      by_cases hb : bt s 0 < 128
      · have hg : good1 s = some 1 := by unfold good1; rw [if_pos hb]
        obtain ⟨a1, a2⟩ := okL_some hs hg
        obtain ⟨b1, b2, b3⟩ := adv_ok (s.drop 1)
        rw [List.length_drop] at b3
        rw [rounds_succ', vs1_asc s f hl hb, a1, a2, ← b1, ← b2]
        exact vs1_loop f K m (adv (s.drop 1)) (by omega)
      · rw [rounds_succ', vs1_high s f hl (by omega)]
        cases hg : good1 s with
        | none =>
          obtain ⟨a1, a2⟩ := okL_none hs hg
          rw [a1, a2]
          rfl
        | some w =>
          obtain ⟨a1, a2⟩ := okL_some hs hg
          have hp := good1_pos hg
          rw [a1, a2]
          exact vs1_loop f K m (s.drop w) (by rw [List.length_drop]; omega)
def vs1Pat : SPat := ⟨[(0, .str), (2, .bool)], []⟩
def vs1LC : LoopC := LoopC.of vs1Pat (fun _ => true) fun x => [(okL x.1.1, .exit 0, vsSt [] x.1.2.1), (true, .ret, vsSt (endL x.1.1) false)]
theorem vs1_lok : LoopOK P0 H.unicode_utf8_ValidString 0 L.unicode_utf8_ValidString_1 vs1LC := loop_ok_of (env_ok consW_ok) glob0 mixed0 (loops_good (tab := [(9, vs9LC)]) (by kernel_rfl) (fun x hx => by simp at hx; subst hx; exact vs9_lok)) V.unicode_utf8_ValidString_1 (by decide) fun ⟨⟨s, f, _⟩, _⟩ h hw => by
  refine ⟨_, Eq.trans (vs1_loop f (fun e s => some (e, s)) (List.length s) s (Nat.le_refl _)) ?_⟩
  simp only [pick]
  cases okL s <;> rfl
theorem vs_ev (s : List UInt8) : evFn (env consW) H.unicode_utf8_ValidString (LPof [(1, vs1LC), (9, vs9LC)]) F.unicode_utf8_ValidString [.str s] [] (finK 0) = bif okL s then some (AV.bool true, []) else some (AV.bool false, []) := by kernel_rfl

def caseUtf : PCase := ⟨[.ty .str], [.bool], fun x => [(true, (okL x.1, ()))]⟩
theorem vs_val (s : List UInt8) : evFn (env consW) H.unicode_utf8_ValidString (LPof [(1, vs1LC), (9, vs9LC)]) F.unicode_utf8_ValidString [.str s] [] (finK 0) = some (.bool (okL s), []) := by
  rw [vs_ev]
  cases okL s <;> rfl
theorem vs_ok : caseUtf.ok P0 I.unicode_utf8_ValidString := case_ok (H := H.unicode_utf8_ValidString) (E := env consW) (env_ok consW_ok) glob0 mixed0 G.unicode_utf8_ValidString Bd.unicode_utf8_ValidString (by kernel_rfl) (loops_good (tab := [(1, vs1LC), (9, vs9LC)]) (by kernel_rfl) (fun x hx => by
    simp at hx
    rcases hx with rfl | rfl
    · exact vs1_lok
    · exact vs9_lok)) fun ⟨s, ()⟩ y h hw => by
  obtain rfl := pick_one h
  exact ⟨[], vs_val s⟩

noncomputable abbrev consX : List (FuncId × Con) := [(I.names_among, .pure (pureOf [caseAmong])), (I.names_may, .pure (pureOf [caseMay])), (I.unicode_utf8_ValidString, .pure (pureOf [caseUtf]))]
theorem consX_ok : ∀ x ∈ consX, HoldsC P0 x.1 x.2 := by
  intro x hx
  simp at hx
  rcases hx with rfl | rfl | rfl
  · exact ⟨pureOf_holds (by simp; exact among_ok), C.names_among⟩
  · exact ⟨pureOf_holds (by simp; exact may_ok), C.names_may⟩
  · exact ⟨pureOf_holds (by simp; exact vs_ok), C.unicode_utf8_ValidString⟩
theorem valid_rd {R : Type} (s t : List UInt8) (f : Bool) (n : Int) (pos : Nat) (K : Ex → St → Option R) : roundK (env consX) H.names_Valid 0 (LPof []) V.names_Valid_3 L.names_Valid_3 ⟨[(0, .str s), (2, .bool f), (3, .int .i64 n), (7, .it 0)], [(0, .siter t pos)], 1⟩ K = bif decide (pos < t.length) then Option.bind (bif !mayR (↑(Utf8.decode { data := t.toArray } pos).fst : Int) then some true else bif n == (0 : Int) then some (hasR [(45 : UInt8), (95 : UInt8), (46 : UInt8)] (↑(Utf8.decode { data := t.toArray } pos).fst : Int)) else some false) fun v => bif v then K Ex.ret { slots := [(0, AV.str s), (2, AV.bool false), (3, AV.int IntKind.i64 n), (7, AV.it 0)], objs := [(0, AObj.siter t (pos + (Utf8.decode { data := t.toArray } pos).snd))], nx := 1 } else K Ex.normal { slots := [(0, AV.str s), (2, AV.bool f), (3, AV.int IntKind.i64 (IntKind.i64.wrap (n + (1 : Int)))), (7, AV.it 0)], objs := [(0, AObj.siter t (pos + (Utf8.decode { data := t.toArray } pos).snd))], nx := 1 } else K (Ex.exit 0) { slots := [(0, AV.str s), (2, AV.bool f), (3, AV.int IntKind.i64 n), (7, AV.it 0)], objs := [(0, AObj.siter t pos)], nx := 1 } := by kernel_rfl

def validSt (s t : List UInt8) (f : Bool) (n : Int) (pos : Nat) : St := ⟨[(0, .str s), (2, .bool f), (3, .int .i64 n), (7, .it 0)], [(0, .siter t pos)], 1⟩
theorem bind_bad {R : Type} (c : Int) (n : Int) (k : Bool → Option R) : (bif !mayR c then some true else bif n == (0 : Int) then some (hasR [(45 : UInt8), (95 : UInt8), (46 : UInt8)] c) else some false).bind k = k (badR c (n == (0 : Int))) := by
  unfold badR signsL
  cases mayR c <;> cases n == (0 : Int) <;> rfl
theorem valid_loop (s t : List UInt8) (f : Bool) (ht : t.length ≤ 9223372036854775807) {R : Type} (K : Ex → St → Option R) : ∀ (m pos : Nat) (n : Int), t.length ≤ pos + m → pos ≤ t.length → 0 ≤ n → n ≤ pos →
    rounds (env consX) H.names_Valid 0 (LPof []) V.names_Valid_3 L.names_Valid_3 (m + 1) (validSt s t f n pos) K =
      match failF m (t.drop pos) (n == (0 : Int)) with
      | some (k, w) => K .ret (validSt s t false (n + (k : Nat)) (pos + w))
      | none => K (.exit 0) (validSt s t f (n + (cnt (t.drop pos) : Nat)) t.length)
  | 0, pos, n, h, hp, h0, h1 => by
    have : pos = t.length := by omega
    subst this
    rw [rounds_succ']
    unfold validSt
    rw [valid_rd, cond_neg (by omega)]
    simp [failF, cnt_nil]
  | m + 1, pos, n, h, hp, h0, h1 => by
    rw [rounds_succ']
    unfold validSt
    by_cases hlt : pos < t.length
    · have hne := drop_ne hlt
      have hw := dec1_pos (t.drop pos)
      have hle := dec1_le _ hne
      rw [List.length_drop] at hle
      have hem : (t.drop pos).isEmpty = false := by cases hd : t.drop pos with | nil => exact absurd hd hne | cons a b => rfl
      rw [valid_rd, cond_pos hlt, bind_bad, decode_dec1]
      simp only [failF, hem, cond_false]
      cases hb : badR (((dec1 (t.drop pos)).1 : Nat) : Int) (n == (0 : Int))
      · have ih := valid_loop s t f ht K m (pos + (dec1 (t.drop pos)).2) (n + 1) (by omega) (by omega) (by omega) (by omega)
        have hn1 : ((n + 1) == (0 : Int)) = false := by simp; omega
        rw [hn1] at ih
        simp only [cond_false]
        rw [List.drop_drop, wrap64 (by omega) (by omega), cnt_cons _ hne, List.drop_drop]
        refine Eq.trans ih ?_
        cases failF m (t.drop (pos + (dec1 (t.drop pos)).2)) false with
        | none =>
          simp only [Option.map_none, validSt]
          rw [show n + 1 + ((cnt (t.drop (pos + (dec1 (t.drop pos)).2)) : Nat) : Int) = n + ((cnt (t.drop (pos + (dec1 (t.drop pos)).2)) + 1 : Nat) : Int) by omega]
        | some p =>
          obtain ⟨k, w⟩ := p
          simp only [Option.map_some, validSt]
          rw [show n + 1 + ((k : Nat) : Int) = n + ((k + 1 : Nat) : Int) by omega, Nat.add_assoc]
      · simp only [cond_true]
        rw [show n + ((0 : Nat) : Int) = n by omega]
    · have : pos = t.length := by omega
      subst this
      rw [valid_rd, cond_neg (by omega)]
      simp [failF, cnt_nil]

def validPat : SPat := ⟨[(0, .str), (2, .bool), (3, .int .i64), (7, .lit (.it 0))], [.siter]⟩
def validLC : LoopC := LoopC.of validPat (fun x => decide (x.1.2.2.1 = (0 : Int)) && decide (x.2.1.2 = 0))
  fun x => [((failF (List.length x.2.1.1) x.2.1.1 true).isSome, .ret, validSt x.1.1 x.2.1.1 false ((((failF (List.length x.2.1.1) x.2.1.1 true).getD (0, 0)).1 : Nat) : Int) ((failF (List.length x.2.1.1) x.2.1.1 true).getD (0, 0)).2),
    (true, .exit 0, validSt x.1.1 x.2.1.1 x.1.2.1 ((cnt x.2.1.1 : Nat) : Int) (List.length x.2.1.1))]
theorem valid_all (s t : List UInt8) (f : Bool) (ht : t.length ≤ 9223372036854775807) : ∃ n, rounds (env consX) H.names_Valid 0 (LPof []) V.names_Valid_3 L.names_Valid_3 n (validSt s t f 0 0) (fun e s => some (e, s)) =
    pick [((failF t.length t true).isSome, Ex.ret, validSt s t false ((((failF t.length t true).getD (0, 0)).1 : Nat) : Int) ((failF t.length t true).getD (0, 0)).2), (true, .exit 0, validSt s t f ((cnt t : Nat) : Int) t.length)] := by
  have := valid_loop s t f ht (fun e s => some (e, s)) t.length 0 0 (by omega) (Nat.zero_le _) (Int.le_refl _) (Int.le_refl _)
  rw [List.drop_zero, Int.zero_add] at this
  refine ⟨_, Eq.trans this ?_⟩
  rw [show ((0 : Int) == 0) = true from rfl]
  simp only [pick]
  cases failF t.length t true with
  | none => rfl
  | some p =>
    obtain ⟨k, w⟩ := p
    simp only [Int.zero_add, Nat.zero_add]
    rfl
theorem valid_lok : LoopOK P0 H.names_Valid 0 L.names_Valid_3 validLC := loop_ok_of (env_ok consX_ok) glob0 mixed0 noLoops V.names_Valid_3 (by decide) fun ⟨⟨s, f, n, _, _⟩, ⟨t, pos⟩, _⟩ h hw => by
  simp only [Bool.and_eq_true, decide_eq_true_eq] at h
  obtain ⟨h1, h2⟩ := h
  subst h1; subst h2
  exact valid_all s t f hw.2.1
theorem valid_ev (s : List UInt8) : evFn (env consX) H.names_Valid (LPof [(3, validLC)]) F.names_Valid [.str s] [] (finK 0) = bif (failF s.length s true).isSome then some (AV.bool false, []) else Option.bind (bif decide ((↑(cnt s) : Int) > (0 : Int)) then bif decide ((↑(cnt s) : Int) ≤ (40 : Int)) then some (okL s) else some false else some false) fun v => some (AV.bool v, []) := by kernel_rfl

def caseValid : PCase := ⟨[.ty .str], [.bool], fun x => [(true, (validL x.1, ()))]⟩

theorem valid_val (s : List UInt8) : evFn (env consX) H.names_Valid (LPof [(3, validLC)]) F.names_Valid [.str s] [] (finK 0) = some (.bool (validL s), []) := by
  rw [valid_ev]
  unfold validL
  cases (failF s.length s true).isSome <;> cases decide ((cnt s : Int) > 0) <;> cases decide ((cnt s : Int) ≤ 40) <;> rfl
theorem valid_ok : caseValid.ok P0 I.names_Valid := case_ok (H := H.names_Valid) (E := env consX) (env_ok consX_ok) glob0 mixed0 G.names_Valid Bd.names_Valid (by kernel_rfl) (loops_good (tab := [(3, validLC)]) (by kernel_rfl) (fun x hx => by simp at hx; subst hx; exact valid_lok)) fun ⟨s, ()⟩ y h hw => by
  obtain rfl := pick_one h
  exact ⟨[], valid_val s⟩
noncomputable abbrev consN : List (FuncId × Con) := [(I.names_Valid, .pure (pureOf [caseValid])), (I.names_Count, .pure (pureOf [caseCount])), (I.names_Cut, .pure (pureOf [caseCut])), (I.cooperagelaw3_alive, .pure (pureOf [caseAlive]))]
theorem consN_ok : ∀ x ∈ consN, HoldsC P0 x.1 x.2 := by
  intro x hx
  simp at hx
  rcases hx with rfl | rfl | rfl | rfl
  · exact ⟨pureOf_holds (by simp; exact valid_ok), C.names_Valid⟩
  · exact ⟨pureOf_holds (by simp; exact count_ok), C.names_Count⟩
  · exact ⟨pureOf_holds (by simp; exact cut_ok), C.names_Cut⟩
  · exact ⟨pureOf_holds (by simp; exact alive_ok), C.cooperagelaw3_alive⟩

end Go.Sim
namespace Go.Sim
set_option linter.unusedSimpArgs false
set_option linter.unusedVariables false
theorem long_rd {R : Type} (w : Bool) (n i : Int) (s : List UInt8) (K : Ex → St → Option R) : roundK (env consN) H.cooperagelaw3_NamesLong 0 (LPof []) V.cooperagelaw3_NamesLong_6 L.cooperagelaw3_NamesLong_6 ⟨[(0, .int .i64 n), (1, .bool w), (6, .str s), (7, .int .i64 i)], [], 0⟩ K = bif decide (i < n) then bif w then bif decide (s.length + 2 ≤ 9223372036854775807) then K Ex.normal { slots := [(0, AV.int IntKind.i64 n), (1, AV.bool w), (6, AV.str (s ++ [(195 : UInt8), (169 : UInt8)])), (7, AV.int IntKind.i64 (IntKind.i64.wrap (i + (1 : Int))))], objs := [], nx := 0 } else none else bif decide (s.length + 1 ≤ 9223372036854775807) then K Ex.normal { slots := [(0, AV.int IntKind.i64 n), (1, AV.bool w), (6, AV.str (s ++ [(97 : UInt8)])), (7, AV.int IntKind.i64 (IntKind.i64.wrap (i + (1 : Int))))], objs := [], nx := 0 } else none else K (Ex.exit 0) { slots := [(0, AV.int IntKind.i64 n), (1, AV.bool w), (6, AV.str s), (7, AV.int IntKind.i64 i)], objs := [], nx := 0 } := by kernel_rfl

def repL (w : Bool) : Nat → List UInt8
  | 0 => []
  | n + 1 => repL w n ++ (bif w then [195, 169] else [97])
theorem repL_length (w : Bool) : ∀ n, (repL w n).length ≤ 2 * n
  | 0 => Nat.le_refl _
  | n + 1 => by
    have := repL_length w n
    cases w <;> simp [repL] <;> omega
def longSt (n i : Int) (w : Bool) (s : List UInt8) : St := ⟨[(0, .int .i64 n), (1, .bool w), (6, .str s), (7, .int .i64 i)], [], 0⟩
theorem long_loop (N : Nat) (w : Bool) (hN : N ≤ 60) {R : Type} (K : Ex → St → Option R) : ∀ (m i : Nat), i + m = N →
    rounds (env consN) H.cooperagelaw3_NamesLong 0 (LPof []) V.cooperagelaw3_NamesLong_6 L.cooperagelaw3_NamesLong_6 (m + 1) (longSt N i w (repL w i)) K = K (.exit 0) (longSt N N w (repL w N))
  | 0, i, h => by
    have : i = N := by omega
    subst this
    rw [rounds_succ']
    unfold longSt
    rw [long_rd, cond_neg (by omega)]
  | m + 1, i, h => by
    have hl := repL_length w i
    have ih := long_loop N w hN K m (i + 1) (by omega)
    rw [rounds_succ']
    unfold longSt at ih ⊢
    rw [show ((i + 1 : Nat) : Int) = (i : Int) + 1 by omega] at ih
    rw [long_rd, cond_pos (by omega), wrap64 (by omega) (by omega)]
    cases w with
    | true =>
      simp only [cond_true]
      rw [cond_pos (by omega)]
      exact ih
    | false =>
      simp only [cond_false]
      rw [cond_pos (by omega)]
      exact ih
def longPat : SPat := ⟨[(0, .int .i64), (1, .bool), (6, .str), (7, .int .i64)], []⟩
def longLC : LoopC := LoopC.of longPat (fun x => decide ((0 : Int) ≤ x.1.1) && decide (x.1.1 ≤ (60 : Int)) && List.isEmpty x.1.2.2.1 && decide (x.1.2.2.2.1 = (0 : Int)))
  fun x => [(true, .exit 0, longSt x.1.1 x.1.1 x.1.2.1 (repL x.1.2.1 (Int.toNat x.1.1)))]
theorem long_all (n : Int) (w : Bool) (h0 : 0 ≤ n) (h1 : n ≤ 60) : ∃ k, rounds (env consN) H.cooperagelaw3_NamesLong 0 (LPof []) V.cooperagelaw3_NamesLong_6 L.cooperagelaw3_NamesLong_6 k (longSt n 0 w []) (fun e s => some (e, s)) = some (.exit 0, longSt n n w (repL w n.toNat)) := by
  obtain ⟨N, rfl⟩ := Int.eq_ofNat_of_zero_le h0
  exact ⟨_, long_loop N w (by omega) (fun e s => some (e, s)) N 0 (by omega)⟩
theorem long_lok : LoopOK P0 H.cooperagelaw3_NamesLong 0 L.cooperagelaw3_NamesLong_6 longLC := loop_ok_of (env_ok consN_ok) glob0 mixed0 noLoops V.cooperagelaw3_NamesLong_6 (by decide) fun ⟨⟨n, w, s, i, _⟩, _⟩ h hw => by
  simp only [Bool.and_eq_true, decide_eq_true_eq, List.isEmpty_iff] at h
  obtain ⟨⟨⟨h1, h2⟩, h3⟩, h4⟩ := h
  subst h3; subst h4
  exact long_all n w h1 h2
theorem long_ev (n : Int) (w : Bool) : evFn (env consN) H.cooperagelaw3_NamesLong (LPof [(6, longLC)]) F.cooperagelaw3_NamesLong [.int .i64 n, .bool w] [] (finK 0) = Option.bind (bif decide (n < (0 : Int)) then some true else some (decide (n > (60 : Int)))) fun v => bif v then some (AV.bool true, []) else bif decide ((0 : Int) ≤ n) && decide (n ≤ (60 : Int)) && true && true && true then Option.bind (bif decide (n ≥ (1 : Int)) then bif validL (repL w n.toNat) == decide (n ≤ (40 : Int)) then bif decide ((repL w n.toNat).length ≤ 1048576) then some ((↑(cnt (repL w n.toNat)) : Int) == n) else none else some false else bif validL (repL w n.toNat) == false then bif decide ((repL w n.toNat).length ≤ 1048576) then some ((↑(cnt (repL w n.toNat)) : Int) == n) else none else some false) fun v => some (AV.bool v, []) else none := by kernel_rfl

theorem long_tab : ((List.range 61).all fun n => (validL (repL true n) == (decide (1 ≤ n) && decide (n ≤ 40))) && (validL (repL false n) == (decide (1 ≤ n) && decide (n ≤ 40))) && decide (cnt (repL true n) = n) && decide (cnt (repL false n) = n)) = true := by kernel_rfl

theorem long_fact (w : Bool) (n : Nat) (h : n ≤ 60) : validL (repL w n) = (decide (1 ≤ n) && decide (n ≤ 40)) ∧ cnt (repL w n) = n := by
  have := List.all_eq_true.1 long_tab n (List.mem_range.2 (by omega))
  simp only [Bool.and_eq_true, beq_iff_eq, decide_eq_true_eq] at this
  obtain ⟨⟨⟨a, b⟩, c⟩, d⟩ := this
  cases w
  · exact ⟨b, d⟩
  · exact ⟨a, c⟩
theorem long_val (n : Int) (w : Bool) : evFn (env consN) H.cooperagelaw3_NamesLong (LPof [(6, longLC)]) F.cooperagelaw3_NamesLong [.int .i64 n, .bool w] [] (finK 0) = some (.bool true, []) := by
  rw [long_ev]
  by_cases h1 : n < 0
  · rw [cond_pos h1]; rfl
  · rw [cond_neg h1]
    by_cases h2 : n > 60
    · simp only [h2, decide_true, Option.bind_some, cond_true]
    · obtain ⟨N, rfl⟩ := Int.eq_ofNat_of_zero_le (show 0 ≤ n by omega)
      obtain ⟨f1, f2⟩ := long_fact w N (by omega)
      have hl := repL_length w N
      have e1 : decide ((0 : Int) ≤ (N : Int)) = true := decide_eq_true (by omega)
      have e2 : decide ((N : Int) ≤ (60 : Int)) = true := decide_eq_true (by omega)
      have e3 : decide ((N : Int) ≥ (1 : Int)) = decide (1 ≤ N) := decide_eq_decide.2 (by omega)
      have e4 : decide ((N : Int) ≤ (40 : Int)) = decide (N ≤ 40) := decide_eq_decide.2 (by omega)
      have e5 : decide ((repL w N).length ≤ 1048576) = true := decide_eq_true (by omega)
      simp only [h2, decide_false, Option.bind_some, cond_false, e1, e2, e3, e4, e5, Int.toNat_natCast, f1, f2, Bool.and_true, cond_true, beq_self_eq_true]
      cases decide (1 ≤ N) <;> cases decide (N ≤ 40) <;> rfl
def tyLong : List Ty := [.int .i64, .bool]
theorem long_good (x : tysDen tyLong) (hw : tysWf tyLong x) : ∃ o, EffGood P0 I.cooperagelaw3_NamesLong (valsOf tyLong x) [] (.bool true) o :=
  ⟨[], evFn_sound (H := H.cooperagelaw3_NamesLong) (E := env consN) (env_ok consN_ok) glob0 mixed0 G.cooperagelaw3_NamesLong (args := valsOf tyLong x) (by kernel_rfl) Bd.cooperagelaw3_NamesLong
    (loops_good (tab := [(6, longLC)]) (by kernel_rfl) (fun x hx => by simp at hx; subst hx; exact long_lok)) (long_val x.1 x.2.1)⟩

end Go.Sim
namespace Go.Sim
set_option maxRecDepth 10000
def encL (c : Nat) : List UInt8 := (Utf8.encode (c : Int)).data.toList
theorem bt_cons_zero (a : UInt8) (l : List UInt8) : bt (a :: l) 0 = a.toNat := rfl
theorem bt_cons_succ (a : UInt8) (l : List UInt8) (k : Nat) : bt (a :: l) (k + 1) = bt l k := by simp [bt]
theorem bt_c1 (a b : UInt8) (l : List UInt8) : bt (a :: b :: l) 1 = b.toNat := rfl
theorem bt_c2 (a b c : UInt8) (l : List UInt8) : bt (a :: b :: c :: l) 2 = c.toNat := rfl
theorem bt_c3 (a b c d : UInt8) (l : List UInt8) : bt (a :: b :: c :: d :: l) 3 = d.toNat := rfl
def okR (c : Nat) : Prop := c < 0xD800 ∨ (0xE000 ≤ c ∧ c ≤ 0x10FFFF)
theorem okR_valid {c : Nat} (h : okR c) : Utf8.valid (c : Int) = true := by
  unfold okR at h
  unfold Utf8.valid
  simp only [Bool.or_eq_true, Bool.and_eq_true, decide_eq_true_eq]
  omega
theorem encL_eq {c : Nat} (h : okR c) : encL c = if c < 0x80 then [UInt8.ofNat c] else if c < 0x800 then [UInt8.ofNat (0xC0 + c / 64), UInt8.ofNat (0x80 + c % 64)]
    else if c < 0x10000 then [UInt8.ofNat (0xE0 + c / 4096), UInt8.ofNat (0x80 + c / 64 % 64), UInt8.ofNat (0x80 + c % 64)]
    else [UInt8.ofNat (0xF0 + c / 262144), UInt8.ofNat (0x80 + c / 4096 % 64), UInt8.ofNat (0x80 + c / 64 % 64), UInt8.ofNat (0x80 + c % 64)] := by
  unfold encL Utf8.encode
  simp only [okR_valid h, if_true, Int.toNat_natCast]
  by_cases h1 : c < 0x80
  · simp only [h1, if_true]
  · by_cases h2 : c < 0x800
    · simp only [h1, h2, if_true, if_false]
    · by_cases h3 : c < 0x10000
      · simp only [h1, h2, h3, if_true, if_false]
      · simp only [h1, h2, h3, if_false]
theorem ofNat_toNat' {n : Nat} (h : n < 256) : (UInt8.ofNat n).toNat = n := by simp; omega
theorem enc_dec {c : Nat} (h : okR c) (r : List UInt8) : dec1 (encL c ++ r) = (c, (encL c).length) ∧ good1 (encL c ++ r) = some (encL c).length ∧ 1 ≤ (encL c).length ∧ (encL c).length ≤ 4 := by
  rw [encL_eq h]
  have hv := okR_valid h
  unfold okR at h
  split
  · rename_i h1
    have e : (UInt8.ofNat c).toNat = c := ofNat_toNat' (by omega)
    refine ⟨?_, ?_, by simp, by simp⟩
    · unfold dec1
      simp only [List.cons_append, bt_cons_zero, e]
      rw [if_pos h1]; rfl
    · unfold good1
      simp only [List.cons_append, bt_cons_zero, e]
      rw [if_pos (by omega)]; rfl
  · split
    · rename_i h1 h2
      have e0 : (UInt8.ofNat (0xC0 + c / 64)).toNat = 0xC0 + c / 64 := ofNat_toNat' (by omega)
      have e1 : (UInt8.ofNat (0x80 + c % 64)).toNat = 0x80 + c % 64 := ofNat_toNat' (by omega)
      refine ⟨?_, ?_, by simp, by simp⟩
      · unfold dec1 contL
        simp only [List.cons_append, List.nil_append, bt_cons_zero, bt_c1, e0, e1, List.length_cons]
        rw [if_neg (by omega), if_pos (by simp; omega), if_pos (by omega)]
        simp; omega
      · unfold good1 tailB
        simp only [List.cons_append, List.nil_append, bt_cons_zero, bt_c1, e0, e1, List.length_cons]
        rw [if_neg (by omega), if_neg (by omega), if_pos (by omega), if_pos (by simp; omega)]
        rfl
    · split
      · rename_i h1 h2 h3
        have e0 : (UInt8.ofNat (0xE0 + c / 4096)).toNat = 0xE0 + c / 4096 := ofNat_toNat' (by omega)
        have e1 : (UInt8.ofNat (0x80 + c / 64 % 64)).toNat = 0x80 + c / 64 % 64 := ofNat_toNat' (by omega)
        have e2 : (UInt8.ofNat (0x80 + c % 64)).toNat = 0x80 + c % 64 := ofNat_toNat' (by omega)
        have ec : (0xE0 + c / 4096) % 16 * 4096 + (0x80 + c / 64 % 64) % 64 * 64 + (0x80 + c % 64) % 64 = c := by omega
        refine ⟨?_, ?_, by simp, by simp⟩
        · unfold dec1 contL
          simp only [List.cons_append, List.nil_append, bt_cons_zero, bt_c1, bt_c2, e0, e1, e2, List.length_cons, ec, hv]
          rw [if_neg (by omega), if_neg (by simp; omega), if_pos (by simp; omega), if_pos (by simp; omega)]
          rfl
        · unfold good1 tailB
          simp only [List.cons_append, List.nil_append, bt_cons_zero, bt_c1, bt_c2, e0, e1, e2, List.length_cons]
          rw [if_neg (by omega), if_neg (by omega), if_neg (by omega), if_pos (by omega), if_pos (by simp; omega)]
          rfl
      · rename_i h1 h2 h3
        have e0 : (UInt8.ofNat (0xF0 + c / 262144)).toNat = 0xF0 + c / 262144 := ofNat_toNat' (by omega)
        have e1 : (UInt8.ofNat (0x80 + c / 4096 % 64)).toNat = 0x80 + c / 4096 % 64 := ofNat_toNat' (by omega)
        have e2 : (UInt8.ofNat (0x80 + c / 64 % 64)).toNat = 0x80 + c / 64 % 64 := ofNat_toNat' (by omega)
        have e3 : (UInt8.ofNat (0x80 + c % 64)).toNat = 0x80 + c % 64 := ofNat_toNat' (by omega)
        have ec : (0xF0 + c / 262144) % 8 * 262144 + (0x80 + c / 4096 % 64) % 64 * 4096 + (0x80 + c / 64 % 64) % 64 * 64 + (0x80 + c % 64) % 64 = c := by omega
        refine ⟨?_, ?_, by simp, by simp⟩
        · unfold dec1 contL
          simp only [List.cons_append, List.nil_append, bt_cons_zero, bt_c1, bt_c2, bt_c3, e0, e1, e2, e3, List.length_cons, ec, hv]
          rw [if_neg (by omega), if_neg (by simp; omega), if_neg (by simp; omega), if_pos (by simp; omega), if_pos (by simp; omega)]
          rfl
        · unfold good1 tailB
          simp only [List.cons_append, List.nil_append, bt_cons_zero, bt_c1, bt_c2, bt_c3, e0, e1, e2, e3, List.length_cons]
          rw [if_neg (by omega), if_neg (by omega), if_neg (by omega), if_neg (by omega), if_pos (by omega), if_pos (by simp; omega)]
          rfl
theorem encL_ne {c : Nat} (h : okR c) : encL c ≠ [] := by
  intro e
  have := (enc_dec h []).2.2.1
  rw [e] at this
  simp at this
theorem enc_cnt {c : Nat} (h : okR c) : cnt (encL c) = 1 := by
  have := (enc_dec h []).1
  rw [List.append_nil] at this
  rw [cnt_cons _ (encL_ne h), this]
  simp [cnt_nil]
theorem enc_cut {c : Nat} (h : okR c) (r : List UInt8) : cutP (encL c ++ r) 1 = (encL c).length := by
  have := (enc_dec h r).1
  have hne : encL c ++ r ≠ [] := by simp [encL_ne h]
  simp only [cutP, hne, if_false, this, Nat.add_zero]
theorem enc_okL {c : Nat} (h : okR c) : okL (encL c) = true := by
  have := (enc_dec h []).2.1
  rw [List.append_nil] at this
  rw [(okL_some (encL_ne h) this).1]
  simp [okL_nil]
theorem enc_fail {c : Nat} (h : okR c) (m : Nat) (b : Bool) : (failF (m + 1) (encL c) b).isSome = badR (c : Int) b := by
  have := (enc_dec h []).1
  rw [List.append_nil] at this
  have he : (encL c).isEmpty = false := by cases hc : encL c with | nil => exact absurd hc (encL_ne h) | cons a b => rfl
  rw [failF, he, this]
  cases badR (c : Int) b with
  | true => rfl
  | false =>
    simp only [cond_false, List.drop_length]
    cases m <;> rfl
theorem enc_valid {c : Nat} (h : okR c) : validL (encL c) = !badR (c : Int) true := by
  unfold validL
  have h1 := (enc_dec h []).2.2.1
  obtain ⟨m, hm⟩ : ∃ m, (encL c).length = m + 1 := ⟨_, (Nat.sub_add_cancel h1).symm⟩
  rw [hm, enc_fail h, enc_cnt h, enc_okL h]
  simp
theorem a_valid {c : Nat} (h : okR c) : validL (97 :: encL c) = !badR (c : Int) false := by
  have h97 : bt (97 :: encL c) 0 = 97 := rfl
  have hd : dec1 (97 :: encL c) = (97, 1) := by unfold dec1; rw [h97]; rfl
  have hg : good1 (97 :: encL c) = some 1 := by unfold good1; rw [h97]; rfl
  have hne : (97 :: encL c : List UInt8) ≠ [] := by simp
  have h1 := (enc_dec h []).2.2.1
  obtain ⟨m, hm⟩ : ∃ m, (encL c).length = m + 1 := ⟨_, (Nat.sub_add_cancel h1).symm⟩
  have hb : badR ((97 : Nat) : Int) true = false := by kernel_rfl
  have hf : (failF (97 :: encL c).length (97 :: encL c) true).isSome = badR (c : Int) false := by
    rw [List.length_cons, failF]
    simp only [List.isEmpty_cons, cond_false, hd, hb, List.drop_succ_cons, List.drop_zero, Option.isSome_map]
    rw [hm, enc_fail h]
  have hc : cnt (97 :: encL c) = 2 := by rw [cnt_cons _ hne, hd]; simp [enc_cnt h]
  have ho : okL (97 :: encL c) = true := by rw [(okL_some hne hg).1]; simp [enc_okL h]
  unfold validL
  rw [hf, hc, ho]
  simp
theorem findF_asc : ∀ (m : Nat) (l : List UInt8) (c : Int), l.length ≤ m → (∀ b ∈ l, b.toNat < 128) → (findF m l c).isSome = l.any fun b => ((b.toNat : Nat) : Int) == c
  | 0, l, c, h, _ => by
    have : l = [] := List.length_eq_zero_iff.1 (by omega)
    subst this
    rfl
  | m + 1, [], c, _, _ => rfl
  | m + 1, b :: l, c, h, hb => by
    have h0 := hb b (by simp)
    have hd : dec1 (b :: l) = (b.toNat, 1) := by unfold dec1; rw [if_pos (by rw [bt_cons_zero]; exact h0), bt_cons_zero]
    have ih := findF_asc m l c (by simpa using h) (fun x hx => hb x (List.mem_cons_of_mem _ hx))
    rw [findF, hd]
    simp only [List.isEmpty_cons, cond_false, List.any_cons, List.drop_succ_cons, List.drop_zero]
    cases hc : (((b.toNat : Nat) : Int) == c) with
    | true => rfl
    | false => simp only [cond_false, Option.isSome_map, ih, Bool.false_or]
theorem hasR_asc {l : List UInt8} (h : (l.all fun b => decide (b.toNat < 128)) = true) (c : Int) : hasR l c = l.any fun b => ((b.toNat : Nat) : Int) == c :=
  findF_asc _ l c (Nat.le_refl _) fun b hb => of_decide_eq_true (List.all_eq_true.1 h b hb)
theorem letters_has (c : Int) : hasR lettersL c = (decide (97 ≤ c) && decide (c ≤ 122) || decide (48 ≤ c) && decide (c ≤ 57)) := by
  rw [hasR_asc (by decide +kernel)]
  have h1 : ∀ b ∈ lettersL, (97 ≤ b.toNat ∧ b.toNat ≤ 122) ∨ (48 ≤ b.toNat ∧ b.toNat ≤ 57) := by decide +kernel
  have h2 : ∀ k : Nat, k < 26 → (lettersL.any fun b => b.toNat == 97 + k) = true := by decide +kernel
  have h3 : ∀ k : Nat, k < 10 → (lettersL.any fun b => b.toNat == 48 + k) = true := by decide +kernel
  apply Bool.eq_iff_iff.2
  simp only [List.any_eq_true, beq_iff_eq, Bool.or_eq_true, Bool.and_eq_true, decide_eq_true_eq] at h2 h3 ⊢
  constructor
  · rintro ⟨b, hb, rfl⟩
    have := h1 b hb
    omega
  · rintro (⟨a, b⟩ | ⟨a, b⟩)
    · obtain ⟨x, hx, e⟩ := h2 (c.toNat - 97) (by omega)
      exact ⟨x, hx, by omega⟩
    · obtain ⟨x, hx, e⟩ := h3 (c.toNat - 48) (by omega)
      exact ⟨x, hx, by omega⟩
theorem signs_has (c : Int) : hasR signsL c = (c == 45 || (c == 95 || c == 46)) := by
  rw [hasR_asc (by decide +kernel)]
  apply Bool.eq_iff_iff.2
  simp [signsL]
  omega
end Go.Sim
namespace Go.Sim
set_option linter.unusedSimpArgs false
set_option linter.unusedVariables false
set_option maxRecDepth 10000
theorem signs_ev (c : Int) : evFn (env consN) H.cooperagelaw3_NamesSigns (LPof []) F.cooperagelaw3_NamesSigns [.int .i64 c] [] (finK 0) = Option.bind (bif decide (c < (0 : Int)) then some true else bif decide (c > (1114111 : Int)) then some true else bif decide (c ≥ (55296 : Int)) then some (decide (c ≤ (57343 : Int))) else some false) fun v => bif v then some (AV.bool true, []) else bif (Utf8.encode (IntKind.i32.wrap c)).data.toList.length.ble 4 then Option.bind (bif decide (c ≥ (97 : Int)) then bif decide (c ≤ (122 : Int)) then some true else bif decide (c ≥ (48 : Int)) then bif decide (c ≤ (57 : Int)) then some true else bif decide (c ≥ (161 : Int)) then bif decide (c ≤ (65535 : Int)) then bif c != (173 : Int) then some (c != (65279 : Int)) else some false else some false else some false else bif decide (c ≥ (161 : Int)) then bif decide (c ≤ (65535 : Int)) then bif c != (173 : Int) then some (c != (65279 : Int)) else some false else some false else some false else bif decide (c ≥ (48 : Int)) then bif decide (c ≤ (57 : Int)) then some true else bif decide (c ≥ (161 : Int)) then bif decide (c ≤ (65535 : Int)) then bif c != (173 : Int) then some (c != (65279 : Int)) else some false else some false else some false else bif decide (c ≥ (161 : Int)) then bif decide (c ≤ (65535 : Int)) then bif c != (173 : Int) then some (c != (65279 : Int)) else some false else some false else some false) fun v => Option.bind (bif c == (45 : Int) then some true else bif c == (95 : Int) then some true else some (c == (46 : Int))) fun v_1 => Option.bind (bif validL (Utf8.encode (IntKind.i32.wrap c)).data.toList == v then bif decide (1 + (Utf8.encode (IntKind.i32.wrap c)).data.toList.length ≤ 9223372036854775807) then bif v then bif validL ([(97 : UInt8)] ++ (Utf8.encode (IntKind.i32.wrap c)).data.toList) == true then bif decide ((Utf8.encode (IntKind.i32.wrap c)).data.toList.length ≤ 1048576) then bif (↑(cnt (Utf8.encode (IntKind.i32.wrap c)).data.toList) : Int) == (1 : Int) then bif decide ((Utf8.encode (IntKind.i32.wrap c)).data.toList.length + 1 ≤ 9223372036854775807) then bif decide (((Utf8.encode (IntKind.i32.wrap c)).data.toList ++ [(120 : UInt8)]).length ≤ 1048576) then some (List.take (cutP ((Utf8.encode (IntKind.i32.wrap c)).data.toList ++ [(120 : UInt8)]) 1) ((Utf8.encode (IntKind.i32.wrap c)).data.toList ++ [(120 : UInt8)]) == (Utf8.encode (IntKind.i32.wrap c)).data.toList) else none else none else some false else none else some false else bif validL ([(97 : UInt8)] ++ (Utf8.encode (IntKind.i32.wrap c)).data.toList) == v_1 then bif decide ((Utf8.encode (IntKind.i32.wrap c)).data.toList.length ≤ 1048576) then bif (↑(cnt (Utf8.encode (IntKind.i32.wrap c)).data.toList) : Int) == (1 : Int) then bif decide ((Utf8.encode (IntKind.i32.wrap c)).data.toList.length + 1 ≤ 9223372036854775807) then bif decide (((Utf8.encode (IntKind.i32.wrap c)).data.toList ++ [(120 : UInt8)]).length ≤ 1048576) then some (List.take (cutP ((Utf8.encode (IntKind.i32.wrap c)).data.toList ++ [(120 : UInt8)]) 1) ((Utf8.encode (IntKind.i32.wrap c)).data.toList ++ [(120 : UInt8)]) == (Utf8.encode (IntKind.i32.wrap c)).data.toList) else none else none else some false else none else some false else none else some false) fun v => some (AV.bool v, []) else none := by kernel_rfl

def plainB (c : Int) : Bool := decide (c ≥ 97) && decide (c ≤ 122) || decide (c ≥ 48) && decide (c ≤ 57) || decide (c ≥ 161) && decide (c ≤ 65535) && c != 173 && c != 65279
def markB (c : Int) : Bool := c == 45 || (c == 95 || c == 46)
theorem plain_bif : ∀ a b d e f g p q : Bool, (bif a then bif b then some true else bif d then bif e then some true else bif f then bif g then bif p then some q else some false else some false else some false
      else bif f then bif g then bif p then some q else some false else some false else some false
    else bif d then bif e then some true else bif f then bif g then bif p then some q else some false else some false else some false
      else bif f then bif g then bif p then some q else some false else some false else some false) = some (a && b || d && e || f && g && p && q) := by decide
theorem may_plain (c : Int) : (!badR c true) = plainB c ∧ (!badR c false) = (plainB c || markB c) := by
  unfold badR mayR plainB markB
  rw [letters_has, signs_has]
  constructor
  · apply Bool.eq_iff_iff.2
    simp only [Bool.not_eq_true', Bool.or_eq_false_iff, Bool.and_eq_false_iff, Bool.not_eq_false', Bool.or_eq_true, Bool.and_eq_true, decide_eq_true_eq, beq_iff_eq, bne_iff_ne, beq_eq_false_iff_ne, Bool.true_and, ne_eq, Bool.not_eq_true]
    omega
  · apply Bool.eq_iff_iff.2
    simp only [Bool.false_and, Bool.or_false, Bool.not_not, Bool.or_eq_true, Bool.and_eq_true, decide_eq_true_eq, beq_iff_eq, bne_iff_ne, ne_eq]
    omega
theorem signs_fin (p m : Bool) (a b d e : List UInt8) (va vb : Bool) (hva : va = p) (hvb : vb = (p || m)) {k1 k2 : Bool} (h1 : k1 = true) (h2 : k2 = true) {k3 k4 k5 : Bool} (h3 : k3 = true) (h4 : k4 = true) (h5 : k5 = true) {f : Bool} (hf : f = true) :
    (Option.bind (bif va == p then bif k1 then bif p then bif vb == true then bif k2 then bif k3 then bif k4 then bif k5 then some f else none else none else some false else none else some false
      else bif vb == m then bif k2 then bif k3 then bif k4 then bif k5 then some f else none else none else some false else none else some false else none else some false) fun v => some (AV.bool v, ([] : List AObj))) = some (AV.bool true, []) := by
  subst hva hvb h1 h2 h3 h4 h5 hf
  cases va <;> cases m <;> rfl
theorem signs_val (c : Int) : evFn (env consN) H.cooperagelaw3_NamesSigns (LPof []) F.cooperagelaw3_NamesSigns [.int .i64 c] [] (finK 0) = some (.bool true, []) := by
  rw [signs_ev]
  by_cases h0 : c < 0
  · simp only [h0, decide_true, cond_true, Option.bind_some]
  · by_cases h1 : c > 1114111
    · simp only [h0, h1, decide_true, decide_false, cond_true, cond_false, Option.bind_some]
    · by_cases h2 : c ≥ 55296 ∧ c ≤ 57343
      · simp only [h0, h1, h2.1, h2.2, decide_true, decide_false, cond_true, cond_false, Option.bind_some]
      · have e2 : (bif decide (c ≥ (55296 : Int)) then some (decide (c ≤ (57343 : Int))) else some false) = some false := by
          by_cases h3 : c ≥ 55296
          · have : ¬ c ≤ 57343 := fun h => h2 ⟨h3, h⟩
            simp only [h3, this, decide_true, decide_false, cond_true]
          · simp only [h3, decide_false, cond_false]
        obtain ⟨n, rfl⟩ := Int.eq_ofNat_of_zero_le (show 0 ≤ c by omega)
        have hok : okR n := by unfold okR; omega
        have hwr : IntKind.i32.wrap (n : Int) = n := wrap_in (In.i32.2 (by omega))
        obtain ⟨d1, d2, d3, d4⟩ := enc_dec hok []
        have hv := enc_valid hok
        have ha := a_valid hok
        have hcn := enc_cnt hok
        have hct := enc_cut hok [120]
        rw [(may_plain n).1] at hv
        rw [(may_plain n).2] at ha
        simp only [h0, h1, e2, decide_false, cond_false, Option.bind_some, hwr, plain_bif]
        rw [show (Utf8.encode (n : Int)).data.toList = encL n from rfl]
        have e3 : Nat.ble (encL n).length 4 = true := by rw [Nat.ble_eq]; exact d4
        have e4 : (bif (n : Int) == (45 : Int) then some true else bif (n : Int) == (95 : Int) then some true else some ((n : Int) == (46 : Int))) = some (markB n) := by
          unfold markB
          cases (n : Int) == (45 : Int) <;> cases (n : Int) == (95 : Int) <;> rfl
        rw [e3, e4]
        simp only [cond_true, Option.bind_some]
        refine signs_fin (plainB n) (markB n) [] [] [] [] _ _ hv ha (decide_eq_true (by omega)) (decide_eq_true (by omega)) ?_ (decide_eq_true (by omega)) (decide_eq_true (by simp; omega)) ?_
        · rw [hcn]; rfl
        · rw [hct, List.take_left']
          · simp
          · rfl
def tySigns : List Ty := [.int .i64]
theorem signs_good (x : tysDen tySigns) (hw : tysWf tySigns x) : ∃ o, EffGood P0 I.cooperagelaw3_NamesSigns (valsOf tySigns x) [] (.bool true) o :=
  ⟨[], evFn_sound (H := H.cooperagelaw3_NamesSigns) (E := env consN) (env_ok consN_ok) glob0 mixed0 G.cooperagelaw3_NamesSigns (args := valsOf tySigns x) (by kernel_rfl) Bd.cooperagelaw3_NamesSigns noLoops (signs_val x.1)⟩

end Go.Sim
namespace Go.Sim
set_option maxRecDepth 10000
set_option linter.unusedSimpArgs false
set_option linter.unusedVariables false
def badB (x : Nat) : Bool := decide (x < 128) || decide (x > 191)
/-- Bytes behind the first one: all right?; the number; where. -/
def ctF (s : List UInt8) : Nat → Nat → Nat → Bool × Nat × Nat
  | 0, i, c => (true, c, i)
  | k + 1, i, c => bif badB (bt s i) then (false, c, i) else ctF s k (i + 1) (c * 64 + bt s i % 64)
theorem and_mask (x m : Nat) (M : Int) (hM : M = (m : Int)) (hx : x < 256) (hm : m = 7 ∨ m = 15 ∨ m = 31 ∨ m = 63) : ((BitVec.ofInt 64 (x : Int) &&& BitVec.ofInt 64 M).toNat : Int) = ((x % (m + 1) : Nat) : Int) := by
  subst hM
  have e1 : BitVec.ofInt 64 (x : Int) = BitVec.ofNat 64 x := by apply BitVec.eq_of_toNat_eq; simp
  have e2 : BitVec.ofInt 64 (m : Int) = BitVec.ofNat 64 m := by apply BitVec.eq_of_toNat_eq; simp
  rw [e1, e2, BitVec.toNat_and, BitVec.toNat_ofNat, BitVec.toNat_ofNat, Nat.mod_eq_of_lt (by omega), Nat.mod_eq_of_lt (by omega)]
  congr 1
  rcases hm with rfl | rfl | rfl | rfl
  · exact Nat.and_two_pow_sub_one_eq_mod x 3
  · exact Nat.and_two_pow_sub_one_eq_mod x 4
  · exact Nat.and_two_pow_sub_one_eq_mod x 5
  · exact Nat.and_two_pow_sub_one_eq_mod x 6
/-- The document's reader: rune, length, right? -/
def r1 (s : List UInt8) : Nat × Nat × Bool := match good1 s with
  | some w => ((dec1 s).1, w, true)
  | none => (0, 1, false)
/-- What right first bytes decode to. -/
theorem good_dec {s : List UInt8} {w : Nat} (h : good1 s = some w) : (dec1 s).2 = w := by
  unfold good1 tailB at h
  unfold dec1 contL
  have h0 := bt_lt s 0
  have h1 := bt_lt s 1
  have h2 := bt_lt s 2
  have h3 := bt_lt s 3
  split at h
  · rename_i a; cases h; rw [if_pos a]
  · split at h
    · cases h
    · split at h
      · split at h
        · rename_i a b c d
          cases h
          simp only [Bool.and_eq_true, decide_eq_true_eq] at d
          rw [if_neg (by omega), if_pos (by simp; omega), if_pos (by omega)]
        · cases h
      · split at h
        · split at h
          · rename_i a b c d e
            cases h
            simp only [Bool.and_eq_true, Bool.or_eq_true, decide_eq_true_eq] at e
            rw [if_neg (by omega), if_neg (by simp; omega), if_pos (by simp; omega), if_pos]
            simp only [Bool.and_eq_true, decide_eq_true_eq, Utf8.valid, Bool.or_eq_true]
            omega
          · cases h
        · split at h
          · split at h
            · rename_i a b c d e f
              cases h
              simp only [Bool.and_eq_true, Bool.or_eq_true, decide_eq_true_eq] at f
              rw [if_neg (by omega), if_neg (by simp; omega), if_neg (by simp; omega), if_pos (by simp; omega), if_pos]
              simp only [Bool.and_eq_true, decide_eq_true_eq, Utf8.valid, Bool.or_eq_true]
              omega
            · cases h
          · cases h
/-- .. and wrong ones. -/
theorem bad_dec {s : List UInt8} (h : good1 s = none) : dec1 s = (0xFFFD, 1) := by
  unfold good1 tailB at h
  unfold dec1 contL
  have h0 := bt_lt s 0
  have h1 := bt_lt s 1
  have h2 := bt_lt s 2
  have h3 := bt_lt s 3
  repeat' split at h
  all_goals first | (cases h; done) | skip
  all_goals
    repeat' split
  all_goals first
    | rfl
    | (exfalso
       simp only [Bool.and_eq_true, Bool.or_eq_true, decide_eq_true_eq, beq_iff_eq, Utf8.valid, Bool.and_eq_false_iff, Bool.or_eq_false_iff, decide_eq_false_iff_not, not_and, not_or] at *
       omega)
theorem ct1 (s : List UInt8) (c : Nat) : ctF s 1 1 c = bif badB (bt s 1) then (false, c, 1) else (true, c * 64 + bt s 1 % 64, 2) := rfl
theorem ct2 (s : List UInt8) (c : Nat) : ctF s 2 1 c = bif badB (bt s 1) then (false, c, 1) else bif badB (bt s 2) then (false, c * 64 + bt s 1 % 64, 2) else (true, (c * 64 + bt s 1 % 64) * 64 + bt s 2 % 64, 3) := rfl
theorem ct3 (s : List UInt8) (c : Nat) : ctF s 3 1 c = bif badB (bt s 1) then (false, c, 1) else bif badB (bt s 2) then (false, c * 64 + bt s 1 % 64, 2) else
    bif badB (bt s 3) then (false, (c * 64 + bt s 1 % 64) * 64 + bt s 2 % 64, 3) else (true, ((c * 64 + bt s 1 % 64) * 64 + bt s 2 % 64) * 64 + bt s 3 % 64, 4) := rfl
/-- May this number be a rune's, by the document? -/
def farB (c least : Nat) : Bool := decide (c < least) || decide (c > 1114111) || decide (c ≥ 55296) && decide (c ≤ 57343)
/-- What the document's reader tells of n bytes. -/
def tellR (s : List UInt8) (n k : Nat) (least : Nat) (c0 : Nat) : Nat × Nat × Bool :=
  bif decide (s.length < n) then (0, 1, false) else bif (ctF s k 1 c0).1 then (bif farB (ctF s k 1 c0).2.1 least then (0, 1, false) else ((ctF s k 1 c0).2.1, n, true)) else (0, 1, false)
def r1R (s : List UInt8) : Nat × Nat × Bool :=
  bif decide (bt s 0 < 128) then (bt s 0, 1, true) else bif decide (bt s 0 ≥ 194) && decide (bt s 0 < 224) then tellR s 2 1 128 (bt s 0 % 32) else bif decide (bt s 0 ≥ 224) && decide (bt s 0 < 240) then tellR s 3 2 2048 (bt s 0 % 16)
  else bif decide (bt s 0 ≥ 240) && decide (bt s 0 < 245) then tellR s 4 3 65536 (bt s 0 % 8) else (0, 1, false)
theorem badB_tail (x : Nat) : badB x = !tailB x := by
  unfold badB tailB
  by_cases h1 : x < 128 <;> by_cases h2 : x > 191 <;> simp [h1, h2] <;> omega
theorem r1_eq (s : List UInt8) : r1R s = r1 s := by
  unfold r1R r1
  have h0 := bt_lt s 0
  have h1 := bt_lt s 1
  have h2 := bt_lt s 2
  have h3 := bt_lt s 3
  by_cases a : bt s 0 < 128
  · simp only [a, decide_true, cond_true, good1, if_true, dec1]
  · by_cases b : bt s 0 < 194
    · have b2 : ¬ bt s 0 ≥ 194 := by omega
      have b3 : ¬ bt s 0 ≥ 224 := by omega
      have b4 : ¬ bt s 0 ≥ 240 := by omega
      simp only [a, b, b2, b3, b4, decide_false, Bool.false_and, cond_false, good1, if_false, if_true]
    · by_cases c : bt s 0 < 224
      · have c2 : bt s 0 ≥ 194 := by omega
        simp only [a, b, c, c2, decide_false, decide_true, Bool.true_and, cond_false, cond_true, tellR, ct1, badB_tail]
        have hg : good1 s = if decide (2 ≤ s.length) && tailB (bt s 1) then some 2 else none := by unfold good1; rw [if_neg a, if_neg b, if_pos c]
        rw [hg]
        by_cases l : s.length < 2
        · have l2 : ¬ 2 ≤ s.length := by omega
          simp [l, l2]
        · have l2 : 2 ≤ s.length := by omega
          cases t : tailB (bt s 1) with
          | false => simp [l, l2, t]
          | true =>
            have t' := t
            unfold tailB at t
            simp only [Bool.and_eq_true, decide_eq_true_eq] at t
            have f : farB (bt s 0 % 32 * 64 + bt s 1 % 64) 128 = false := by unfold farB; simp; omega
            have d : dec1 s = (bt s 0 % 32 * 64 + bt s 1 % 64, 2) := by unfold dec1 contL; rw [if_neg a, if_pos (by simp; omega), if_pos (by omega)]
            simp [l, l2, t', f, d]
      · by_cases d : bt s 0 < 240
        · have c2 : bt s 0 ≥ 194 := by omega
          have c3 : bt s 0 ≥ 224 := by omega
          simp only [a, b, c, d, c2, c3, decide_false, decide_true, Bool.true_and, Bool.and_false, cond_false, cond_true, tellR, ct2, badB_tail]
          have hg : good1 s = if decide (3 ≤ s.length) && tailB (bt s 1) && (decide (bt s 0 ≠ 224) || decide (160 ≤ bt s 1)) && (decide (bt s 0 ≠ 237) || decide (bt s 1 ≤ 159)) && tailB (bt s 2) then some 3 else none := by
            unfold good1; rw [if_neg a, if_neg b, if_neg c, if_pos d]
          by_cases l : s.length < 3
          · have l2 : ¬ 3 ≤ s.length := by omega
            simp [hg, l, l2]
          · have l2 : 3 ≤ s.length := by omega
            cases t : tailB (bt s 1) with
            | false => simp [hg, l, l2, t]
            | true =>
              cases u : tailB (bt s 2) with
              | false => simp [hg, l, l2, t, u]
              | true =>
                have t' := t
                have u' := u
                unfold tailB at t u
                simp only [Bool.and_eq_true, decide_eq_true_eq] at t u
                have f : farB ((bt s 0 % 16 * 64 + bt s 1 % 64) * 64 + bt s 2 % 64) 2048 = !((decide (bt s 0 ≠ 224) || decide (160 ≤ bt s 1)) && (decide (bt s 0 ≠ 237) || decide (bt s 1 ≤ 159))) := by
                  unfold farB
                  apply Bool.eq_iff_iff.2
                  simp only [Bool.or_eq_true, Bool.and_eq_true, decide_eq_true_eq, Bool.not_eq_true', Bool.and_eq_false_iff, Bool.or_eq_false_iff, decide_eq_false_iff_not]
                  omega
                cases g : ((decide (bt s 0 ≠ 224) || decide (160 ≤ bt s 1)) && (decide (bt s 0 ≠ 237) || decide (bt s 1 ≤ 159))) with
                | false =>
                  rw [g] at f
                  have : (decide (3 ≤ s.length) && true && (decide (bt s 0 ≠ 224) || decide (160 ≤ bt s 1)) && (decide (bt s 0 ≠ 237) || decide (bt s 1 ≤ 159)) && true) = false := by
                    rw [Bool.and_true, Bool.and_true, Bool.and_assoc, g, Bool.and_false]
                  have hg2 : good1 s = none := by rw [hg, t', u', this]; rfl
                  simp only [l, t', u', f, hg2, decide_false, Bool.not_true, cond_false, cond_true, Bool.not_false]
                | true =>
                  rw [g] at f
                  have : (decide (3 ≤ s.length) && true && (decide (bt s 0 ≠ 224) || decide (160 ≤ bt s 1)) && (decide (bt s 0 ≠ 237) || decide (bt s 1 ≤ 159)) && true) = true := by
                    rw [Bool.and_true, Bool.and_true, Bool.and_assoc, g]; simpa using l2
                  simp only [Bool.and_eq_true, Bool.or_eq_true, decide_eq_true_eq] at g
                  have e : dec1 s = ((bt s 0 % 16 * 64 + bt s 1 % 64) * 64 + bt s 2 % 64, 3) := by
                    unfold dec1 contL; rw [if_neg a, if_neg (by simp; omega), if_pos (by simp; omega), if_pos (by simp only [Bool.and_eq_true, decide_eq_true_eq, Utf8.valid, Bool.or_eq_true]; omega)]
                    exact Prod.ext (by simp only; omega) rfl
                  have hg2 : good1 s = some 3 := by rw [hg, t', u', this]; rfl
                  simp only [l, t', u', f, hg2, e, decide_false, Bool.not_true, cond_false, cond_true, Bool.not_false]
        · by_cases e : bt s 0 < 245
          · have c2 : bt s 0 ≥ 194 := by omega
            have c3 : bt s 0 ≥ 224 := by omega
            have c4 : bt s 0 ≥ 240 := by omega
            simp only [a, b, c, d, e, c2, c3, c4, decide_false, decide_true, Bool.true_and, Bool.and_false, cond_false, cond_true, tellR, ct3, badB_tail]
            have hg : good1 s = if decide (4 ≤ s.length) && tailB (bt s 1) && (decide (bt s 0 ≠ 240) || decide (144 ≤ bt s 1)) && (decide (bt s 0 ≠ 244) || decide (bt s 1 ≤ 143)) && tailB (bt s 2) && tailB (bt s 3) then some 4 else none := by
              unfold good1; rw [if_neg a, if_neg b, if_neg c, if_neg d, if_pos e]
            by_cases l : s.length < 4
            · have l2 : ¬ 4 ≤ s.length := by omega
              simp [hg, l, l2]
            · have l2 : 4 ≤ s.length := by omega
              cases t : tailB (bt s 1) with
              | false => simp [hg, l, l2, t]
              | true =>
                cases u : tailB (bt s 2) with
                | false => simp [hg, l, l2, t, u]
                | true =>
                  cases v : tailB (bt s 3) with
                  | false => simp [hg, l, l2, t, u, v]
                  | true =>
                    have t' := t
                    have u' := u
                    have v' := v
                    unfold tailB at t u v
                    simp only [Bool.and_eq_true, decide_eq_true_eq] at t u v
                    have f : farB (((bt s 0 % 8 * 64 + bt s 1 % 64) * 64 + bt s 2 % 64) * 64 + bt s 3 % 64) 65536 = !((decide (bt s 0 ≠ 240) || decide (144 ≤ bt s 1)) && (decide (bt s 0 ≠ 244) || decide (bt s 1 ≤ 143))) := by
                      unfold farB
                      apply Bool.eq_iff_iff.2
                      simp only [Bool.or_eq_true, Bool.and_eq_true, decide_eq_true_eq, Bool.not_eq_true', Bool.and_eq_false_iff, Bool.or_eq_false_iff, decide_eq_false_iff_not]
                      omega
                    cases g : ((decide (bt s 0 ≠ 240) || decide (144 ≤ bt s 1)) && (decide (bt s 0 ≠ 244) || decide (bt s 1 ≤ 143))) with
                    | false =>
                      rw [g] at f
                      have : (decide (4 ≤ s.length) && true && (decide (bt s 0 ≠ 240) || decide (144 ≤ bt s 1)) && (decide (bt s 0 ≠ 244) || decide (bt s 1 ≤ 143)) && true && true) = false := by
                        rw [Bool.and_true, Bool.and_true, Bool.and_true, Bool.and_assoc, g, Bool.and_false]
                      have hg2 : good1 s = none := by rw [hg, t', u', v', this]; rfl
                      simp only [l, t', u', v', f, hg2, decide_false, Bool.not_true, cond_false, cond_true, Bool.not_false]
                    | true =>
                      rw [g] at f
                      have : (decide (4 ≤ s.length) && true && (decide (bt s 0 ≠ 240) || decide (144 ≤ bt s 1)) && (decide (bt s 0 ≠ 244) || decide (bt s 1 ≤ 143)) && true && true) = true := by
                        rw [Bool.and_true, Bool.and_true, Bool.and_true, Bool.and_assoc, g]; simpa using l2
                      simp only [Bool.and_eq_true, Bool.or_eq_true, decide_eq_true_eq] at g
                      have e : dec1 s = (((bt s 0 % 8 * 64 + bt s 1 % 64) * 64 + bt s 2 % 64) * 64 + bt s 3 % 64, 4) := by
                        unfold dec1 contL; rw [if_neg a, if_neg (by simp; omega), if_neg (by simp; omega), if_pos (by simp; omega), if_pos (by simp only [Bool.and_eq_true, decide_eq_true_eq, Utf8.valid, Bool.or_eq_true]; omega)]
                        exact Prod.ext (by simp only; omega) rfl
                      have hg2 : good1 s = some 4 := by rw [hg, t', u', v', this]; rfl
                      simp only [l, t', u', v', f, hg2, e, decide_false, Bool.not_true, cond_false, cond_true, Bool.not_false]
          · have c2 : bt s 0 ≥ 194 := by omega
            have c3 : bt s 0 ≥ 224 := by omega
            have c4 : bt s 0 ≥ 240 := by omega
            simp only [a, b, c, d, e, c2, c3, c4, decide_false, decide_true, Bool.true_and, Bool.and_false, cond_false, good1, if_false]
theorem r1_w (s : List UInt8) : (r1 s).2.1 = (dec1 s).2 := by
  unfold r1
  cases h : good1 s with
  | none => rw [bad_dec h]
  | some w => exact (good_dec h).symm
def markR (c : Int) : Bool := c == 45 || (c == 95 || c == 46)
def smallR (c : Int) : Bool := decide (c ≥ 97) && decide (c ≤ 122) || decide (c ≥ 48) && decide (c ≤ 57)
def bigR (c : Int) : Bool := decide (c ≥ 161) && (decide (c ≤ 65535) && (c != 173 && c != 65279))
/-- Does the document bar this rune here? -/
def barR (x : Nat × Nat × Bool) (first : Bool) : Bool := !x.2.2 || (!smallR (x.1 : Int) && (!bigR (x.1 : Int) && (!markR (x.1 : Int) || first)))
def failR : Nat → List UInt8 → Bool → Option (Nat × Nat)
  | 0, _, _ => none
  | m + 1, l, first => bif l.isEmpty then none else bif barR (r1 l) first then some (0, 0) else (failR m (l.drop (dec1 l).2) false).map fun p => (p.1 + 1, (dec1 l).2 + p.2)
def validR (s : List UInt8) : Bool := !(failR s.length s true).isSome && (decide ((cnt s : Int) > 0) && decide ((cnt s : Int) ≤ 40))
theorem bar_bad (c : Nat) (w : Nat) (first : Bool) : barR (c, w, true) first = badR (c : Int) first := by
  unfold barR badR mayR smallR bigR markR
  rw [letters_has, signs_has]
  apply Bool.eq_iff_iff.2
  cases first
  · simp only [Bool.not_true, Bool.false_or, Bool.not_eq_true', Bool.or_eq_false_iff, Bool.and_eq_false_iff, Bool.or_eq_true, Bool.and_eq_true, decide_eq_true_eq, beq_iff_eq, bne_iff_ne, beq_eq_false_iff_ne, decide_eq_false_iff_not, bne_eq_false_iff_eq, Bool.false_and, Bool.or_false, ne_eq, Bool.not_eq_false', Bool.false_eq_true, or_false]
    omega
  · simp only [Bool.not_true, Bool.false_or, Bool.not_eq_true', Bool.or_eq_false_iff, Bool.and_eq_false_iff, Bool.or_eq_true, Bool.and_eq_true, decide_eq_true_eq, beq_iff_eq, bne_iff_ne, beq_eq_false_iff_ne, decide_eq_false_iff_not, bne_eq_false_iff_eq, Bool.true_and, Bool.or_true, and_true, ne_eq, or_true, Bool.not_eq_false']
    omega
theorem fail_both : ∀ (m : Nat) (l : List UInt8) (first : Bool), l.length ≤ m → (failR m l first).isSome = ((failF m l first).isSome || !okF m l)
  | 0, l, first, h => by
    have : l = [] := List.length_eq_zero_iff.1 (by omega)
    subst this
    rfl
  | m + 1, l, first, h => by
    by_cases hl : l = []
    · subst hl; rfl
    · have he : l.isEmpty = false := by cases l with | nil => exact absurd rfl hl | cons a b => rfl
      have hp := dec1_pos l
      have ih := fail_both m (l.drop (dec1 l).2) false (by have := dec1_le l hl; simp; omega)
      rw [failR, failF, okF, he]
      simp only [cond_false]
      cases hg : good1 l with
      | none =>
        have : barR (r1 l) first = true := by unfold r1; rw [hg]; rfl
        rw [this]
        simp
      | some w =>
        have e : r1 l = ((dec1 l).1, w, true) := by unfold r1; rw [hg]
        rw [e, bar_bad, ← good_dec hg]
        cases badR (((dec1 l).1 : Nat) : Int) first with
        | true => simp
        | false => simpa using ih
theorem valid_both (s : List UInt8) : validR s = validL s := by
  unfold validR validL
  rw [fail_both _ _ _ (Nat.le_refl _)]
  have : okF s.length s = okL s := rfl
  rw [this]
  cases (failF s.length s true).isSome <;> cases okL s <;> simp
end Go.Sim
namespace Go.Sim
set_option linter.unusedSimpArgs false
set_option linter.unusedVariables false
set_option maxRecDepth 10000
theorem rune1_rd {R : Type} (s : List UInt8) (x2 x3 n le c i : Int) (x4 : Bool) (K : Ex → St → Option R) : roundK (env []) H.cooperageref1_rune1 0 (LPof []) V.cooperageref1_rune1_23 L.cooperageref1_rune1_23 ⟨[(0, .str s), (2, .int .i64 x2), (3, .int .i64 x3), (4, .bool x4), (6, .int .i64 n), (7, .int .i64 le), (8, .int .i64 c), (9, .int .i64 i)], [], 0⟩ K = bif decide (i < n) then bif decide ((0 : Int) ≤ i) && decide (i < (↑s.length : Int)) then Option.bind (bif decide (IntKind.i64.wrap (↑(s.getD i.toNat (0 : UInt8)).toNat : Int) < (128 : Int)) then some true else some (decide (IntKind.i64.wrap (↑(s.getD i.toNat (0 : UInt8)).toNat : Int) > (191 : Int)))) fun v => bif v then K Ex.ret { slots := [(0, AV.str s), (2, AV.int IntKind.i64 (0 : Int)), (3, AV.int IntKind.i64 (1 : Int)), (4, AV.bool false), (6, AV.int IntKind.i64 n), (7, AV.int IntKind.i64 le), (8, AV.int IntKind.i64 c), (9, AV.int IntKind.i64 i)], objs := [], nx := 0 } else K Ex.normal { slots := [(0, AV.str s), (2, AV.int IntKind.i64 x2), (3, AV.int IntKind.i64 x3), (4, AV.bool x4), (6, AV.int IntKind.i64 n), (7, AV.int IntKind.i64 le), (8, AV.int IntKind.i64 (IntKind.i64.wrap (IntKind.i64.wrap (c * (64 : Int)) + IntKind.i64.wrap (↑(BitVec.ofInt 64 (IntKind.i64.wrap (↑(s.getD i.toNat (0 : UInt8)).toNat : Int)) &&& BitVec.ofInt 64 (63 : Int)).toNat : Int)))), (9, AV.int IntKind.i64 (IntKind.i64.wrap (i + (1 : Int))))], objs := [], nx := 0 } else none else K (Ex.exit 1) { slots := [(0, AV.str s), (2, AV.int IntKind.i64 x2), (3, AV.int IntKind.i64 x3), (4, AV.bool x4), (6, AV.int IntKind.i64 n), (7, AV.int IntKind.i64 le), (8, AV.int IntKind.i64 c), (9, AV.int IntKind.i64 i)], objs := [], nx := 0 } := by kernel_rfl

theorem getD_bt (s : List UInt8) (k : Nat) : (s.getD k 0).toNat = bt s k := rfl
theorem wrap_bt (s : List UInt8) (k : Nat) : IntKind.i64.wrap ((bt s k : Nat) : Int) = ((bt s k : Nat) : Int) := by
  have := bt_lt s k
  exact wrap64 (by omega) (by omega)
theorem bad_bif (x : Nat) : (bif decide (((x : Nat) : Int) < (128 : Int)) then some true else some (decide (((x : Nat) : Int) > (191 : Int)))) = some (badB x) := by
  unfold badB
  rw [show decide (((x : Nat) : Int) < (128 : Int)) = decide (x < 128) from decide_eq_decide.2 (by omega), show decide (((x : Nat) : Int) > (191 : Int)) = decide (x > 191) from decide_eq_decide.2 (by omega)]
  cases decide (x < 128) <;> rfl
def runeSt (s : List UInt8) (x2 x3 : Int) (x4 : Bool) (n le : Int) (c i : Nat) : St := ⟨[(0, .str s), (2, .int .i64 x2), (3, .int .i64 x3), (4, .bool x4), (6, .int .i64 n), (7, .int .i64 le), (8, .int .i64 c), (9, .int .i64 i)], [], 0⟩
theorem rune1_loop (s : List UInt8) (le : Int) (N : Nat) (hN : N ≤ s.length) {R : Type} (K : Ex → St → Option R) : ∀ (k i c B : Nat), i + k = N → N ≤ 4 → c < B → B * 64 ^ k ≤ 2 ^ 50 →
    rounds (env []) H.cooperageref1_rune1 0 (LPof []) V.cooperageref1_rune1_23 L.cooperageref1_rune1_23 (k + 1) (runeSt s 0 0 false N le c i) K =
      bif (ctF s k i c).1 then K (.exit 1) (runeSt s 0 0 false N le (ctF s k i c).2.1 (ctF s k i c).2.2) else K .ret (runeSt s 0 1 false N le (ctF s k i c).2.1 (ctF s k i c).2.2)
  | 0, i, c, B, h, _, _, _ => by
    have : i = N := by omega
    subst this
    rw [rounds_succ']
    unfold runeSt
    rw [rune1_rd, cond_neg (by omega)]
    rfl
  | k + 1, i, c, B, h, h4, hc, hB => by
    have h1 := bt_lt s i
    have hB1 : B ≤ 2 ^ 50 := Nat.le_trans (Nat.le_mul_of_pos_right _ (Nat.pow_pos (by decide))) hB
    have ih := rune1_loop s le N hN K k (i + 1) (c * 64 + bt s i % 64) (64 * B) (by omega) h4 (by omega) (by rw [Nat.pow_succ] at hB; rw [Nat.mul_comm 64 B, Nat.mul_assoc, Nat.mul_comm 64]; exact hB)
    rw [rounds_succ']
    unfold runeSt at ih ⊢
    rw [rune1_rd, cond_pos (by omega), cond_pos2 (by omega) (by omega), Int.toNat_natCast, getD_bt, wrap_bt, bad_bif, and_mask _ 63 63 rfl h1 (by simp), wrap64 (n := ((bt s i % (63 + 1) : Nat) : Int)) (by omega) (by omega),
      wrap64 (n := (c : Int) * 64) (by omega) (by omega), wrap64 (n := (c : Int) * 64 + ((bt s i % (63 + 1) : Nat) : Int)) (by omega) (by omega), wrap64 (n := (i : Int) + 1) (by omega) (by omega)]
    simp only [Option.bind_some, ctF]
    cases badB (bt s i) with
    | true => rfl
    | false =>
      simp only [cond_false]
      rw [← ih]
      congr 2
def runePat : SPat := ⟨[(0, .str), (2, .int .i64), (3, .int .i64), (4, .bool), (6, .int .i64), (7, .int .i64), (8, .int .i64), (9, .int .i64)], []⟩
def runeCt (s : List UInt8) (n c : Int) : Bool × Nat × Nat := ctF s (n.toNat - 1) 1 c.toNat
def runeLC : LoopC := LoopC.of runePat (fun ⟨⟨s, x2, x3, x4, n, le, c, i, _⟩, _⟩ => decide (x2 = (0 : Int)) && decide (x3 = (0 : Int)) && !x4 && decide (i = (1 : Int)) && decide ((0 : Int) ≤ c) && decide (c < (256 : Int)) && decide ((2 : Int) ≤ n) && decide (n ≤ (4 : Int)) && decide (n ≤ (List.length s : Int)))
  fun ⟨⟨s, x2, x3, x4, n, le, c, i, _⟩, _⟩ => [((runeCt s n c).1, .exit 1, runeSt s 0 0 false n le (runeCt s n c).2.1 (runeCt s n c).2.2), (true, .ret, runeSt s 0 1 false n le (runeCt s n c).2.1 (runeCt s n c).2.2)]
theorem rune1_all (s : List UInt8) (le n c : Int) (h1 : 0 ≤ c) (h2 : c < 256) (h3 : 2 ≤ n) (h4 : n ≤ 4) (h5 : n ≤ (s.length : Int)) : ∃ k, rounds (env []) H.cooperageref1_rune1 0 (LPof []) V.cooperageref1_rune1_23 L.cooperageref1_rune1_23 k
      ⟨[(0, .str s), (2, .int .i64 0), (3, .int .i64 0), (4, .bool false), (6, .int .i64 n), (7, .int .i64 le), (8, .int .i64 c), (9, .int .i64 1)], [], 0⟩ (fun e s => some (e, s)) =
    pick [((runeCt s n c).1, .exit 1, runeSt s 0 0 false n le (runeCt s n c).2.1 (runeCt s n c).2.2), (true, .ret, runeSt s 0 1 false n le (runeCt s n c).2.1 (runeCt s n c).2.2)] := by
  obtain ⟨N, rfl⟩ := Int.eq_ofNat_of_zero_le (show 0 ≤ n by omega)
  obtain ⟨C, rfl⟩ := Int.eq_ofNat_of_zero_le h1
  have hp : 256 * 64 ^ (N - 1) ≤ 2 ^ 50 := by
    rcases (show N = 2 ∨ N = 3 ∨ N = 4 by omega) with rfl | rfl | rfl <;> decide
  have := rune1_loop s le N (by omega) (fun e s => some (e, s)) (N - 1) 1 C 256 (by omega) (by omega) (by omega) hp
  refine ⟨_, this.trans ?_⟩
  unfold runeCt
  simp only [Int.toNat_natCast, pick]
  cases (ctF s (N - 1) 1 C).1 <;> rfl
theorem rune1_lok : LoopOK P0 H.cooperageref1_rune1 0 L.cooperageref1_rune1_23 runeLC := loop_ok_of (env_ok env_nil) glob0 mixed0 noLoops V.cooperageref1_rune1_23 (by decide) fun ⟨⟨s, x2, x3, x4, n, le, c, i, _⟩, _⟩ h hw => by
  simp only [Bool.and_eq_true, decide_eq_true_eq, Bool.not_eq_true'] at h
  obtain ⟨⟨⟨⟨⟨⟨⟨⟨h1, h2⟩, h3⟩, h4⟩, h5⟩, h6⟩, h7⟩, h8⟩, h9⟩ := h
  subst h1; subst h2; subst h3; subst h4
  exact rune1_all s le n c h5 h6 h7 h8 h9
theorem rune1_ev (s : List UInt8) : evFn (env []) H.cooperageref1_rune1 (LPof [(23, runeLC)]) F.cooperageref1_rune1 [.str s] [] (finK 0) = bif decide ((0 : Int) < (↑s.length : Int)) then bif decide (IntKind.i64.wrap (↑(s.getD 0 (0 : UInt8)).toNat : Int) < (128 : Int)) then some (AV.tup [AV.int IntKind.i64 (IntKind.i64.wrap (↑(s.getD 0 (0 : UInt8)).toNat : Int)), AV.int IntKind.i64 (1 : Int), AV.bool true], []) else Option.bind (bif decide (IntKind.i64.wrap (↑(s.getD 0 (0 : UInt8)).toNat : Int) ≥ (194 : Int)) then some (decide (IntKind.i64.wrap (↑(s.getD 0 (0 : UInt8)).toNat : Int) < (224 : Int))) else some false) fun v => bif v then bif decide ((↑s.length : Int) < (2 : Int)) then some (AV.tup [AV.int IntKind.i64 (0 : Int), AV.int IntKind.i64 (1 : Int), AV.bool false], []) else bif decide ((0 : Int) ≤ IntKind.i64.wrap (↑(BitVec.ofInt 64 (IntKind.i64.wrap (↑(s.getD 0 (0 : UInt8)).toNat : Int)) &&& BitVec.ofInt 64 (31 : Int)).toNat : Int)) && decide (IntKind.i64.wrap (↑(BitVec.ofInt 64 (IntKind.i64.wrap (↑(s.getD 0 (0 : UInt8)).toNat : Int)) &&& BitVec.ofInt 64 (31 : Int)).toNat : Int) < (256 : Int)) && true && true && decide ((2 : Int) ≤ (↑s.length : Int)) && (runeCt s (2 : Int) (IntKind.i64.wrap (↑(BitVec.ofInt 64 (IntKind.i64.wrap (↑(s.getD 0 (0 : UInt8)).toNat : Int)) &&& BitVec.ofInt 64 (31 : Int)).toNat : Int))).fst then Option.bind (bif decide ((↑(runeCt s (2 : Int) (IntKind.i64.wrap (↑(BitVec.ofInt 64 (IntKind.i64.wrap (↑(s.getD 0 (0 : UInt8)).toNat : Int)) &&& BitVec.ofInt 64 (31 : Int)).toNat : Int))).snd.fst : Int) < (128 : Int)) then some true else bif decide ((↑(runeCt s (2 : Int) (IntKind.i64.wrap (↑(BitVec.ofInt 64 (IntKind.i64.wrap (↑(s.getD 0 (0 : UInt8)).toNat : Int)) &&& BitVec.ofInt 64 (31 : Int)).toNat : Int))).snd.fst : Int) > (1114111 : Int)) then some true else bif decide ((↑(runeCt s (2 : Int) (IntKind.i64.wrap (↑(BitVec.ofInt 64 (IntKind.i64.wrap (↑(s.getD 0 (0 : UInt8)).toNat : Int)) &&& BitVec.ofInt 64 (31 : Int)).toNat : Int))).snd.fst : Int) ≥ (55296 : Int)) then some (decide ((↑(runeCt s (2 : Int) (IntKind.i64.wrap (↑(BitVec.ofInt 64 (IntKind.i64.wrap (↑(s.getD 0 (0 : UInt8)).toNat : Int)) &&& BitVec.ofInt 64 (31 : Int)).toNat : Int))).snd.fst : Int) ≤ (57343 : Int))) else some false) fun v => bif v then some (AV.tup [AV.int IntKind.i64 (0 : Int), AV.int IntKind.i64 (1 : Int), AV.bool false], []) else some (AV.tup [AV.int IntKind.i64 (↑(runeCt s (2 : Int) (IntKind.i64.wrap (↑(BitVec.ofInt 64 (IntKind.i64.wrap (↑(s.getD 0 (0 : UInt8)).toNat : Int)) &&& BitVec.ofInt 64 (31 : Int)).toNat : Int))).snd.fst : Int), AV.int IntKind.i64 (2 : Int), AV.bool true], []) else bif decide ((0 : Int) ≤ IntKind.i64.wrap (↑(BitVec.ofInt 64 (IntKind.i64.wrap (↑(s.getD 0 (0 : UInt8)).toNat : Int)) &&& BitVec.ofInt 64 (31 : Int)).toNat : Int)) && decide (IntKind.i64.wrap (↑(BitVec.ofInt 64 (IntKind.i64.wrap (↑(s.getD 0 (0 : UInt8)).toNat : Int)) &&& BitVec.ofInt 64 (31 : Int)).toNat : Int) < (256 : Int)) && true && true && decide ((2 : Int) ≤ (↑s.length : Int)) && true then some (AV.tup [AV.int IntKind.i64 (0 : Int), AV.int IntKind.i64 (1 : Int), AV.bool false], []) else none else Option.bind (bif decide (IntKind.i64.wrap (↑(s.getD 0 (0 : UInt8)).toNat : Int) ≥ (224 : Int)) then some (decide (IntKind.i64.wrap (↑(s.getD 0 (0 : UInt8)).toNat : Int) < (240 : Int))) else some false) fun v => bif v then bif decide ((↑s.length : Int) < (3 : Int)) then some (AV.tup [AV.int IntKind.i64 (0 : Int), AV.int IntKind.i64 (1 : Int), AV.bool false], []) else bif decide ((0 : Int) ≤ IntKind.i64.wrap (↑(BitVec.ofInt 64 (IntKind.i64.wrap (↑(s.getD 0 (0 : UInt8)).toNat : Int)) &&& BitVec.ofInt 64 (15 : Int)).toNat : Int)) && decide (IntKind.i64.wrap (↑(BitVec.ofInt 64 (IntKind.i64.wrap (↑(s.getD 0 (0 : UInt8)).toNat : Int)) &&& BitVec.ofInt 64 (15 : Int)).toNat : Int) < (256 : Int)) && true && true && decide ((3 : Int) ≤ (↑s.length : Int)) && (runeCt s (3 : Int) (IntKind.i64.wrap (↑(BitVec.ofInt 64 (IntKind.i64.wrap (↑(s.getD 0 (0 : UInt8)).toNat : Int)) &&& BitVec.ofInt 64 (15 : Int)).toNat : Int))).fst then Option.bind (bif decide ((↑(runeCt s (3 : Int) (IntKind.i64.wrap (↑(BitVec.ofInt 64 (IntKind.i64.wrap (↑(s.getD 0 (0 : UInt8)).toNat : Int)) &&& BitVec.ofInt 64 (15 : Int)).toNat : Int))).snd.fst : Int) < (2048 : Int)) then some true else bif decide ((↑(runeCt s (3 : Int) (IntKind.i64.wrap (↑(BitVec.ofInt 64 (IntKind.i64.wrap (↑(s.getD 0 (0 : UInt8)).toNat : Int)) &&& BitVec.ofInt 64 (15 : Int)).toNat : Int))).snd.fst : Int) > (1114111 : Int)) then some true else bif decide ((↑(runeCt s (3 : Int) (IntKind.i64.wrap (↑(BitVec.ofInt 64 (IntKind.i64.wrap (↑(s.getD 0 (0 : UInt8)).toNat : Int)) &&& BitVec.ofInt 64 (15 : Int)).toNat : Int))).snd.fst : Int) ≥ (55296 : Int)) then some (decide ((↑(runeCt s (3 : Int) (IntKind.i64.wrap (↑(BitVec.ofInt 64 (IntKind.i64.wrap (↑(s.getD 0 (0 : UInt8)).toNat : Int)) &&& BitVec.ofInt 64 (15 : Int)).toNat : Int))).snd.fst : Int) ≤ (57343 : Int))) else some false) fun v => bif v then some (AV.tup [AV.int IntKind.i64 (0 : Int), AV.int IntKind.i64 (1 : Int), AV.bool false], []) else some (AV.tup [AV.int IntKind.i64 (↑(runeCt s (3 : Int) (IntKind.i64.wrap (↑(BitVec.ofInt 64 (IntKind.i64.wrap (↑(s.getD 0 (0 : UInt8)).toNat : Int)) &&& BitVec.ofInt 64 (15 : Int)).toNat : Int))).snd.fst : Int), AV.int IntKind.i64 (3 : Int), AV.bool true], []) else bif decide ((0 : Int) ≤ IntKind.i64.wrap (↑(BitVec.ofInt 64 (IntKind.i64.wrap (↑(s.getD 0 (0 : UInt8)).toNat : Int)) &&& BitVec.ofInt 64 (15 : Int)).toNat : Int)) && decide (IntKind.i64.wrap (↑(BitVec.ofInt 64 (IntKind.i64.wrap (↑(s.getD 0 (0 : UInt8)).toNat : Int)) &&& BitVec.ofInt 64 (15 : Int)).toNat : Int) < (256 : Int)) && true && true && decide ((3 : Int) ≤ (↑s.length : Int)) && true then some (AV.tup [AV.int IntKind.i64 (0 : Int), AV.int IntKind.i64 (1 : Int), AV.bool false], []) else none else Option.bind (bif decide (IntKind.i64.wrap (↑(s.getD 0 (0 : UInt8)).toNat : Int) ≥ (240 : Int)) then some (decide (IntKind.i64.wrap (↑(s.getD 0 (0 : UInt8)).toNat : Int) < (245 : Int))) else some false) fun v => bif v then bif decide ((↑s.length : Int) < (4 : Int)) then some (AV.tup [AV.int IntKind.i64 (0 : Int), AV.int IntKind.i64 (1 : Int), AV.bool false], []) else bif decide ((0 : Int) ≤ IntKind.i64.wrap (↑(BitVec.ofInt 64 (IntKind.i64.wrap (↑(s.getD 0 (0 : UInt8)).toNat : Int)) &&& BitVec.ofInt 64 (7 : Int)).toNat : Int)) && decide (IntKind.i64.wrap (↑(BitVec.ofInt 64 (IntKind.i64.wrap (↑(s.getD 0 (0 : UInt8)).toNat : Int)) &&& BitVec.ofInt 64 (7 : Int)).toNat : Int) < (256 : Int)) && true && true && decide ((4 : Int) ≤ (↑s.length : Int)) && (runeCt s (4 : Int) (IntKind.i64.wrap (↑(BitVec.ofInt 64 (IntKind.i64.wrap (↑(s.getD 0 (0 : UInt8)).toNat : Int)) &&& BitVec.ofInt 64 (7 : Int)).toNat : Int))).fst then Option.bind (bif decide ((↑(runeCt s (4 : Int) (IntKind.i64.wrap (↑(BitVec.ofInt 64 (IntKind.i64.wrap (↑(s.getD 0 (0 : UInt8)).toNat : Int)) &&& BitVec.ofInt 64 (7 : Int)).toNat : Int))).snd.fst : Int) < (65536 : Int)) then some true else bif decide ((↑(runeCt s (4 : Int) (IntKind.i64.wrap (↑(BitVec.ofInt 64 (IntKind.i64.wrap (↑(s.getD 0 (0 : UInt8)).toNat : Int)) &&& BitVec.ofInt 64 (7 : Int)).toNat : Int))).snd.fst : Int) > (1114111 : Int)) then some true else bif decide ((↑(runeCt s (4 : Int) (IntKind.i64.wrap (↑(BitVec.ofInt 64 (IntKind.i64.wrap (↑(s.getD 0 (0 : UInt8)).toNat : Int)) &&& BitVec.ofInt 64 (7 : Int)).toNat : Int))).snd.fst : Int) ≥ (55296 : Int)) then some (decide ((↑(runeCt s (4 : Int) (IntKind.i64.wrap (↑(BitVec.ofInt 64 (IntKind.i64.wrap (↑(s.getD 0 (0 : UInt8)).toNat : Int)) &&& BitVec.ofInt 64 (7 : Int)).toNat : Int))).snd.fst : Int) ≤ (57343 : Int))) else some false) fun v => bif v then some (AV.tup [AV.int IntKind.i64 (0 : Int), AV.int IntKind.i64 (1 : Int), AV.bool false], []) else some (AV.tup [AV.int IntKind.i64 (↑(runeCt s (4 : Int) (IntKind.i64.wrap (↑(BitVec.ofInt 64 (IntKind.i64.wrap (↑(s.getD 0 (0 : UInt8)).toNat : Int)) &&& BitVec.ofInt 64 (7 : Int)).toNat : Int))).snd.fst : Int), AV.int IntKind.i64 (4 : Int), AV.bool true], []) else bif decide ((0 : Int) ≤ IntKind.i64.wrap (↑(BitVec.ofInt 64 (IntKind.i64.wrap (↑(s.getD 0 (0 : UInt8)).toNat : Int)) &&& BitVec.ofInt 64 (7 : Int)).toNat : Int)) && decide (IntKind.i64.wrap (↑(BitVec.ofInt 64 (IntKind.i64.wrap (↑(s.getD 0 (0 : UInt8)).toNat : Int)) &&& BitVec.ofInt 64 (7 : Int)).toNat : Int) < (256 : Int)) && true && true && decide ((4 : Int) ≤ (↑s.length : Int)) && true then some (AV.tup [AV.int IntKind.i64 (0 : Int), AV.int IntKind.i64 (1 : Int), AV.bool false], []) else none else some (AV.tup [AV.int IntKind.i64 (0 : Int), AV.int IntKind.i64 (1 : Int), AV.bool false], []) else none := by kernel_rfl

theorem and_bifT {a b : Bool} : (bif a then some b else some false) = some (a && b) := by cases a <;> rfl
theorem or_bifT {a b : Bool} : (bif a then some true else some b) = some (a || b) := by cases a <;> rfl
theorem nand_bifT {a b : Bool} : (bif a then some false else some b) = some (!a && b) := by cases a <;> rfl
theorem nor_bifT {a b : Bool} : (bif a then some b else some true) = some (!a || b) := by cases a <;> rfl
def r3 (x : Nat × Nat × Bool) : AV := .tup [.int .i64 (x.1 : Int), .int .i64 (x.2.1 : Int), .bool x.2.2]
theorem tell_bif (s : List UInt8) (N k : Nat) (n leI : Int) (least c0 : Nat) (hn : n = (N : Int)) (hk : N - 1 = k) (hl : leI = (least : Int)) (hc : c0 < 256) :
    (bif decide ((s.length : Int) < n) then some (AV.tup [AV.int IntKind.i64 (0 : Int), AV.int IntKind.i64 (1 : Int), AV.bool false], ([] : List AObj))
     else bif decide ((0 : Int) ≤ (c0 : Int)) && decide ((c0 : Int) < (256 : Int)) && true && true && decide (n ≤ (s.length : Int)) && (runeCt s n (c0 : Int)).fst then
       Option.bind (bif decide (((runeCt s n (c0 : Int)).snd.fst : Int) < leI) then some true else bif decide (((runeCt s n (c0 : Int)).snd.fst : Int) > (1114111 : Int)) then some true
         else some (decide (((runeCt s n (c0 : Int)).snd.fst : Int) ≥ (55296 : Int)) && decide (((runeCt s n (c0 : Int)).snd.fst : Int) ≤ (57343 : Int))))
         fun v => bif v then some (AV.tup [AV.int IntKind.i64 (0 : Int), AV.int IntKind.i64 (1 : Int), AV.bool false], []) else some (AV.tup [AV.int IntKind.i64 ((runeCt s n (c0 : Int)).snd.fst : Int), AV.int IntKind.i64 n, AV.bool true], [])
     else bif decide ((0 : Int) ≤ (c0 : Int)) && decide ((c0 : Int) < (256 : Int)) && true && true && decide (n ≤ (s.length : Int)) && true then some (AV.tup [AV.int IntKind.i64 (0 : Int), AV.int IntKind.i64 (1 : Int), AV.bool false], []) else none)
    = some (r3 (tellR s N k least c0), []) := by
  subst hn; subst hl
  unfold runeCt tellR
  rw [Int.toNat_natCast, Int.toNat_natCast, hk]
  by_cases l : s.length < N
  · rw [cond_pos (by omega), cond_pos l]; rfl
  · have e1 : (decide ((0 : Int) ≤ (c0 : Int)) && decide ((c0 : Int) < (256 : Int)) && true && true && decide ((N : Int) ≤ (s.length : Int))) = true := by simp; omega
    rw [cond_neg (by omega), cond_neg l, e1]
    cases hb : (ctF s k 1 c0).1 with
    | false => rfl
    | true =>
      simp only [Bool.and_self, cond_true]
      have e2 : (bif decide (((ctF s k 1 c0).2.1 : Int) < (least : Int)) then some true else bif decide (((ctF s k 1 c0).2.1 : Int) > (1114111 : Int)) then some true
         else some (decide (((ctF s k 1 c0).2.1 : Int) ≥ (55296 : Int)) && decide (((ctF s k 1 c0).2.1 : Int) ≤ (57343 : Int)))) = some (farB (ctF s k 1 c0).2.1 least) := by
        generalize (ctF s k 1 c0).2.1 = c
        unfold farB
        rw [show decide ((c : Int) < (least : Int)) = decide (c < least) from decide_eq_decide.2 (by omega), show decide ((c : Int) > (1114111 : Int)) = decide (c > 1114111) from decide_eq_decide.2 (by omega),
          show decide ((c : Int) ≥ (55296 : Int)) = decide (c ≥ 55296) from decide_eq_decide.2 (by omega), show decide ((c : Int) ≤ (57343 : Int)) = decide (c ≤ 57343) from decide_eq_decide.2 (by omega)]
        cases decide (c < least) <;> cases decide (c > 1114111) <;> cases decide (c ≥ 55296) <;> cases decide (c ≤ 57343) <;> rfl
      rw [e2]
      cases farB (ctF s k 1 c0).2.1 least <;> rfl
theorem rune1_val (s : List UInt8) (h : s ≠ []) : evFn (env []) H.cooperageref1_rune1 (LPof [(23, runeLC)]) F.cooperageref1_rune1 [.str s] [] (finK 0) = some (r3 (r1 s), []) := by
  have hx := bt_lt s 0
  have hl : 0 < s.length := List.length_pos_iff.2 h
  have m31 := and_mask (bt s 0) 31 31 rfl hx (by simp)
  have m15 := and_mask (bt s 0) 15 15 rfl hx (by simp)
  have m7 := and_mask (bt s 0) 7 7 rfl hx (by simp)
  have w31 : IntKind.i64.wrap ((bt s 0 % (31 + 1) : Nat) : Int) = ((bt s 0 % (31 + 1) : Nat) : Int) := wrap64 (by omega) (by omega)
  have w15 : IntKind.i64.wrap ((bt s 0 % (15 + 1) : Nat) : Int) = ((bt s 0 % (15 + 1) : Nat) : Int) := wrap64 (by omega) (by omega)
  have w7 : IntKind.i64.wrap ((bt s 0 % (7 + 1) : Nat) : Int) = ((bt s 0 % (7 + 1) : Nat) : Int) := wrap64 (by omega) (by omega)
  rw [rune1_ev, cond_pos (by omega)]
  simp only [getD_bt, wrap_bt, m31, m15, m7, w31, w15, w7, and_bifT, Option.bind_some]
  rw [tell_bif s 2 1 2 128 128 _ rfl rfl rfl (by omega), tell_bif s 3 2 3 2048 2048 _ rfl rfl rfl (by omega), tell_bif s 4 3 4 65536 65536 _ rfl rfl rfl (by omega), ← r1_eq]
  unfold r1R
  rw [show decide (((bt s 0 : Nat) : Int) < (128 : Int)) = decide (bt s 0 < 128) from decide_eq_decide.2 (by omega), show decide (((bt s 0 : Nat) : Int) ≥ (194 : Int)) = decide (bt s 0 ≥ 194) from decide_eq_decide.2 (by omega),
    show decide (((bt s 0 : Nat) : Int) < (224 : Int)) = decide (bt s 0 < 224) from decide_eq_decide.2 (by omega), show decide (((bt s 0 : Nat) : Int) ≥ (224 : Int)) = decide (bt s 0 ≥ 224) from decide_eq_decide.2 (by omega),
    show decide (((bt s 0 : Nat) : Int) < (240 : Int)) = decide (bt s 0 < 240) from decide_eq_decide.2 (by omega), show decide (((bt s 0 : Nat) : Int) ≥ (240 : Int)) = decide (bt s 0 ≥ 240) from decide_eq_decide.2 (by omega),
    show decide (((bt s 0 : Nat) : Int) < (245 : Int)) = decide (bt s 0 < 245) from decide_eq_decide.2 (by omega)]
  cases decide (bt s 0 < 128) with
  | true => rfl
  | false =>
    simp only [cond_false]
    cases decide (bt s 0 ≥ 194) && decide (bt s 0 < 224) with
    | true => rfl
    | false =>
      simp only [cond_false]
      cases decide (bt s 0 ≥ 224) && decide (bt s 0 < 240) with
      | true => rfl
      | false =>
        simp only [cond_false]
        cases decide (bt s 0 ≥ 240) && decide (bt s 0 < 245) <;> rfl
def caseRune1 : PCase := ⟨[.ty .str], [.int .i64, .int .i64, .bool], fun x => [(!x.1.isEmpty, (((r1 x.1).1 : Int), (((r1 x.1).2.1 : Nat) : Int), (r1 x.1).2.2, ()))]⟩
theorem rune1_ok : caseRune1.ok P0 I.cooperageref1_rune1 := case_ok (H := H.cooperageref1_rune1) (E := env []) (env_ok env_nil) glob0 mixed0 G.cooperageref1_rune1 Bd.cooperageref1_rune1 (by kernel_rfl) (loops_good (tab := [(23, runeLC)]) (by kernel_rfl) (fun x hx => by simp at hx; subst hx; exact rune1_lok)) fun ⟨s, ()⟩ y h hw => by
  obtain ⟨hc, rfl⟩ := pick_pre h
  exact ⟨[], rune1_val s (by intro e; subst e; simp at hc)⟩
noncomputable abbrev consR : List (FuncId × Con) := [(I.cooperageref1_rune1, .pure (pureOf [caseRune1]))]
theorem consR_ok : ∀ x ∈ consR, HoldsC P0 x.1 x.2 := by
  intro x hx
  simp at hx
  subst hx
  exact ⟨pureOf_holds (by simp; exact rune1_ok), C.cooperageref1_rune1⟩
theorem rcount_rd {R : Type} (s : List UInt8) (n i : Int) (K : Ex → St → Option R) : roundK (env consR) H.cooperageref1_Count 0 (LPof []) V.cooperageref1_Count_3 L.cooperageref1_Count_3 ⟨[(0, .str s), (3, .int .i64 n), (4, .int .i64 i)], [], 0⟩ K = bif decide (i < (↑s.length : Int)) then bif decide ((0 : Int) ≤ i) && decide (i ≤ (↑s.length : Int)) then bif !(List.drop i.toNat s).isEmpty then K Ex.normal { slots := [(0, AV.str s), (3, AV.int IntKind.i64 (IntKind.i64.wrap (n + (1 : Int)))), (4, AV.int IntKind.i64 (IntKind.i64.wrap (i + (↑(r1 (List.drop i.toNat s)).snd.fst : Int))))], objs := [], nx := 0 } else none else none else K (Ex.exit 0) { slots := [(0, AV.str s), (3, AV.int IntKind.i64 n), (4, AV.int IntKind.i64 i)], objs := [], nx := 0 } := by kernel_rfl

theorem rcut_rd {R : Type} (s : List UInt8) (n i : Int) (K : Ex → St → Option R) : roundK (env consR) H.cooperageref1_Cut 0 (LPof []) V.cooperageref1_Cut_2 L.cooperageref1_Cut_2 ⟨[(0, .str s), (1, .int .i64 n), (5, .int .i64 i)], [], 0⟩ K = Option.bind (bif decide (i < (↑s.length : Int)) then some (decide (n > (0 : Int))) else some false) fun v => bif v then bif decide ((0 : Int) ≤ i) && decide (i ≤ (↑s.length : Int)) then bif !(List.drop i.toNat s).isEmpty then K Ex.normal { slots := [(0, AV.str s), (1, AV.int IntKind.i64 (IntKind.i64.wrap (n - (1 : Int)))), (5, AV.int IntKind.i64 (IntKind.i64.wrap (i + (↑(r1 (List.drop i.toNat s)).snd.fst : Int))))], objs := [], nx := 0 } else none else none else K (Ex.exit 0) { slots := [(0, AV.str s), (1, AV.int IntKind.i64 n), (5, AV.int IntKind.i64 i)], objs := [], nx := 0 } := by kernel_rfl

theorem rvalid_rd {R : Type} (s : List UInt8) (b : Bool) (n i : Int) (K : Ex → St → Option R) : roundK (env consR) H.cooperageref1_Valid 0 (LPof []) V.cooperageref1_Valid_3 L.cooperageref1_Valid_3 ⟨[(0, .str s), (2, .bool b), (3, .int .i64 n), (4, .int .i64 i)], [], 0⟩ K = bif decide (i < (↑s.length : Int)) then bif decide ((0 : Int) ≤ i) && decide (i ≤ (↑s.length : Int)) then bif !(List.drop i.toNat s).isEmpty then Option.bind (bif (↑(r1 (List.drop i.toNat s)).fst : Int) == (45 : Int) then some true else bif (↑(r1 (List.drop i.toNat s)).fst : Int) == (95 : Int) then some true else some ((↑(r1 (List.drop i.toNat s)).fst : Int) == (46 : Int))) fun v => Option.bind (bif decide ((↑(r1 (List.drop i.toNat s)).fst : Int) ≥ (97 : Int)) then bif decide ((↑(r1 (List.drop i.toNat s)).fst : Int) ≤ (122 : Int)) then some true else bif decide ((↑(r1 (List.drop i.toNat s)).fst : Int) ≥ (48 : Int)) then some (decide ((↑(r1 (List.drop i.toNat s)).fst : Int) ≤ (57 : Int))) else some false else bif decide ((↑(r1 (List.drop i.toNat s)).fst : Int) ≥ (48 : Int)) then some (decide ((↑(r1 (List.drop i.toNat s)).fst : Int) ≤ (57 : Int))) else some false) fun v_1 => Option.bind (bif decide ((↑(r1 (List.drop i.toNat s)).fst : Int) ≥ (161 : Int)) then bif decide ((↑(r1 (List.drop i.toNat s)).fst : Int) ≤ (65535 : Int)) then bif (↑(r1 (List.drop i.toNat s)).fst : Int) != (173 : Int) then some ((↑(r1 (List.drop i.toNat s)).fst : Int) != (65279 : Int)) else some false else some false else some false) fun v_2 => Option.bind (bif !(r1 (List.drop i.toNat s)).snd.snd then some true else bif v_1 then some false else bif v_2 then some false else bif v then some !decide (i > (0 : Int)) else some true) fun v => bif v then K Ex.ret { slots := [(0, AV.str s), (2, AV.bool false), (3, AV.int IntKind.i64 n), (4, AV.int IntKind.i64 i)], objs := [], nx := 0 } else K Ex.normal { slots := [(0, AV.str s), (2, AV.bool b), (3, AV.int IntKind.i64 (IntKind.i64.wrap (n + (1 : Int)))), (4, AV.int IntKind.i64 (IntKind.i64.wrap (i + (↑(r1 (List.drop i.toNat s)).snd.fst : Int))))], objs := [], nx := 0 } else none else none else K (Ex.exit 0) { slots := [(0, AV.str s), (2, AV.bool b), (3, AV.int IntKind.i64 n), (4, AV.int IntKind.i64 i)], objs := [], nx := 0 } := by kernel_rfl

theorem drop_em {s : List UInt8} {pos : Nat} (h : pos < s.length) : (!(s.drop pos).isEmpty) = true := by
  have := drop_ne h
  cases hd : s.drop pos with
  | nil => exact absurd hd this
  | cons a b => rfl
def rcSt (s : List UInt8) (n i : Int) : St := ⟨[(0, .str s), (3, .int .i64 n), (4, .int .i64 i)], [], 0⟩
theorem rcount_loop (s : List UInt8) (hs : s.length ≤ 1048576) {R : Type} (K : Ex → St → Option R) : ∀ (m pos n : Nat), s.length ≤ pos + m → pos ≤ s.length → n ≤ pos →
    rounds (env consR) H.cooperageref1_Count 0 (LPof []) V.cooperageref1_Count_3 L.cooperageref1_Count_3 (m + 1) (rcSt s n pos) K = K (.exit 0) (rcSt s ((n + cnt (s.drop pos) : Nat) : Int) s.length)
  | m, pos, n, h, hp, h1 => by
    rw [rounds_succ']
    unfold rcSt
    by_cases hlt : pos < s.length
    · have hw := dec1_pos (s.drop pos)
      have hle := dec1_le _ (drop_ne hlt)
      rw [List.length_drop] at hle
      obtain ⟨m, rfl⟩ : ∃ j, m = j + 1 := ⟨m - 1, by omega⟩
      have ih := rcount_loop s hs K m (pos + (dec1 (s.drop pos)).2) (n + 1) (by omega) (by omega) (by omega)
      rw [rcount_rd, cond_pos (by omega), cond_pos2 (by omega) (by omega), Int.toNat_natCast, drop_em hlt, r1_w, wrap64 (by omega) (by omega), wrap64 (by omega) (by omega), cnt_cons _ (drop_ne hlt), List.drop_drop]
      simp only [cond_true]
      rw [show n + (cnt (s.drop (pos + (dec1 (s.drop pos)).2)) + 1) = n + 1 + cnt (s.drop (pos + (dec1 (s.drop pos)).2)) by omega]
      exact ih
    · have : pos = s.length := by omega
      subst this
      rw [rcount_rd, cond_neg (by omega)]
      simp [cnt_nil]
def rcPat : SPat := ⟨[(0, .str), (3, .int .i64), (4, .int .i64)], []⟩
def rcLC : LoopC := LoopC.of rcPat (fun ⟨⟨s, n, i, _⟩, _⟩ => decide (List.length s ≤ 1048576) && decide (n = (0 : Int)) && decide (i = (0 : Int))) fun ⟨⟨s, n, i, _⟩, _⟩ => [(true, .exit 0, rcSt s (cnt s : Nat) (List.length s))]
theorem rcount_lok : LoopOK P0 H.cooperageref1_Count 0 L.cooperageref1_Count_3 rcLC := loop_ok_of (env_ok consR_ok) glob0 mixed0 noLoops V.cooperageref1_Count_3 (by decide) fun ⟨⟨s, n, i, _⟩, _⟩ h hw => by
  simp only [Bool.and_eq_true, decide_eq_true_eq] at h
  obtain ⟨⟨h1, h2⟩, h3⟩ := h
  subst h2; subst h3
  have := rcount_loop s h1 (fun e s => some (e, s)) s.length 0 0 (by omega) (Nat.zero_le _) (Nat.le_refl _)
  rw [List.drop_zero, Nat.zero_add] at this
  exact ⟨_, this⟩
theorem rcount_ev (s : List UInt8) : evFn (env consR) H.cooperageref1_Count (LPof [(3, rcLC)]) F.cooperageref1_Count [.str s] [] (finK 0) = bif decide (s.length ≤ 1048576) && true && true && true then some (AV.int IntKind.i64 (↑(cnt s) : Int), []) else none := by kernel_rfl

def caseRCount : PCase := ⟨[.ty .str], [.int .i64], fun x => [(decide (List.length x.1 ≤ 1048576), (((cnt x.1 : Nat) : Int), ()))]⟩
theorem rcount_val (s : List UInt8) (h : s.length ≤ 1048576) : evFn (env consR) H.cooperageref1_Count (LPof [(3, rcLC)]) F.cooperageref1_Count [.str s] [] (finK 0) = some (.int .i64 ((cnt s : Nat) : Int), []) := by
  rw [rcount_ev]
  simp [h]
theorem rcount_ok : caseRCount.ok P0 I.cooperageref1_Count := case_ok (H := H.cooperageref1_Count) (E := env consR) (env_ok consR_ok) glob0 mixed0 G.cooperageref1_Count Bd.cooperageref1_Count (by kernel_rfl) (loops_good (tab := [(3, rcLC)]) (by kernel_rfl) (fun x hx => by simp at hx; subst hx; exact rcount_lok)) fun ⟨s, ()⟩ y h hw => by
  obtain ⟨hc, rfl⟩ := pick_pre h
  exact ⟨[], rcount_val s (of_decide_eq_true hc)⟩
def rtSt (s : List UInt8) (n i : Int) : St := ⟨[(0, .str s), (1, .int .i64 n), (5, .int .i64 i)], [], 0⟩
theorem rcut_loop (s : List UInt8) (hs : s.length ≤ 1048576) {R : Type} (K : Ex → St → Option R) : ∀ (m pos : Nat) (n : Int), s.length ≤ pos + m → pos ≤ s.length → In .i64 n →
    rounds (env consR) H.cooperageref1_Cut 0 (LPof []) V.cooperageref1_Cut_2 L.cooperageref1_Cut_2 (m + 1) (rtSt s n pos) K = K (.exit 0) (rtSt s (n - (min n.toNat (cnt (s.drop pos)) : Nat)) ((pos + cutP (s.drop pos) n.toNat : Nat) : Int))
  | m, pos, n, h, hp, hn => by
    rw [rounds_succ']
    unfold rtSt
    rw [In.i64] at hn
    by_cases hlt : pos < s.length ∧ n > 0
    · obtain ⟨hlt, h0⟩ := hlt
      have hw := dec1_pos (s.drop pos)
      have hle := dec1_le _ (drop_ne hlt)
      rw [List.length_drop] at hle
      obtain ⟨m, rfl⟩ : ∃ j, m = j + 1 := ⟨m - 1, by omega⟩
      have ih := rcut_loop s hs K m (pos + (dec1 (s.drop pos)).2) (n - 1) (by omega) (by omega) (by rw [In.i64]; omega)
      obtain ⟨k, hk⟩ : ∃ k, n.toNat = k + 1 := ⟨n.toNat - 1, by omega⟩
      have hcut : cutP (s.drop pos) n.toNat = (dec1 (s.drop pos)).2 + cutP (s.drop (pos + (dec1 (s.drop pos)).2)) (n - 1).toNat := by
        rw [hk, show (n - 1).toNat = k by omega]
        simp only [cutP, drop_ne hlt, if_false]
        rw [List.drop_drop]
      have hn2 : n - ((min n.toNat (cnt (s.drop pos)) : Nat) : Int) = (n - 1) - ((min (n - 1).toNat (cnt (s.drop (pos + (dec1 (s.drop pos)).2))) : Nat) : Int) := by
        rw [cnt_cons _ (drop_ne hlt), List.drop_drop]
        omega
      rw [rcut_rd, cond_pos (by omega), decide_eq_true h0]
      simp only [Option.bind_some, cond_true]
      rw [cond_pos2 (by omega) (by omega), Int.toNat_natCast, drop_em hlt, r1_w, wrap64 (by omega) (by omega), wrap64 (by omega) (by omega), hcut, ← Nat.add_assoc, hn2]
      exact ih
    · have e1 : (bif decide ((pos : Int) < (s.length : Int)) then some (decide (n > (0 : Int))) else some false) = some false := by
        rw [and_bifT]; simp; omega
      have e2 : cutP (s.drop pos) n.toNat = 0 ∧ min n.toNat (cnt (s.drop pos)) = 0 := by
        by_cases h1 : pos < s.length
        · rw [show n.toNat = 0 by omega]; exact ⟨rfl, Nat.zero_min _⟩
        · have : pos = s.length := by omega
          subst this
          rw [List.drop_length, cnt_nil]
          exact ⟨by have := cutP_le n.toNat []; simpa using this, Nat.min_zero _⟩
      rw [rcut_rd, e1, e2.1, e2.2]
      simp only [Option.bind_some, cond_false, Nat.add_zero]
      rw [show n - ((0 : Nat) : Int) = n by omega]
def rtPat : SPat := ⟨[(0, .str), (1, .int .i64), (5, .int .i64)], []⟩
def rtLC : LoopC := LoopC.of rtPat (fun ⟨⟨s, n, i, _⟩, _⟩ => decide (List.length s ≤ 1048576) && decide (i = (0 : Int))) fun ⟨⟨s, n, i, _⟩, _⟩ => [(true, .exit 0, rtSt s (n - (min (Int.toNat n) (cnt s) : Nat)) (cutP s (Int.toNat n) : Nat))]
theorem rcut_lok : LoopOK P0 H.cooperageref1_Cut 0 L.cooperageref1_Cut_2 rtLC := loop_ok_of (env_ok consR_ok) glob0 mixed0 noLoops V.cooperageref1_Cut_2 (by decide) fun ⟨⟨s, n, i, _⟩, _⟩ h hw => by
  simp only [Bool.and_eq_true, decide_eq_true_eq] at h
  obtain ⟨h1, h3⟩ := h
  subst h3
  have := rcut_loop s h1 (fun e s => some (e, s)) s.length 0 n (by omega) (Nat.zero_le _) hw.1.2.1
  rw [List.drop_zero, Nat.zero_add] at this
  exact ⟨_, this⟩
theorem rcut_ev (s : List UInt8) (n : Int) : evFn (env consR) H.cooperageref1_Cut (LPof [(2, rtLC)]) F.cooperageref1_Cut [.str s, .int .i64 n] [] (finK 0) = bif decide (s.length ≤ 1048576) && true && true then bif decide ((0 : Int) ≤ (↑(cutP s n.toNat) : Int)) && decide ((↑(cutP s n.toNat) : Int) ≤ (↑s.length : Int)) then some (AV.str (List.take (cutP s n.toNat) s), []) else none else none := by kernel_rfl

def caseRCut : PCase := ⟨[.ty .str, .ty (.int .i64)], [.str], fun x => [(decide (List.length x.1 ≤ 1048576), (List.take (cutP x.1 (Int.toNat x.2.1)) x.1, ()))]⟩
theorem rcut_val (s : List UInt8) (n : Int) (h : s.length ≤ 1048576) : evFn (env consR) H.cooperageref1_Cut (LPof [(2, rtLC)]) F.cooperageref1_Cut [.str s, .int .i64 n] [] (finK 0) = some (.str (s.take (cutP s n.toNat)), []) := by
  rw [rcut_ev]
  have hle := cutP_le n.toNat s
  have h2 : decide (((cutP s n.toNat : Nat) : Int) ≤ (s.length : Int)) = true := decide_eq_true (by omega)
  simp [h, hle]
theorem rcut_ok : caseRCut.ok P0 I.cooperageref1_Cut := case_ok (H := H.cooperageref1_Cut) (E := env consR) (env_ok consR_ok) glob0 mixed0 G.cooperageref1_Cut Bd.cooperageref1_Cut (by kernel_rfl) (loops_good (tab := [(2, rtLC)]) (by kernel_rfl) (fun x hx => by simp at hx; subst hx; exact rcut_lok)) fun ⟨s, n, ()⟩ y h hw => by
  obtain ⟨hc, rfl⟩ := pick_pre h
  exact ⟨[], rcut_val s n (of_decide_eq_true hc)⟩
def rvSt (s : List UInt8) (b : Bool) (n i : Int) : St := ⟨[(0, .str s), (2, .bool b), (3, .int .i64 n), (4, .int .i64 i)], [], 0⟩
/-- One test of the document's. -/
theorem bar_eq (x : Nat × Nat × Bool) (i : Int) {Q : Type} (f : Bool → Option Q) :
    (Option.bind (bif (x.1 : Int) == (45 : Int) then some true else bif (x.1 : Int) == (95 : Int) then some true else some ((x.1 : Int) == (46 : Int))) fun v =>
      Option.bind (bif decide ((x.1 : Int) ≥ (97 : Int)) then bif decide ((x.1 : Int) ≤ (122 : Int)) then some true else bif decide ((x.1 : Int) ≥ (48 : Int)) then some (decide ((x.1 : Int) ≤ (57 : Int))) else some false
        else bif decide ((x.1 : Int) ≥ (48 : Int)) then some (decide ((x.1 : Int) ≤ (57 : Int))) else some false) fun v_1 =>
        Option.bind (bif decide ((x.1 : Int) ≥ (161 : Int)) then bif decide ((x.1 : Int) ≤ (65535 : Int)) then bif (x.1 : Int) != (173 : Int) then some ((x.1 : Int) != (65279 : Int)) else some false else some false else some false) fun v_2 =>
          Option.bind (bif !x.2.2 then some true else bif v_1 then some false else bif v_2 then some false else bif v then some !decide (i > (0 : Int)) else some true) f)
    = f (barR x (!decide (i > (0 : Int)))) := by
  unfold barR smallR bigR markR
  simp only [and_bifT, or_bifT, nand_bifT, nor_bifT, Option.bind_some]
  have e1 : (bif decide ((x.1 : Int) ≥ (97 : Int)) then bif decide ((x.1 : Int) ≤ (122 : Int)) then some true else some (decide ((x.1 : Int) ≥ (48 : Int)) && decide ((x.1 : Int) ≤ (57 : Int))) else some (decide ((x.1 : Int) ≥ (48 : Int)) && decide ((x.1 : Int) ≤ (57 : Int)))) =
      some (decide ((x.1 : Int) ≥ (97 : Int)) && decide ((x.1 : Int) ≤ (122 : Int)) || decide ((x.1 : Int) ≥ (48 : Int)) && decide ((x.1 : Int) ≤ (57 : Int))) := by
    cases decide ((x.1 : Int) ≥ (97 : Int)) <;> cases decide ((x.1 : Int) ≤ (122 : Int)) <;> rfl
  simp only [or_bifT] at e1
  rw [e1]
  simp only [Option.bind_some]
theorem rvalid_loop (s : List UInt8) (hs : s.length ≤ 1048576) (b : Bool) {R : Type} (K : Ex → St → Option R) : ∀ (m pos n : Nat), s.length ≤ pos + m → pos ≤ s.length → n ≤ pos →
    rounds (env consR) H.cooperageref1_Valid 0 (LPof []) V.cooperageref1_Valid_3 L.cooperageref1_Valid_3 (m + 1) (rvSt s b n pos) K =
      match failR m (s.drop pos) (!decide ((pos : Int) > (0 : Int))) with
      | some p => K .ret (rvSt s false ((n + p.1 : Nat) : Int) ((pos + p.2 : Nat) : Int))
      | none => K (.exit 0) (rvSt s b ((n + cnt (s.drop pos) : Nat) : Int) s.length)
  | m, pos, n, h, hp, h1 => by
    rw [rounds_succ']
    unfold rvSt
    by_cases hlt : pos < s.length
    · have hw := dec1_pos (s.drop pos)
      have hle := dec1_le _ (drop_ne hlt)
      rw [List.length_drop] at hle
      obtain ⟨m, rfl⟩ : ∃ j, m = j + 1 := ⟨m - 1, by omega⟩
      have ih := rvalid_loop s hs b K m (pos + (dec1 (s.drop pos)).2) (n + 1) (by omega) (by omega) (by omega)
      have hem := drop_em hlt
      rw [rvalid_rd, cond_pos (by omega), cond_pos2 (by omega) (by omega), Int.toNat_natCast, hem, r1_w, wrap64 (by omega) (by omega), wrap64 (by omega) (by omega)]
      simp only [cond_true]
      rw [bar_eq]
      rw [Bool.not_eq_true'] at hem
      rw [failR, hem]
      simp only [cond_false]
      cases barR (r1 (s.drop pos)) (!decide ((pos : Int) > (0 : Int))) with
      | true => rfl
      | false =>
        simp only [cond_false]
        rw [show (!decide (((pos + (dec1 (s.drop pos)).2 : Nat) : Int) > (0 : Int))) = false by rw [decide_eq_true (by omega)]; rfl] at ih
        rw [List.drop_drop]
        refine Eq.trans ih ?_
        cases failR m (s.drop (pos + (dec1 (s.drop pos)).2)) false with
        | none =>
          simp only [Option.map_none]
          rw [cnt_cons _ (drop_ne hlt), List.drop_drop, show n + 1 + cnt (s.drop (pos + (dec1 (s.drop pos)).2)) = n + (cnt (s.drop (pos + (dec1 (s.drop pos)).2)) + 1) by omega]
          rfl
        | some p =>
          simp only [Option.map_some]
          rw [show n + 1 + p.1 = n + (p.1 + 1) by omega, Nat.add_assoc]
          rfl
    · have : pos = s.length := by omega
      subst this
      have e : failR m [] (!decide (((s.length : Nat) : Int) > (0 : Int))) = none := by cases m <;> rfl
      rw [rvalid_rd, cond_neg (by omega), List.drop_length, e]
      simp [cnt_nil]
def rvPat : SPat := ⟨[(0, .str), (2, .bool), (3, .int .i64), (4, .int .i64)], []⟩
def rvLC : LoopC := LoopC.of rvPat (fun ⟨⟨s, b, n, i, _⟩, _⟩ => decide (List.length s ≤ 1048576) && decide (n = (0 : Int)) && decide (i = (0 : Int)))
  fun ⟨⟨s, b, n, i, _⟩, _⟩ => [((failR (List.length s) s true).isSome, .ret, rvSt s false ((failR (List.length s) s true).getD (0, 0)).1 ((failR (List.length s) s true).getD (0, 0)).2), (true, .exit 0, rvSt s b (cnt s : Nat) (List.length s))]
theorem rvalid_all (s : List UInt8) (b : Bool) (h1 : s.length ≤ 1048576) : ∃ k, rounds (env consR) H.cooperageref1_Valid 0 (LPof []) V.cooperageref1_Valid_3 L.cooperageref1_Valid_3 k ⟨[(0, .str s), (2, .bool b), (3, .int .i64 0), (4, .int .i64 0)], [], 0⟩ (fun e s => some (e, s)) =
    pick [((failR s.length s true).isSome, .ret, rvSt s false ((failR s.length s true).getD (0, 0)).1 ((failR s.length s true).getD (0, 0)).2), (true, .exit 0, rvSt s b (cnt s : Nat) s.length)] := by
  have := rvalid_loop s h1 b (fun e s => some (e, s)) s.length 0 0 (by omega) (Nat.zero_le _) (Nat.le_refl _)
  rw [List.drop_zero, show (!decide (((0 : Nat) : Int) > (0 : Int))) = true from rfl] at this
  refine ⟨_, this.trans ?_⟩
  cases failR s.length s true with
  | none => simp [pick]
  | some p => simp [pick]
theorem rvalid_lok : LoopOK P0 H.cooperageref1_Valid 0 L.cooperageref1_Valid_3 rvLC := loop_ok_of (env_ok consR_ok) glob0 mixed0 noLoops V.cooperageref1_Valid_3 (by decide) fun ⟨⟨s, b, n, i, _⟩, _⟩ h hw => by
  simp only [Bool.and_eq_true, decide_eq_true_eq] at h
  obtain ⟨⟨h1, h2⟩, h3⟩ := h
  subst h2; subst h3
  exact rvalid_all s b h1
theorem rvalid_ev (s : List UInt8) : evFn (env consR) H.cooperageref1_Valid (LPof [(3, rvLC)]) F.cooperageref1_Valid [.str s] [] (finK 0) = bif decide (s.length ≤ 1048576) && true && true && (failR s.length s true).isSome then some (AV.bool false, []) else bif decide (s.length ≤ 1048576) && true && true && true then Option.bind (bif decide ((↑(cnt s) : Int) > (0 : Int)) then some (decide ((↑(cnt s) : Int) ≤ (40 : Int))) else some false) fun v => some (AV.bool v, []) else none := by kernel_rfl

def caseRValid : PCase := ⟨[.ty .str], [.bool], fun x => [(decide (List.length x.1 ≤ 1048576), (validL x.1, ()))]⟩
theorem rvalid_val (s : List UInt8) (h : s.length ≤ 1048576) : evFn (env consR) H.cooperageref1_Valid (LPof [(3, rvLC)]) F.cooperageref1_Valid [.str s] [] (finK 0) = some (.bool (validL s), []) := by
  rw [rvalid_ev, ← valid_both]
  unfold validR
  simp only [h, decide_true, Bool.true_and]
  cases (failR s.length s true).isSome with
  | true => rfl
  | false =>
    cases decide (((cnt s : Nat) : Int) > 0) <;> rfl
theorem rvalid_ok : caseRValid.ok P0 I.cooperageref1_Valid := case_ok (H := H.cooperageref1_Valid) (E := env consR) (env_ok consR_ok) glob0 mixed0 G.cooperageref1_Valid Bd.cooperageref1_Valid (by kernel_rfl) (loops_good (tab := [(3, rvLC)]) (by kernel_rfl) (fun x hx => by simp at hx; subst hx; exact rvalid_lok)) fun ⟨s, ()⟩ y h hw => by
  obtain ⟨hc, rfl⟩ := pick_pre h
  exact ⟨[], rvalid_val s (of_decide_eq_true hc)⟩
noncomputable abbrev consT : List (FuncId × Con) := [(I.cooperageref1_Valid, .pure (pureOf [caseRValid])), (I.cooperageref1_Count, .pure (pureOf [caseRCount])), (I.cooperageref1_Cut, .pure (pureOf [caseRCut]))] ++ consN
theorem consT_ok : ∀ x ∈ consT, HoldsC P0 x.1 x.2 := by
  intro x hx
  rcases List.mem_append.1 hx with hx | hx
  · simp at hx
    rcases hx with rfl | rfl | rfl
    · exact ⟨pureOf_holds (by simp; exact rvalid_ok), C.cooperageref1_Valid⟩
    · exact ⟨pureOf_holds (by simp; exact rcount_ok), C.cooperageref1_Count⟩
    · exact ⟨pureOf_holds (by simp; exact rcut_ok), C.cooperageref1_Cut⟩
  · exact consN_ok x hx
theorem tell_ev (s : List UInt8) (n : Int) : evFn (env consT) H.cooperagelaw3_NamesTell (LPof []) F.cooperagelaw3_NamesTell [.str s, .int .i64 n] [] (finK 0) = bif decide ((↑s.length : Int) > (300 : Int)) then some (AV.bool true, []) else Option.bind (bif decide (s.length ≤ 1048576) then bif validL s == validL s then bif decide (s.length ≤ 1048576) then bif decide (s.length ≤ 1048576) then bif (↑(cnt s) : Int) == (↑(cnt s) : Int) then bif decide (s.length ≤ 1048576) then bif decide (s.length ≤ 1048576) then some (List.take (cutP s n.toNat) s == List.take (cutP s n.toNat) s) else none else none else some false else none else none else some false else none) fun v => some (AV.bool v, []) := by kernel_rfl

theorem tell_val (s : List UInt8) (n : Int) : evFn (env consT) H.cooperagelaw3_NamesTell (LPof []) F.cooperagelaw3_NamesTell [.str s, .int .i64 n] [] (finK 0) = some (.bool true, []) := by
  rw [tell_ev]
  by_cases h : (s.length : Int) > 300
  · simp [h]
  · have h1 : s.length ≤ 1048576 := by omega
    simp [h, h1]
def tyTell : List Ty := [.str, .int .i64]
theorem tell_good (x : tysDen tyTell) (hw : tysWf tyTell x) : ∃ o, EffGood P0 I.cooperagelaw3_NamesTell (valsOf tyTell x) [] (.bool true) o :=
  ⟨[], evFn_sound (H := H.cooperagelaw3_NamesTell) (E := env consT) (env_ok consT_ok) glob0 mixed0 G.cooperagelaw3_NamesTell (args := valsOf tyTell x) (by kernel_rfl) Bd.cooperagelaw3_NamesTell noLoops (tell_val x.1 x.2.1)⟩
end Go.Sim
