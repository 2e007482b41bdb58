/-
  CEnvN: the environment: types, functions, words to the machine. WRITTEN BY PROGRAM (envgen.py). · PlUtf: runes of a text in plain Lean. · PlWrd: eight bytes at once. · PlVal: right UTF-8 in plain Lean. · PlSkp: plain letters are passed over, many at once. · PlNam: which texts are names, in plain Lean. · WkVal: the walks of names.Valid and of what it calls. · PlSgn: one rune's bytes, in plain Lean. · PlRn: the document's own rune reader, in plain Lean. · PlTy: the program's kinds of data: records, commands, segments.
-/
import Derived.Test.YtifkijepedhbgaaDoorChecked
import Derived.Test.YtifkijepedhbgaaDoorPartC
namespace Go.Sim
set_option maxRecDepth 100000
noncomputable abbrev P0 : Program := Proofs.Tryd.prog
def rows0 : List (TypeId × TRow) := [(3, ⟨(.int .i64), 1, 8, [.int .i64 0]⟩),
  (4, ⟨.bool, 1, 1, [.bool false]⟩),
  (5, ⟨(.int .u8), 1, 1, [.int .u8 0]⟩),
  (9, ⟨.str, 1, 16, [.str []]⟩),
  (12, ⟨(.int .u64), 1, 8, [.int .u64 0]⟩),
  (20, ⟨.iface, 1, 16, [.nilif]⟩),
  (21, ⟨(.int .i32), 1, 4, [.int .i32 0]⟩),
  (22, ⟨(.slice 36), 1, 24, [.nils]⟩),
  (23, ⟨(.int .u32), 1, 4, [.int .u32 0]⟩),
  (25, ⟨(.struct [(0, 1), (1, 1), (2, 1), (3, 1)] [(.int .i64), (.int .i64), (.int .i64), (.int .i64)]), 4, 32, [.int .i64 0, .int .i64 0, .int .i64 0, .int .i64 0]⟩),
  (27, ⟨(.struct [(0, 1), (1, 1), (2, 1), (3, 1), (4, 1), (5, 1), (6, 1), (7, 1), (8, 1), (9, 4)] []), 13, 128, [.int .i64 0, .int .i64 0, .int .i64 0, .nils, .str [], .int .i64 0, .int .i64 0, .int .i64 0, .int .u32 0, .int .i64 0, .int .i64 0, .int .i64 0, .int .i64 0]⟩),
  (31, ⟨(.int .i64), 1, 8, [.int .i64 0]⟩),
  (34, ⟨(.slice 5), 1, 24, [.nils]⟩),
  (36, ⟨(.struct [(0, 1), (1, 1), (2, 1), (3, 1), (4, 1)] [(.int .i64), (.int .i64), .str, .str, .bool]), 5, 56, [.int .i64 0, .int .i64 0, .str [], .str [], .bool false]⟩),
  (37, ⟨(.slice 27), 1, 24, [.nils]⟩),
  (38, ⟨(.slice 3), 1, 24, [.nils]⟩),
  (45, ⟨(.slice 9), 1, 24, [.nils]⟩),
  (47, ⟨(.slice 79), 1, 24, [.nils]⟩),
  (49, ⟨(.struct [(0, 1), (1, 1), (2, 1), (3, 1), (4, 1), (5, 1), (6, 1), (7, 1), (8, 1), (9, 1), (10, 1)] []), 11, 120, [.int .i64 0, .int .i64 0, .int .i64 0, .int .i64 0, .int .i64 0, .int .i64 0, .nils, .int .i64 0, .bool false, .int .i64 0, .nils]⟩),
  (57, ⟨(.int .u64), 1, 8, [.int .u64 0]⟩),
  (61, ⟨.flat, 1, 8, [.undef]⟩),
  (68, ⟨(.slice 20), 1, 24, [.nils]⟩),
  (70, ⟨(.ptr 27), 1, 8, [.nilp]⟩),
  (72, ⟨(.ptr 110), 1, 8, [.nilp]⟩),
  (79, ⟨(.struct [(0, 1), (1, 13)] []), 14, 136, [.int .i64 0, .int .i64 0, .int .i64 0, .int .i64 0, .nils, .str [], .int .i64 0, .int .i64 0, .int .i64 0, .int .u32 0, .int .i64 0, .int .i64 0, .int .i64 0, .int .i64 0]⟩),
  (83, ⟨.flat, 1, 8, [.undef]⟩),
  (87, ⟨(.ptr 49), 1, 8, [.nilp]⟩),
  (88, ⟨(.int .u64), 1, 8, [.int .u64 0]⟩),
  (95, ⟨.flat, 1, 8, [.undef]⟩),
  (102, ⟨(.ptr 3), 1, 8, [.nilp]⟩),
  (103, ⟨(.ptr 22), 1, 8, [.nilp]⟩),
  (104, ⟨(.ptr 9), 1, 8, [.nilp]⟩),
  (105, ⟨(.ptr 25), 1, 8, [.nilp]⟩),
  (106, ⟨(.ptr 23), 1, 8, [.nilp]⟩),
  (110, ⟨(.struct [(0, 1), (1, 1)] []), 2, 32, [.nils, .int .i64 0]⟩),
  (122, ⟨(.ptr 47), 1, 8, [.nilp]⟩),
  (123, ⟨(.ptr 4), 1, 8, [.nilp]⟩),
  (124, ⟨(.ptr 34), 1, 8, [.nilp]⟩),
  (128, ⟨(.array 256 5), 256, 256, [.int .u8 0, .int .u8 0, .int .u8 0, .int .u8 0, .int .u8 0, .int .u8 0, .int .u8 0, .int .u8 0, .int .u8 0, .int .u8 0, .int .u8 0, .int .u8 0, .int .u8 0, .int .u8 0, .int .u8 0, .int .u8 0, .int .u8 0, .int .u8 0, .int .u8 0, .int .u8 0, .int .u8 0, .int .u8 0, .int .u8 0, .int .u8 0, .int .u8 0, .int .u8 0, .int .u8 0, .int .u8 0, .int .u8 0, .int .u8 0, .int .u8 0, .int .u8 0, .int .u8 0, .int .u8 0, .int .u8 0, .int .u8 0, .int .u8 0, .int .u8 0, .int .u8 0, .int .u8 0, .int .u8 0, .int .u8 0, .int .u8 0, .int .u8 0, .int .u8 0, .int .u8 0, .int .u8 0, .int .u8 0, .int .u8 0, .int .u8 0, .int .u8 0, .int .u8 0, .int .u8 0, .int .u8 0, .int .u8 0, .int .u8 0, .int .u8 0, .int .u8 0, .int .u8 0, .int .u8 0, .int .u8 0, .int .u8 0, .int .u8 0, .int .u8 0, .int .u8 0, .int .u8 0, .int .u8 0, .int .u8 0, .int .u8 0, .int .u8 0, .int .u8 0, .int .u8 0, .int .u8 0, .int .u8 0, .int .u8 0, .int .u8 0, .int .u8 0, .int .u8 0, .int .u8 0, .int .u8 0, .int .u8 0, .int .u8 0, .int .u8 0, .int .u8 0, .int .u8 0, .int .u8 0, .int .u8 0, .int .u8 0, .int .u8 0, .int .u8 0, .int .u8 0, .int .u8 0, .int .u8 0, .int .u8 0, .int .u8 0, .int .u8 0, .int .u8 0, .int .u8 0, .int .u8 0, .int .u8 0, .int .u8 0, .int .u8 0, .int .u8 0, .int .u8 0, .int .u8 0, .int .u8 0, .int .u8 0, .int .u8 0, .int .u8 0, .int .u8 0, .int .u8 0, .int .u8 0, .int .u8 0, .int .u8 0, .int .u8 0, .int .u8 0, .int .u8 0, .int .u8 0, .int .u8 0, .int .u8 0, .int .u8 0, .int .u8 0, .int .u8 0, .int .u8 0, .int .u8 0, .int .u8 0, .int .u8 0, .int .u8 0, .int .u8 0, .int .u8 0, .int .u8 0, .int .u8 0, .int .u8 0, .int .u8 0, .int .u8 0, .int .u8 0, .int .u8 0, .int .u8 0, .int .u8 0, .int .u8 0, .int .u8 0, .int .u8 0, .int .u8 0, .int .u8 0, .int .u8 0, .int .u8 0, .int .u8 0, .int .u8 0, .int .u8 0, .int .u8 0, .int .u8 0, .int .u8 0, .int .u8 0, .int .u8 0, .int .u8 0, .int .u8 0, .int .u8 0, .int .u8 0, .int .u8 0, .int .u8 0, .int .u8 0, .int .u8 0, .int .u8 0, .int .u8 0, .int .u8 0, .int .u8 0, .int .u8 0, .int .u8 0, .int .u8 0, .int .u8 0, .int .u8 0, .int .u8 0, .int .u8 0, .int .u8 0, .int .u8 0, .int .u8 0, .int .u8 0, .int .u8 0, .int .u8 0, .int .u8 0, .int .u8 0, .int .u8 0, .int .u8 0, .int .u8 0, .int .u8 0, .int .u8 0, .int .u8 0, .int .u8 0, .int .u8 0, .int .u8 0, .int .u8 0, .int .u8 0, .int .u8 0, .int .u8 0, .int .u8 0, .int .u8 0, .int .u8 0, .int .u8 0, .int .u8 0, .int .u8 0, .int .u8 0, .int .u8 0, .int .u8 0, .int .u8 0, .int .u8 0, .int .u8 0, .int .u8 0, .int .u8 0, .int .u8 0, .int .u8 0, .int .u8 0, .int .u8 0, .int .u8 0, .int .u8 0, .int .u8 0, .int .u8 0, .int .u8 0, .int .u8 0, .int .u8 0, .int .u8 0, .int .u8 0, .int .u8 0, .int .u8 0, .int .u8 0, .int .u8 0, .int .u8 0, .int .u8 0, .int .u8 0, .int .u8 0, .int .u8 0, .int .u8 0, .int .u8 0, .int .u8 0, .int .u8 0, .int .u8 0, .int .u8 0, .int .u8 0, .int .u8 0, .int .u8 0, .int .u8 0, .int .u8 0, .int .u8 0, .int .u8 0, .int .u8 0, .int .u8 0, .int .u8 0, .int .u8 0, .int .u8 0, .int .u8 0, .int .u8 0, .int .u8 0, .int .u8 0, .int .u8 0, .int .u8 0, .int .u8 0, .int .u8 0]⟩),
  (130, ⟨(.struct [(0, 1), (1, 1)] [(.int .u8), (.int .u8)]), 2, 2, [.int .u8 0, .int .u8 0]⟩),
  (131, ⟨(.array 16 130), 32, 32, [.int .u8 0, .int .u8 0, .int .u8 0, .int .u8 0, .int .u8 0, .int .u8 0, .int .u8 0, .int .u8 0, .int .u8 0, .int .u8 0, .int .u8 0, .int .u8 0, .int .u8 0, .int .u8 0, .int .u8 0, .int .u8 0, .int .u8 0, .int .u8 0, .int .u8 0, .int .u8 0, .int .u8 0, .int .u8 0, .int .u8 0, .int .u8 0, .int .u8 0, .int .u8 0, .int .u8 0, .int .u8 0, .int .u8 0, .int .u8 0, .int .u8 0, .int .u8 0]⟩),
  (133, ⟨(.ptr 135), 1, 8, [.nilp]⟩),
  (135, ⟨(.struct [(0, 1), (1, 1), (2, 1)] []), 3, 40, [.nils, .int .i64 0, .int .i64 0]⟩)]
def tys0 : List (TypeId × Ty) := [(3, (.int .i64)),
  (4, .bool),
  (5, (.int .u8)),
  (9, .str),
  (12, (.int .u64)),
  (21, (.int .i32)),
  (22, (.sl (.pair (.int .i64) (.pair (.int .i64) (.pair .str (.pair .str .bool)))))),
  (23, (.int .u32)),
  (25, (.pair (.int .i64) (.pair (.int .i64) (.pair (.int .i64) (.int .i64))))),
  (27, (.pair (.int .i64) (.pair (.int .i64) (.pair (.int .i64) (.pair (.sl (.pair (.int .i64) (.pair (.int .i64) (.pair .str (.pair .str .bool))))) (.pair .str (.pair (.int .i64) (.pair (.int .i64) (.pair (.int .i64) (.pair (.int .u32) (.pair (.int .i64) (.pair (.int .i64) (.pair (.int .i64) (.int .i64)))))))))))))),
  (31, (.int .i64)),
  (34, (.sl (.int .u8))),
  (36, (.pair (.int .i64) (.pair (.int .i64) (.pair .str (.pair .str .bool))))),
  (37, (.sl (.pair (.int .i64) (.pair (.int .i64) (.pair (.int .i64) (.pair (.sl (.pair (.int .i64) (.pair (.int .i64) (.pair .str (.pair .str .bool))))) (.pair .str (.pair (.int .i64) (.pair (.int .i64) (.pair (.int .i64) (.pair (.int .u32) (.pair (.int .i64) (.pair (.int .i64) (.pair (.int .i64) (.int .i64))))))))))))))),
  (38, (.sl (.int .i64))),
  (45, (.sl .str)),
  (47, (.sl (.pair (.int .i64) (.pair (.int .i64) (.pair (.int .i64) (.pair (.int .i64) (.pair (.sl (.pair (.int .i64) (.pair (.int .i64) (.pair .str (.pair .str .bool))))) (.pair .str (.pair (.int .i64) (.pair (.int .i64) (.pair (.int .i64) (.pair (.int .u32) (.pair (.int .i64) (.pair (.int .i64) (.pair (.int .i64) (.int .i64)))))))))))))))),
  (49, (.pair (.int .i64) (.pair (.int .i64) (.pair (.int .i64) (.pair (.int .i64) (.pair (.int .i64) (.pair (.int .i64) (.pair (.sl (.pair (.int .i64) (.pair (.int .i64) (.pair (.int .i64) (.pair (.int .i64) (.pair (.sl (.pair (.int .i64) (.pair (.int .i64) (.pair .str (.pair .str .bool))))) (.pair .str (.pair (.int .i64) (.pair (.int .i64) (.pair (.int .i64) (.pair (.int .u32) (.pair (.int .i64) (.pair (.int .i64) (.pair (.int .i64) (.int .i64))))))))))))))) (.pair (.int .i64) (.pair .bool (.pair (.int .i64) (.sl (.int .u8))))))))))))),
  (57, (.int .u64)),
  (79, (.pair (.int .i64) (.pair (.int .i64) (.pair (.int .i64) (.pair (.int .i64) (.pair (.sl (.pair (.int .i64) (.pair (.int .i64) (.pair .str (.pair .str .bool))))) (.pair .str (.pair (.int .i64) (.pair (.int .i64) (.pair (.int .i64) (.pair (.int .u32) (.pair (.int .i64) (.pair (.int .i64) (.pair (.int .i64) (.int .i64))))))))))))))),
  (88, (.int .u64)),
  (110, (.pair (.sl (.int .u8)) (.int .i64))),
  (130, (.pair (.int .u8) (.int .u8))),
  (135, (.pair (.sl (.int .u8)) (.pair (.int .i64) (.int .i64))))]
theorem all0 : allB P0 rows0 tys0 = true := by kernel_rfl
theorem mixed0 : P0.follows .mixedOrders = true := by kernel_rfl
instance : Tabs P0 := ⟨[⟨0, (.int .u8), utf8First⟩, ⟨1, (.pair (.int .u8) (.int .u8)), utf8Acc⟩]⟩
def globs0 : List (Nat × AV) := [(0, .ap (.int .u8) utf8First), (1, .ap (.pair (.int .u8) (.int .u8)) utf8Acc)]
abbrev env (cons : List (FuncId × Con)) : Env := mkEnv rows0 tys0 cons globs0
theorem glob0 {cons : List (FuncId × Con)} : GlobOK P0 (env cons) := fun g => by
  simp only [mkEnv, globs0]
  by_cases h0 : g = 0
  · subst h0; exact .inr ⟨⟨0, (.int .u8), utf8First⟩, by simp [Tabs.tab], rfl, rfl⟩
  by_cases h1 : g = 1
  · subst h1; exact .inr ⟨⟨1, (.pair (.int .u8) (.int .u8)), utf8Acc⟩, by simp [Tabs.tab], rfl, rfl⟩
  have hb : ∀ k, k ≠ g → Nat.beq k g = false := fun k h => by
    cases hh : Nat.beq k g with
    | false => rfl
    | true => exact absurd (Nat.eq_of_beq_eq_true hh) h
  exact .inl (by simp [lk, hb 0 (Ne.symm h0), hb 1 (Ne.symm h1)])
theorem env_ok {cons : List (FuncId × Con)} (hc : ∀ x ∈ cons, HoldsC P0 x.1 x.2) : EnvOK P0 (env cons) := mkEnv_ok all0 hc
abbrev I.cooperagelaw21_ServiceChecks : FuncId := 3
noncomputable abbrev F.cooperagelaw21_ServiceChecks : Func := Proofs.Tryd.f3
theorem G.cooperagelaw21_ServiceChecks : P0.funcs[3]? = some F.cooperagelaw21_ServiceChecks := Proofs.Tryd.func3
theorem C.cooperagelaw21_ServiceChecks : Called P0 3 := ⟨_, G.cooperagelaw21_ServiceChecks, by kernel_rfl, by kernel_rfl⟩
def H.cooperagelaw21_ServiceChecks : Hint := { nt := 38, lg := [], vs := [], nh := [], join := [(3, 12), (5, 2)], loops := [], jc := [] }
noncomputable abbrev B.cooperagelaw21_ServiceChecks : Code := (F.cooperagelaw21_ServiceChecks.body).getD .skip
theorem Bd.cooperagelaw21_ServiceChecks : F.cooperagelaw21_ServiceChecks.body = some B.cooperagelaw21_ServiceChecks := by kernel_rfl
abbrev I.cooperagelaw21_ServiceRight : FuncId := 4
noncomputable abbrev F.cooperagelaw21_ServiceRight : Func := Proofs.Tryd.f4
theorem G.cooperagelaw21_ServiceRight : P0.funcs[4]? = some F.cooperagelaw21_ServiceRight := Proofs.Tryd.func4
theorem C.cooperagelaw21_ServiceRight : Called P0 4 := ⟨_, G.cooperagelaw21_ServiceRight, by kernel_rfl, by kernel_rfl⟩
def H.cooperagelaw21_ServiceRight : Hint := { nt := 33, lg := [], vs := [], nh := [], join := [(3, 13), (5, 5), (6, 2)], loops := [], jc := [] }
noncomputable abbrev B.cooperagelaw21_ServiceRight : Code := (F.cooperagelaw21_ServiceRight.body).getD .skip
theorem Bd.cooperagelaw21_ServiceRight : F.cooperagelaw21_ServiceRight.body = some B.cooperagelaw21_ServiceRight := by kernel_rfl
abbrev I.cooperagelaw21_ServiceOrder : FuncId := 5
noncomputable abbrev F.cooperagelaw21_ServiceOrder : Func := Proofs.Tryd.f5
theorem G.cooperagelaw21_ServiceOrder : P0.funcs[5]? = some F.cooperagelaw21_ServiceOrder := Proofs.Tryd.func5
theorem C.cooperagelaw21_ServiceOrder : Called P0 5 := ⟨_, G.cooperagelaw21_ServiceOrder, by kernel_rfl, by kernel_rfl⟩
def H.cooperagelaw21_ServiceOrder : Hint := { nt := 77, lg := [], vs := [20, 34, 37, 40, 49, 51, 52], nh := [], join := [(10, 64)], loops := [(4, [0, 3, 4, 5])], jc := [] }
noncomputable abbrev B.cooperagelaw21_ServiceOrder : Code := (F.cooperagelaw21_ServiceOrder.body).getD .skip
theorem Bd.cooperagelaw21_ServiceOrder : F.cooperagelaw21_ServiceOrder.body = some B.cooperagelaw21_ServiceOrder := by kernel_rfl
noncomputable abbrev L.cooperagelaw21_ServiceOrder_4 : Code := findL 4 (loopsIn B.cooperagelaw21_ServiceOrder)
abbrev V.cooperagelaw21_ServiceOrder_4 : List Nat := (lk? H.cooperagelaw21_ServiceOrder.loops 4).getD []
abbrev I.cooperagelaw10_CommandBytes : FuncId := 6
noncomputable abbrev F.cooperagelaw10_CommandBytes : Func := Proofs.Tryd.f6
theorem G.cooperagelaw10_CommandBytes : P0.funcs[6]? = some F.cooperagelaw10_CommandBytes := Proofs.Tryd.func6
theorem C.cooperagelaw10_CommandBytes : Called P0 6 := ⟨_, G.cooperagelaw10_CommandBytes, by kernel_rfl, by kernel_rfl⟩
def H.cooperagelaw10_CommandBytes : Hint := { nt := 44, lg := [], vs := [], nh := [], join := [(3, 16), (12, 2)], loops := [], jc := [] }
noncomputable abbrev B.cooperagelaw10_CommandBytes : Code := (F.cooperagelaw10_CommandBytes.body).getD .skip
theorem Bd.cooperagelaw10_CommandBytes : F.cooperagelaw10_CommandBytes.body = some B.cooperagelaw10_CommandBytes := by kernel_rfl
abbrev I.cooperagelaw10_CommandReads : FuncId := 7
noncomputable abbrev F.cooperagelaw10_CommandReads : Func := Proofs.Tryd.f7
theorem G.cooperagelaw10_CommandReads : P0.funcs[7]? = some F.cooperagelaw10_CommandReads := Proofs.Tryd.func7
theorem C.cooperagelaw10_CommandReads : Called P0 7 := ⟨_, G.cooperagelaw10_CommandReads, by kernel_rfl, by kernel_rfl⟩
def H.cooperagelaw10_CommandReads : Hint := { nt := 33, lg := [], vs := [], nh := [], join := [(2, 13), (6, 2)], loops := [], jc := [] }
noncomputable abbrev B.cooperagelaw10_CommandReads : Code := (F.cooperagelaw10_CommandReads.body).getD .skip
theorem Bd.cooperagelaw10_CommandReads : F.cooperagelaw10_CommandReads.body = some B.cooperagelaw10_CommandReads := by kernel_rfl
abbrev I.cooperagelaw10_CommandSame : FuncId := 8
noncomputable abbrev F.cooperagelaw10_CommandSame : Func := Proofs.Tryd.f8
theorem G.cooperagelaw10_CommandSame : P0.funcs[8]? = some F.cooperagelaw10_CommandSame := Proofs.Tryd.func8
theorem C.cooperagelaw10_CommandSame : Called P0 8 := ⟨_, G.cooperagelaw10_CommandSame, by kernel_rfl, by kernel_rfl⟩
def H.cooperagelaw10_CommandSame : Hint := { nt := 37, lg := [], vs := [], nh := [], join := [(2, 6), (3, 18), (5, 4)], loops := [], jc := [] }
noncomputable abbrev B.cooperagelaw10_CommandSame : Code := (F.cooperagelaw10_CommandSame.body).getD .skip
theorem Bd.cooperagelaw10_CommandSame : F.cooperagelaw10_CommandSame.body = some B.cooperagelaw10_CommandSame := by kernel_rfl
abbrev I.cooperagelaw10_CommandPlain : FuncId := 9
noncomputable abbrev F.cooperagelaw10_CommandPlain : Func := Proofs.Tryd.f9
theorem G.cooperagelaw10_CommandPlain : P0.funcs[9]? = some F.cooperagelaw10_CommandPlain := Proofs.Tryd.func9
theorem C.cooperagelaw10_CommandPlain : Called P0 9 := ⟨_, G.cooperagelaw10_CommandPlain, by kernel_rfl, by kernel_rfl⟩
def H.cooperagelaw10_CommandPlain : Hint := { nt := 96, lg := [], vs := [6], nh := [], join := [(2, 28)], loops := [], jc := [] }
noncomputable abbrev B.cooperagelaw10_CommandPlain : Code := (F.cooperagelaw10_CommandPlain.body).getD .skip
theorem Bd.cooperagelaw10_CommandPlain : F.cooperagelaw10_CommandPlain.body = some B.cooperagelaw10_CommandPlain := by kernel_rfl
abbrev I.cooperagelaw19_WireBytes : FuncId := 10
noncomputable abbrev F.cooperagelaw19_WireBytes : Func := Proofs.Tryd.f10
theorem G.cooperagelaw19_WireBytes : P0.funcs[10]? = some F.cooperagelaw19_WireBytes := Proofs.Tryd.func10
theorem C.cooperagelaw19_WireBytes : Called P0 10 := ⟨_, G.cooperagelaw19_WireBytes, by kernel_rfl, by kernel_rfl⟩
def H.cooperagelaw19_WireBytes : Hint := { nt := 72, lg := [], vs := [], nh := [], join := [(3, 19), (13, 2)], loops := [], jc := [] }
noncomputable abbrev B.cooperagelaw19_WireBytes : Code := (F.cooperagelaw19_WireBytes.body).getD .skip
theorem Bd.cooperagelaw19_WireBytes : F.cooperagelaw19_WireBytes.body = some B.cooperagelaw19_WireBytes := by kernel_rfl
abbrev I.cooperagelaw19_WireTorn : FuncId := 11
noncomputable abbrev F.cooperagelaw19_WireTorn : Func := Proofs.Tryd.f11
theorem G.cooperagelaw19_WireTorn : P0.funcs[11]? = some F.cooperagelaw19_WireTorn := Proofs.Tryd.func11
theorem C.cooperagelaw19_WireTorn : Called P0 11 := ⟨_, G.cooperagelaw19_WireTorn, by kernel_rfl, by kernel_rfl⟩
def H.cooperagelaw19_WireTorn : Hint := { nt := 119, lg := [], vs := [], nh := [], join := [(3, 39), (15, 8)], loops := [], jc := [] }
noncomputable abbrev B.cooperagelaw19_WireTorn : Code := (F.cooperagelaw19_WireTorn.body).getD .skip
theorem Bd.cooperagelaw19_WireTorn : F.cooperagelaw19_WireTorn.body = some B.cooperagelaw19_WireTorn := by kernel_rfl
abbrev I.cooperagelaw19_WireReads : FuncId := 12
noncomputable abbrev F.cooperagelaw19_WireReads : Func := Proofs.Tryd.f12
theorem G.cooperagelaw19_WireReads : P0.funcs[12]? = some F.cooperagelaw19_WireReads := Proofs.Tryd.func12
theorem C.cooperagelaw19_WireReads : Called P0 12 := ⟨_, G.cooperagelaw19_WireReads, by kernel_rfl, by kernel_rfl⟩
def H.cooperagelaw19_WireReads : Hint := { nt := 75, lg := [], vs := [], nh := [], join := [(2, 17), (10, 43), (12, 72)], loops := [(5, [0, 2, 4])], jc := [] }
noncomputable abbrev B.cooperagelaw19_WireReads : Code := (F.cooperagelaw19_WireReads.body).getD .skip
theorem Bd.cooperagelaw19_WireReads : F.cooperagelaw19_WireReads.body = some B.cooperagelaw19_WireReads := by kernel_rfl
noncomputable abbrev L.cooperagelaw19_WireReads_5 : Code := findL 5 (loopsIn B.cooperagelaw19_WireReads)
abbrev V.cooperagelaw19_WireReads_5 : List Nat := (lk? H.cooperagelaw19_WireReads.loops 5).getD []
abbrev I.cooperagelaw19_WireSame : FuncId := 13
noncomputable abbrev F.cooperagelaw19_WireSame : Func := Proofs.Tryd.f13
theorem G.cooperagelaw19_WireSame : P0.funcs[13]? = some F.cooperagelaw19_WireSame := Proofs.Tryd.func13
theorem C.cooperagelaw19_WireSame : Called P0 13 := ⟨_, G.cooperagelaw19_WireSame, by kernel_rfl, by kernel_rfl⟩
def H.cooperagelaw19_WireSame : Hint := { nt := 41, lg := [], vs := [], nh := [], join := [(2, 6), (3, 18), (5, 4)], loops := [], jc := [] }
noncomputable abbrev B.cooperagelaw19_WireSame : Code := (F.cooperagelaw19_WireSame.body).getD .skip
theorem Bd.cooperagelaw19_WireSame : F.cooperagelaw19_WireSame.body = some B.cooperagelaw19_WireSame := by kernel_rfl
abbrev I.cooperagelaw21_alive : FuncId := 14
noncomputable abbrev F.cooperagelaw21_alive : Func := Proofs.Tryd.f14
theorem G.cooperagelaw21_alive : P0.funcs[14]? = some F.cooperagelaw21_alive := Proofs.Tryd.func14
theorem C.cooperagelaw21_alive : Called P0 14 := ⟨_, G.cooperagelaw21_alive, by kernel_rfl, by kernel_rfl⟩
def H.cooperagelaw21_alive : Hint := { nt := 15, lg := [], vs := [], nh := [], join := [(1, 0)], loops := [], jc := [] }
noncomputable abbrev B.cooperagelaw21_alive : Code := (F.cooperagelaw21_alive.body).getD .skip
theorem Bd.cooperagelaw21_alive : F.cooperagelaw21_alive.body = some B.cooperagelaw21_alive := by kernel_rfl
abbrev I.cooperagelaw10_Big : FuncId := 15
noncomputable abbrev F.cooperagelaw10_Big : Func := Proofs.Tryd.f15
theorem G.cooperagelaw10_Big : P0.funcs[15]? = some F.cooperagelaw10_Big := Proofs.Tryd.func15
theorem C.cooperagelaw10_Big : Called P0 15 := ⟨_, G.cooperagelaw10_Big, by kernel_rfl, by kernel_rfl⟩
def H.cooperagelaw10_Big : Hint := { nt := 43, lg := [], vs := [], nh := [], join := [(2, 12), (4, 32), (6, 2)], loops := [(2, [1, 2, 3])], jc := [] }
noncomputable abbrev B.cooperagelaw10_Big : Code := (F.cooperagelaw10_Big.body).getD .skip
theorem Bd.cooperagelaw10_Big : F.cooperagelaw10_Big.body = some B.cooperagelaw10_Big := by kernel_rfl
noncomputable abbrev L.cooperagelaw10_Big_2 : Code := findL 2 (loopsIn B.cooperagelaw10_Big)
abbrev V.cooperagelaw10_Big_2 : List Nat := (lk? H.cooperagelaw10_Big.loops 2).getD []
abbrev I.cooperagelaw21_num : FuncId := 16
noncomputable abbrev F.cooperagelaw21_num : Func := Proofs.Tryd.f16
theorem G.cooperagelaw21_num : P0.funcs[16]? = some F.cooperagelaw21_num := Proofs.Tryd.func16
theorem C.cooperagelaw21_num : Called P0 16 := ⟨_, G.cooperagelaw21_num, by kernel_rfl, by kernel_rfl⟩
def H.cooperagelaw21_num : Hint := { nt := 4, lg := [], vs := [], nh := [], join := [], loops := [], jc := [] }
noncomputable abbrev B.cooperagelaw21_num : Code := (F.cooperagelaw21_num.body).getD .skip
theorem Bd.cooperagelaw21_num : F.cooperagelaw21_num.body = some B.cooperagelaw21_num := by kernel_rfl
abbrev I.service_Check : FuncId := 17
noncomputable abbrev F.service_Check : Func := Proofs.Tryd.f17
theorem G.service_Check : P0.funcs[17]? = some F.service_Check := Proofs.Tryd.func17
theorem C.service_Check : Called P0 17 := ⟨_, G.service_Check, by kernel_rfl, by kernel_rfl⟩
def H.service_Check : Hint := { nt := 28, lg := [], vs := [], nh := [], join := [(3, 8)], loops := [], jc := [] }
noncomputable abbrev B.service_Check : Code := (F.service_Check.body).getD .skip
theorem Bd.service_Check : F.service_Check.body = some B.service_Check := by kernel_rfl
abbrev I.cooperageref10_Check : FuncId := 18
noncomputable abbrev F.cooperageref10_Check : Func := Proofs.Tryd.f18
theorem G.cooperageref10_Check : P0.funcs[18]? = some F.cooperageref10_Check := Proofs.Tryd.func18
theorem C.cooperageref10_Check : Called P0 18 := ⟨_, G.cooperageref10_Check, by kernel_rfl, by kernel_rfl⟩
def H.cooperageref10_Check : Hint := { nt := 84, lg := [], vs := [], nh := [], join := [(9, 26), (17, 58), (19, 66), (21, 80)], loops := [(15, [1, 2, 3])], jc := [(3, [(6, .bool)])] }
noncomputable abbrev B.cooperageref10_Check : Code := (F.cooperageref10_Check.body).getD .skip
theorem Bd.cooperageref10_Check : F.cooperageref10_Check.body = some B.cooperageref10_Check := by kernel_rfl
noncomputable abbrev L.cooperageref10_Check_15 : Code := findL 15 (loopsIn B.cooperageref10_Check)
abbrev V.cooperageref10_Check_15 : List Nat := (lk? H.cooperageref10_Check.loops 15).getD []
abbrev I.service_Changes : FuncId := 19
noncomputable abbrev F.service_Changes : Func := Proofs.Tryd.f19
theorem G.service_Changes : P0.funcs[19]? = some F.service_Changes := Proofs.Tryd.func19
theorem C.service_Changes : Called P0 19 := ⟨_, G.service_Changes, by kernel_rfl, by kernel_rfl⟩
def H.service_Changes : Hint := { nt := 16, lg := [], vs := [], nh := [], join := [(1, 2)], loops := [], jc := [] }
noncomputable abbrev B.service_Changes : Code := (F.service_Changes.body).getD .skip
theorem Bd.service_Changes : F.service_Changes.body = some B.service_Changes := by kernel_rfl
abbrev I.cooperageref10_Right : FuncId := 20
noncomputable abbrev F.cooperageref10_Right : Func := Proofs.Tryd.f20
theorem G.cooperageref10_Right : P0.funcs[20]? = some F.cooperageref10_Right := Proofs.Tryd.func20
theorem C.cooperageref10_Right : Called P0 20 := ⟨_, G.cooperageref10_Right, by kernel_rfl, by kernel_rfl⟩
def H.cooperageref10_Right : Hint := { nt := 161, lg := [], vs := [], nh := [], join := [(9, 46), (14, 69), (18, 2), (20, 2), (27, 2), (29, 2), (31, 2)], loops := [(12, [1, 2, 3])], jc := [(4, [(9, .bool)]), (23, [(100, .bool)])] }
noncomputable abbrev B.cooperageref10_Right : Code := (F.cooperageref10_Right.body).getD .skip
theorem Bd.cooperageref10_Right : F.cooperageref10_Right.body = some B.cooperageref10_Right := by kernel_rfl
noncomputable abbrev L.cooperageref10_Right_12 : Code := findL 12 (loopsIn B.cooperageref10_Right)
abbrev V.cooperageref10_Right_12 : List Nat := (lk? H.cooperageref10_Right.loops 12).getD []
abbrev I.cooperagelaw10_alive : FuncId := 21
noncomputable abbrev F.cooperagelaw10_alive : Func := Proofs.Tryd.f21
theorem G.cooperagelaw10_alive : P0.funcs[21]? = some F.cooperagelaw10_alive := Proofs.Tryd.func21
theorem C.cooperagelaw10_alive : Called P0 21 := ⟨_, G.cooperagelaw10_alive, by kernel_rfl, by kernel_rfl⟩
def H.cooperagelaw10_alive : Hint := { nt := 35, lg := [], vs := [], nh := [], join := [(4, 0)], loops := [], jc := [] }
noncomputable abbrev B.cooperagelaw10_alive : Code := (F.cooperagelaw10_alive.body).getD .skip
theorem Bd.cooperagelaw10_alive : F.cooperagelaw10_alive.body = some B.cooperagelaw10_alive := by kernel_rfl
abbrev I.command_Right : FuncId := 22
noncomputable abbrev F.command_Right : Func := Proofs.Tryd.f22
theorem G.command_Right : P0.funcs[22]? = some F.command_Right := Proofs.Tryd.func22
theorem C.command_Right : Called P0 22 := ⟨_, G.command_Right, by kernel_rfl, by kernel_rfl⟩
def H.command_Right : Hint := { nt := 96, lg := [], vs := [], nh := [], join := [(2, 19), (8, 2), (10, 2), (12, 2), (18, 2), (19, 2)], loops := [], jc := [] }
noncomputable abbrev B.command_Right : Code := (F.command_Right.body).getD .skip
theorem Bd.command_Right : F.command_Right.body = some B.command_Right := by kernel_rfl
abbrev I.command_Bytes : FuncId := 23
noncomputable abbrev F.command_Bytes : Func := Proofs.Tryd.f23
theorem G.command_Bytes : P0.funcs[23]? = some F.command_Bytes := Proofs.Tryd.func23
theorem C.command_Bytes : Called P0 23 := ⟨_, G.command_Bytes, by kernel_rfl, by kernel_rfl⟩
def H.command_Bytes : Hint := { nt := 23, lg := [], vs := [2, 3], nh := [], join := [], loops := [(5, [3, 12, 13, 14])], jc := [] }
noncomputable abbrev B.command_Bytes : Code := (F.command_Bytes.body).getD .skip
theorem Bd.command_Bytes : F.command_Bytes.body = some B.command_Bytes := by kernel_rfl
noncomputable abbrev L.command_Bytes_5 : Code := findL 5 (loopsIn B.command_Bytes)
abbrev V.command_Bytes_5 : List Nat := (lk? H.command_Bytes.loops 5).getD []
abbrev I.command_Read : FuncId := 24
noncomputable abbrev F.command_Read : Func := Proofs.Tryd.f24
theorem G.command_Read : P0.funcs[24]? = some F.command_Read := Proofs.Tryd.func24
theorem C.command_Read : Called P0 24 := ⟨_, G.command_Read, by kernel_rfl, by kernel_rfl⟩
def H.command_Read : Hint := { nt := 40, lg := [(12, 36)], vs := [], nh := [], join := [], loops := [(4, [0, 2, 4, 5, 13, 14, 15])], jc := [] }
noncomputable abbrev B.command_Read : Code := (F.command_Read.body).getD .skip
theorem Bd.command_Read : F.command_Read.body = some B.command_Read := by kernel_rfl
noncomputable abbrev L.command_Read_4 : Code := findL 4 (loopsIn B.command_Read)
abbrev V.command_Read_4 : List Nat := (lk? H.command_Read.loops 4).getD []
abbrev I.cooperagelaw10_num : FuncId := 25
noncomputable abbrev F.cooperagelaw10_num : Func := Proofs.Tryd.f25
theorem G.cooperagelaw10_num : P0.funcs[25]? = some F.cooperagelaw10_num := Proofs.Tryd.func25
theorem C.cooperagelaw10_num : Called P0 25 := ⟨_, G.cooperagelaw10_num, by kernel_rfl, by kernel_rfl⟩
def H.cooperagelaw10_num : Hint := { nt := 4, lg := [], vs := [], nh := [], join := [], loops := [], jc := [] }
noncomputable abbrev B.cooperagelaw10_num : Code := (F.cooperagelaw10_num.body).getD .skip
theorem Bd.cooperagelaw10_num : F.cooperagelaw10_num.body = some B.cooperagelaw10_num := by kernel_rfl
abbrev I.cooperageref10_Same : FuncId := 26
noncomputable abbrev F.cooperageref10_Same : Func := Proofs.Tryd.f26
theorem G.cooperageref10_Same : P0.funcs[26]? = some F.cooperageref10_Same := Proofs.Tryd.func26
theorem C.cooperageref10_Same : Called P0 26 := ⟨_, G.cooperageref10_Same, by kernel_rfl, by kernel_rfl⟩
def H.cooperageref10_Same : Hint := { nt := 73, lg := [], vs := [], nh := [], join := [(1, 4)], loops := [], jc := [] }
noncomputable abbrev B.cooperageref10_Same : Code := (F.cooperageref10_Same.body).getD .skip
theorem Bd.cooperageref10_Same : F.cooperageref10_Same.body = some B.cooperageref10_Same := by kernel_rfl
abbrev I.command_Same : FuncId := 27
noncomputable abbrev F.command_Same : Func := Proofs.Tryd.f27
theorem G.command_Same : P0.funcs[27]? = some F.command_Same := Proofs.Tryd.func27
theorem C.command_Same : Called P0 27 := ⟨_, G.command_Same, by kernel_rfl, by kernel_rfl⟩
def H.command_Same : Hint := { nt := 73, lg := [], vs := [], nh := [], join := [(1, 4)], loops := [], jc := [] }
noncomputable abbrev B.command_Same : Code := (F.command_Same.body).getD .skip
theorem Bd.command_Same : F.command_Same.body = some B.command_Same := by kernel_rfl
abbrev I.cooperagelaw19_alive : FuncId := 28
noncomputable abbrev F.cooperagelaw19_alive : Func := Proofs.Tryd.f28
theorem G.cooperagelaw19_alive : P0.funcs[28]? = some F.cooperagelaw19_alive := Proofs.Tryd.func28
theorem C.cooperagelaw19_alive : Called P0 28 := ⟨_, G.cooperagelaw19_alive, by kernel_rfl, by kernel_rfl⟩
def H.cooperagelaw19_alive : Hint := { nt := 35, lg := [], vs := [], nh := [], join := [(4, 0)], loops := [], jc := [] }
noncomputable abbrev B.cooperagelaw19_alive : Code := (F.cooperagelaw19_alive.body).getD .skip
theorem Bd.cooperagelaw19_alive : F.cooperagelaw19_alive.body = some B.cooperagelaw19_alive := by kernel_rfl
abbrev I.cooperagelaw19_Big : FuncId := 29
noncomputable abbrev F.cooperagelaw19_Big : Func := Proofs.Tryd.f29
theorem G.cooperagelaw19_Big : P0.funcs[29]? = some F.cooperagelaw19_Big := Proofs.Tryd.func29
theorem C.cooperagelaw19_Big : Called P0 29 := ⟨_, G.cooperagelaw19_Big, by kernel_rfl, by kernel_rfl⟩
def H.cooperagelaw19_Big : Hint := { nt := 39, lg := [], vs := [], nh := [], join := [(5, 34)], loops := [(2, [1, 2, 3])], jc := [] }
noncomputable abbrev B.cooperagelaw19_Big : Code := (F.cooperagelaw19_Big.body).getD .skip
theorem Bd.cooperagelaw19_Big : F.cooperagelaw19_Big.body = some B.cooperagelaw19_Big := by kernel_rfl
noncomputable abbrev L.cooperagelaw19_Big_2 : Code := findL 2 (loopsIn B.cooperagelaw19_Big)
abbrev V.cooperagelaw19_Big_2 : List Nat := (lk? H.cooperagelaw19_Big.loops 2).getD []
abbrev I.wire_Right : FuncId := 30
noncomputable abbrev F.wire_Right : Func := Proofs.Tryd.f30
theorem G.wire_Right : P0.funcs[30]? = some F.wire_Right := Proofs.Tryd.func30
theorem C.wire_Right : Called P0 30 := ⟨_, G.wire_Right, by kernel_rfl, by kernel_rfl⟩
def H.wire_Right : Hint := { nt := 69, lg := [], vs := [], nh := [], join := [(2, 2)], loops := [], jc := [] }
noncomputable abbrev B.wire_Right : Code := (F.wire_Right.body).getD .skip
theorem Bd.wire_Right : F.wire_Right.body = some B.wire_Right := by kernel_rfl
abbrev I.wire_Bytes : FuncId := 31
noncomputable abbrev F.wire_Bytes : Func := Proofs.Tryd.f31
theorem G.wire_Bytes : P0.funcs[31]? = some F.wire_Bytes := Proofs.Tryd.func31
theorem C.wire_Bytes : Called P0 31 := ⟨_, G.wire_Bytes, by kernel_rfl, by kernel_rfl⟩
def H.wire_Bytes : Hint := { nt := 9, lg := [], vs := [2], nh := [], join := [], loops := [], jc := [] }
noncomputable abbrev B.wire_Bytes : Code := (F.wire_Bytes.body).getD .skip
theorem Bd.wire_Bytes : F.wire_Bytes.body = some B.wire_Bytes := by kernel_rfl
abbrev I.cooperagelaw19_right : FuncId := 32
noncomputable abbrev F.cooperagelaw19_right : Func := Proofs.Tryd.f32
theorem G.cooperagelaw19_right : P0.funcs[32]? = some F.cooperagelaw19_right := Proofs.Tryd.func32
theorem C.cooperagelaw19_right : Called P0 32 := ⟨_, G.cooperagelaw19_right, by kernel_rfl, by kernel_rfl⟩
def H.cooperagelaw19_right : Hint := { nt := 178, lg := [], vs := [], nh := [], join := [(2, 66), (4, 4), (5, 5), (8, 148), (15, 177)], loops := [(13, [1, 2, 8])], jc := [] }
noncomputable abbrev B.cooperagelaw19_right : Code := (F.cooperagelaw19_right.body).getD .skip
theorem Bd.cooperagelaw19_right : F.cooperagelaw19_right.body = some B.cooperagelaw19_right := by kernel_rfl
noncomputable abbrev L.cooperagelaw19_right_13 : Code := findL 13 (loopsIn B.cooperagelaw19_right)
abbrev V.cooperagelaw19_right_13 : List Nat := (lk? H.cooperagelaw19_right.loops 13).getD []
abbrev I.wire_Read : FuncId := 33
noncomputable abbrev F.wire_Read : Func := Proofs.Tryd.f33
theorem G.wire_Read : P0.funcs[33]? = some F.wire_Read := Proofs.Tryd.func33
theorem C.wire_Read : Called P0 33 := ⟨_, G.wire_Read, by kernel_rfl, by kernel_rfl⟩
def H.wire_Read : Hint := { nt := 56, lg := [], vs := [], nh := [], join := [], loops := [(7, [0, 2, 4, 5, 7, 8, 23, 24, 25])], jc := [] }
noncomputable abbrev B.wire_Read : Code := (F.wire_Read.body).getD .skip
theorem Bd.wire_Read : F.wire_Read.body = some B.wire_Read := by kernel_rfl
noncomputable abbrev L.wire_Read_7 : Code := findL 7 (loopsIn B.wire_Read)
abbrev V.wire_Read_7 : List Nat := (lk? H.wire_Read.loops 7).getD []
abbrev I.cooperageref1_GetFrame : FuncId := 34
noncomputable abbrev F.cooperageref1_GetFrame : Func := Proofs.Tryd.f34
theorem G.cooperageref1_GetFrame : P0.funcs[34]? = some F.cooperageref1_GetFrame := Proofs.Tryd.func34
theorem C.cooperageref1_GetFrame : Called P0 34 := ⟨_, G.cooperageref1_GetFrame, by kernel_rfl, by kernel_rfl⟩
def H.cooperageref1_GetFrame : Hint := { nt := 78, lg := [], vs := [2], nh := [], join := [], loops := [], jc := [] }
noncomputable abbrev B.cooperageref1_GetFrame : Code := (F.cooperageref1_GetFrame.body).getD .skip
theorem Bd.cooperageref1_GetFrame : F.cooperageref1_GetFrame.body = some B.cooperageref1_GetFrame := by kernel_rfl
abbrev I.cooperagelaw19_num : FuncId := 35
noncomputable abbrev F.cooperagelaw19_num : Func := Proofs.Tryd.f35
theorem G.cooperagelaw19_num : P0.funcs[35]? = some F.cooperagelaw19_num := Proofs.Tryd.func35
theorem C.cooperagelaw19_num : Called P0 35 := ⟨_, G.cooperagelaw19_num, by kernel_rfl, by kernel_rfl⟩
def H.cooperagelaw19_num : Hint := { nt := 4, lg := [], vs := [], nh := [], join := [], loops := [], jc := [] }
noncomputable abbrev B.cooperagelaw19_num : Code := (F.cooperagelaw19_num.body).getD .skip
theorem Bd.cooperagelaw19_num : F.cooperagelaw19_num.body = some B.cooperagelaw19_num := by kernel_rfl
abbrev I.cooperageref17_SameMessage : FuncId := 36
noncomputable abbrev F.cooperageref17_SameMessage : Func := Proofs.Tryd.f36
theorem G.cooperageref17_SameMessage : P0.funcs[36]? = some F.cooperageref17_SameMessage := Proofs.Tryd.func36
theorem C.cooperageref17_SameMessage : Called P0 36 := ⟨_, G.cooperageref17_SameMessage, by kernel_rfl, by kernel_rfl⟩
def H.cooperageref17_SameMessage : Hint := { nt := 73, lg := [], vs := [], nh := [], join := [(1, 4)], loops := [], jc := [] }
noncomputable abbrev B.cooperageref17_SameMessage : Code := (F.cooperageref17_SameMessage.body).getD .skip
theorem Bd.cooperageref17_SameMessage : F.cooperageref17_SameMessage.body = some B.cooperageref17_SameMessage := by kernel_rfl
abbrev I.cooperageref1_PutFrame : FuncId := 37
noncomputable abbrev F.cooperageref1_PutFrame : Func := Proofs.Tryd.f37
theorem G.cooperageref1_PutFrame : P0.funcs[37]? = some F.cooperageref1_PutFrame := Proofs.Tryd.func37
theorem C.cooperageref1_PutFrame : Called P0 37 := ⟨_, G.cooperageref1_PutFrame, by kernel_rfl, by kernel_rfl⟩
def H.cooperageref1_PutFrame : Hint := { nt := 30, lg := [], vs := [4], nh := [], join := [], loops := [], jc := [] }
noncomputable abbrev B.cooperageref1_PutFrame : Code := (F.cooperageref1_PutFrame.body).getD .skip
theorem Bd.cooperageref1_PutFrame : F.cooperageref1_PutFrame.body = some B.cooperageref1_PutFrame := by kernel_rfl
abbrev I.wire_Same : FuncId := 38
noncomputable abbrev F.wire_Same : Func := Proofs.Tryd.f38
theorem G.wire_Same : P0.funcs[38]? = some F.wire_Same := Proofs.Tryd.func38
theorem C.wire_Same : Called P0 38 := ⟨_, G.wire_Same, by kernel_rfl, by kernel_rfl⟩
def H.wire_Same : Hint := { nt := 80, lg := [], vs := [], nh := [], join := [(1, 4)], loops := [], jc := [] }
noncomputable abbrev B.wire_Same : Code := (F.wire_Same.body).getD .skip
theorem Bd.wire_Same : F.wire_Same.body = some B.wire_Same := by kernel_rfl
abbrev I.service_asked : FuncId := 39
noncomputable abbrev F.service_asked : Func := Proofs.Tryd.f39
theorem G.service_asked : P0.funcs[39]? = some F.service_asked := Proofs.Tryd.func39
theorem C.service_asked : Called P0 39 := ⟨_, G.service_asked, by kernel_rfl, by kernel_rfl⟩
def H.service_asked : Hint := { nt := 9, lg := [], vs := [], nh := [], join := [(1, 2)], loops := [], jc := [] }
noncomputable abbrev B.service_asked : Code := (F.service_asked.body).getD .skip
theorem Bd.service_asked : F.service_asked.body = some B.service_asked := by kernel_rfl
abbrev I.service_named : FuncId := 40
noncomputable abbrev F.service_named : Func := Proofs.Tryd.f40
theorem G.service_named : P0.funcs[40]? = some F.service_named := Proofs.Tryd.func40
theorem C.service_named : Called P0 40 := ⟨_, G.service_named, by kernel_rfl, by kernel_rfl⟩
def H.service_named : Hint := { nt := 9, lg := [], vs := [], nh := [], join := [(1, 2)], loops := [], jc := [] }
noncomputable abbrev B.service_named : Code := (F.service_named.body).getD .skip
theorem Bd.service_named : F.service_named.body = some B.service_named := by kernel_rfl
abbrev I.names_Valid : FuncId := 41
noncomputable abbrev F.names_Valid : Func := Proofs.Tryd.f41
theorem G.names_Valid : P0.funcs[41]? = some F.names_Valid := Proofs.Tryd.func41
theorem C.names_Valid : Called P0 41 := ⟨_, G.names_Valid, by kernel_rfl, by kernel_rfl⟩
def H.names_Valid : Hint := { nt := 34, lg := [], vs := [], nh := [], join := [(5, 21), (8, 2)], loops := [(3, [0, 2, 3, 7])], jc := [] }
noncomputable abbrev B.names_Valid : Code := (F.names_Valid.body).getD .skip
theorem Bd.names_Valid : F.names_Valid.body = some B.names_Valid := by kernel_rfl
noncomputable abbrev L.names_Valid_3 : Code := findL 3 (loopsIn B.names_Valid)
abbrev V.names_Valid_3 : List Nat := (lk? H.names_Valid.loops 3).getD []
abbrev I.service_long : FuncId := 42
noncomputable abbrev F.service_long : Func := Proofs.Tryd.f42
theorem G.service_long : P0.funcs[42]? = some F.service_long := Proofs.Tryd.func42
theorem C.service_long : Called P0 42 := ⟨_, G.service_long, by kernel_rfl, by kernel_rfl⟩
def H.service_long : Hint := { nt := 23, lg := [], vs := [], nh := [], join := [(3, 2)], loops := [], jc := [] }
noncomputable abbrev B.service_long : Code := (F.service_long.body).getD .skip
theorem Bd.service_long : F.service_long.body = some B.service_long := by kernel_rfl
abbrev I.service_out : FuncId := 43
noncomputable abbrev F.service_out : Func := Proofs.Tryd.f43
theorem G.service_out : P0.funcs[43]? = some F.service_out := Proofs.Tryd.func43
theorem C.service_out : Called P0 43 := ⟨_, G.service_out, by kernel_rfl, by kernel_rfl⟩
def H.service_out : Hint := { nt := 21, lg := [], vs := [], nh := [], join := [(1, 2)], loops := [], jc := [] }
noncomputable abbrev B.service_out : Code := (F.service_out.body).getD .skip
theorem Bd.service_out : F.service_out.body = some B.service_out := by kernel_rfl
abbrev I.cooperageref1_Valid : FuncId := 44
noncomputable abbrev F.cooperageref1_Valid : Func := Proofs.Tryd.f44
theorem G.cooperageref1_Valid : P0.funcs[44]? = some F.cooperageref1_Valid := Proofs.Tryd.func44
theorem C.cooperageref1_Valid : Called P0 44 := ⟨_, G.cooperageref1_Valid, by kernel_rfl, by kernel_rfl⟩
def H.cooperageref1_Valid : Hint := { nt := 88, lg := [], vs := [], nh := [], join := [(5, 8), (6, 9), (7, 10), (8, 76), (12, 2)], loops := [(3, [0, 2, 3, 4])], jc := [] }
noncomputable abbrev B.cooperageref1_Valid : Code := (F.cooperageref1_Valid.body).getD .skip
theorem Bd.cooperageref1_Valid : F.cooperageref1_Valid.body = some B.cooperageref1_Valid := by kernel_rfl
noncomputable abbrev L.cooperageref1_Valid_3 : Code := findL 3 (loopsIn B.cooperageref1_Valid)
abbrev V.cooperageref1_Valid_3 : List Nat := (lk? H.cooperageref1_Valid.loops 3).getD []
abbrev I.cooperageref10_within : FuncId := 45
noncomputable abbrev F.cooperageref10_within : Func := Proofs.Tryd.f45
theorem G.cooperageref10_within : P0.funcs[45]? = some F.cooperageref10_within := Proofs.Tryd.func45
theorem C.cooperageref10_within : Called P0 45 := ⟨_, G.cooperageref10_within, by kernel_rfl, by kernel_rfl⟩
def H.cooperageref10_within : Hint := { nt := 12, lg := [], vs := [], nh := [], join := [(1, 4)], loops := [], jc := [] }
noncomputable abbrev B.cooperageref10_within : Code := (F.cooperageref10_within.body).getD .skip
theorem Bd.cooperageref10_within : F.cooperageref10_within.body = some B.cooperageref10_within := by kernel_rfl
abbrev I.cooperageref10_plain : FuncId := 46
noncomputable abbrev F.cooperageref10_plain : Func := Proofs.Tryd.f46
theorem G.cooperageref10_plain : P0.funcs[46]? = some F.cooperageref10_plain := Proofs.Tryd.func46
theorem C.cooperageref10_plain : Called P0 46 := ⟨_, G.cooperageref10_plain, by kernel_rfl, by kernel_rfl⟩
def H.cooperageref10_plain : Hint := { nt := 126, lg := [], vs := [], nh := [], join := [(3, 5), (4, 6), (5, 7), (7, 79), (9, 117), (11, 2)], loops := [], jc := [] }
noncomputable abbrev B.cooperageref10_plain : Code := (F.cooperageref10_plain.body).getD .skip
theorem Bd.cooperageref10_plain : F.cooperageref10_plain.body = some B.cooperageref10_plain := by kernel_rfl
abbrev I.cooperageref1_Right : FuncId := 47
noncomputable abbrev F.cooperageref1_Right : Func := Proofs.Tryd.f47
theorem G.cooperageref1_Right : P0.funcs[47]? = some F.cooperageref1_Right := Proofs.Tryd.func47
theorem C.cooperageref1_Right : Called P0 47 := ⟨_, G.cooperageref1_Right, by kernel_rfl, by kernel_rfl⟩
def H.cooperageref1_Right : Hint := { nt := 49, lg := [], vs := [], nh := [], join := [(1, 2)], loops := [], jc := [] }
noncomputable abbrev B.cooperageref1_Right : Code := (F.cooperageref1_Right.body).getD .skip
theorem Bd.cooperageref1_Right : F.cooperageref1_Right.body = some B.cooperageref1_Right := by kernel_rfl
abbrev I.cooperageref10_time : FuncId := 48
noncomputable abbrev F.cooperageref10_time : Func := Proofs.Tryd.f48
theorem G.cooperageref10_time : P0.funcs[48]? = some F.cooperageref10_time := Proofs.Tryd.func48
theorem C.cooperageref10_time : Called P0 48 := ⟨_, G.cooperageref10_time, by kernel_rfl, by kernel_rfl⟩
def H.cooperageref10_time : Hint := { nt := 9, lg := [], vs := [], nh := [], join := [(1, 2)], loops := [], jc := [] }
noncomputable abbrev B.cooperageref10_time : Code := (F.cooperageref10_time.body).getD .skip
theorem Bd.cooperageref10_time : F.cooperageref10_time.body = some B.cooperageref10_time := by kernel_rfl
abbrev I.command_bare : FuncId := 49
noncomputable abbrev F.command_bare : Func := Proofs.Tryd.f49
theorem G.command_bare : P0.funcs[49]? = some F.command_bare := Proofs.Tryd.func49
theorem C.command_bare : Called P0 49 := ⟨_, G.command_bare, by kernel_rfl, by kernel_rfl⟩
def H.command_bare : Hint := { nt := 81, lg := [], vs := [], nh := [], join := [], loops := [], jc := [(4, [(11, .bool)]), (15, [(47, .bool)])] }
noncomputable abbrev B.command_bare : Code := (F.command_bare.body).getD .skip
theorem Bd.command_bare : F.command_bare.body = some B.command_bare := by kernel_rfl
abbrev I.command_within : FuncId := 50
noncomputable abbrev F.command_within : Func := Proofs.Tryd.f50
theorem G.command_within : P0.funcs[50]? = some F.command_within := Proofs.Tryd.func50
theorem C.command_within : Called P0 50 := ⟨_, G.command_within, by kernel_rfl, by kernel_rfl⟩
def H.command_within : Hint := { nt := 15, lg := [], vs := [], nh := [], join := [(1, 6)], loops := [], jc := [] }
noncomputable abbrev B.command_within : Code := (F.command_within.body).getD .skip
theorem Bd.command_within : F.command_within.body = some B.command_within := by kernel_rfl
abbrev I.command_records : FuncId := 51
noncomputable abbrev F.command_records : Func := Proofs.Tryd.f51
theorem G.command_records : P0.funcs[51]? = some F.command_records := Proofs.Tryd.func51
theorem C.command_records : Called P0 51 := ⟨_, G.command_records, by kernel_rfl, by kernel_rfl⟩
def H.command_records : Hint := { nt := 11, lg := [], vs := [], nh := [], join := [(1, 2)], loops := [], jc := [] }
noncomputable abbrev B.command_records : Code := (F.command_records.body).getD .skip
theorem Bd.command_records : F.command_records.body = some B.command_records := by kernel_rfl
abbrev I.command_conf : FuncId := 52
noncomputable abbrev F.command_conf : Func := Proofs.Tryd.f52
theorem G.command_conf : P0.funcs[52]? = some F.command_conf := Proofs.Tryd.func52
theorem C.command_conf : Called P0 52 := ⟨_, G.command_conf, by kernel_rfl, by kernel_rfl⟩
def H.command_conf : Hint := { nt := 21, lg := [], vs := [], nh := [], join := [(1, 2)], loops := [], jc := [] }
noncomputable abbrev B.command_conf : Code := (F.command_conf.body).getD .skip
theorem Bd.command_conf : F.command_conf.body = some B.command_conf := by kernel_rfl
abbrev I.varint_PutInt : FuncId := 53
noncomputable abbrev F.varint_PutInt : Func := Proofs.Tryd.f53
theorem G.varint_PutInt : P0.funcs[53]? = some F.varint_PutInt := Proofs.Tryd.func53
theorem C.varint_PutInt : Called P0 53 := ⟨_, G.varint_PutInt, by kernel_rfl, by kernel_rfl⟩
def H.varint_PutInt : Hint := { nt := 9, lg := [], vs := [5], nh := [], join := [], loops := [], jc := [] }
noncomputable abbrev B.varint_PutInt : Code := (F.varint_PutInt.body).getD .skip
theorem Bd.varint_PutInt : F.varint_PutInt.body = some B.varint_PutInt := by kernel_rfl
abbrev I.command_fields : FuncId := 54
noncomputable abbrev F.command_fields : Func := Proofs.Tryd.f54
theorem G.command_fields : P0.funcs[54]? = some F.command_fields := Proofs.Tryd.func54
theorem C.command_fields : Called P0 54 := ⟨_, G.command_fields, by kernel_rfl, by kernel_rfl⟩
def H.command_fields : Hint := { nt := 96, lg := [], vs := [], nh := [], join := [], loops := [], jc := [(10, [(51, .bool)])] }
noncomputable abbrev B.command_fields : Code := (F.command_fields.body).getD .skip
theorem Bd.command_fields : F.command_fields.body = some B.command_fields := by kernel_rfl
abbrev I.command_put : FuncId := 55
noncomputable abbrev F.command_put : Func := Proofs.Tryd.f55
theorem G.command_put : P0.funcs[55]? = some F.command_put := Proofs.Tryd.func55
theorem C.command_put : Called P0 55 := ⟨_, G.command_put, by kernel_rfl, by kernel_rfl⟩
def H.command_put : Hint := { nt := 100, lg := [], vs := [0, 4], nh := [], join := [], loops := [(14, [0, 61, 62, 63]), (24, [0, 89, 90, 91])], jc := [] }
noncomputable abbrev B.command_put : Code := (F.command_put.body).getD .skip
theorem Bd.command_put : F.command_put.body = some B.command_put := by kernel_rfl
noncomputable abbrev L.command_put_14 : Code := findL 14 (loopsIn B.command_put)
noncomputable abbrev L.command_put_24 : Code := findL 24 (loopsIn B.command_put)
abbrev V.command_put_14 : List Nat := (lk? H.command_put.loops 14).getD []
abbrev V.command_put_24 : List Nat := (lk? H.command_put.loops 24).getD []
abbrev I.varint_NewReader : FuncId := 56
noncomputable abbrev F.varint_NewReader : Func := Proofs.Tryd.f56
theorem G.varint_NewReader : P0.funcs[56]? = some F.varint_NewReader := Proofs.Tryd.func56
theorem C.varint_NewReader : Called P0 56 := ⟨_, G.varint_NewReader, by kernel_rfl, by kernel_rfl⟩
def H.varint_NewReader : Hint := { nt := 6, lg := [], vs := [], nh := [], join := [], loops := [], jc := [] }
noncomputable abbrev B.varint_NewReader : Code := (F.varint_NewReader.body).getD .skip
theorem Bd.varint_NewReader : F.varint_NewReader.body = some B.varint_NewReader := by kernel_rfl
abbrev I.varint_Reader_Int : FuncId := 57
noncomputable abbrev F.varint_Reader_Int : Func := Proofs.Tryd.f57
theorem G.varint_Reader_Int : P0.funcs[57]? = some F.varint_Reader_Int := Proofs.Tryd.func57
theorem C.varint_Reader_Int : Called P0 57 := ⟨_, G.varint_Reader_Int, by kernel_rfl, by kernel_rfl⟩
def H.varint_Reader_Int : Hint := { nt := 6, lg := [], vs := [], nh := [], join := [], loops := [], jc := [] }
noncomputable abbrev B.varint_Reader_Int : Code := (F.varint_Reader_Int.body).getD .skip
theorem Bd.varint_Reader_Int : F.varint_Reader_Int.body = some B.varint_Reader_Int := by kernel_rfl
abbrev I.command_get : FuncId := 58
noncomputable abbrev F.command_get : Func := Proofs.Tryd.f58
theorem G.command_get : P0.funcs[58]? = some F.command_get := Proofs.Tryd.func58
theorem C.command_get : Called P0 58 := ⟨_, G.command_get, by kernel_rfl, by kernel_rfl⟩
def H.command_get : Hint := { nt := 80, lg := [], vs := [], nh := [], join := [], loops := [(16, [0, 8, 55, 56])], jc := [] }
noncomputable abbrev B.command_get : Code := (F.command_get.body).getD .skip
theorem Bd.command_get : F.command_get.body = some B.command_get := by kernel_rfl
noncomputable abbrev L.command_get_16 : Code := findL 16 (loopsIn B.command_get)
abbrev V.command_get_16 : List Nat := (lk? H.command_get.loops 16).getD []
abbrev I.varint_Reader_Over : FuncId := 59
noncomputable abbrev F.varint_Reader_Over : Func := Proofs.Tryd.f59
theorem G.varint_Reader_Over : P0.funcs[59]? = some F.varint_Reader_Over := Proofs.Tryd.func59
theorem C.varint_Reader_Over : Called P0 59 := ⟨_, G.varint_Reader_Over, by kernel_rfl, by kernel_rfl⟩
def H.varint_Reader_Over : Hint := { nt := 16, lg := [], vs := [], nh := [], join := [(1, 2)], loops := [], jc := [] }
noncomputable abbrev B.varint_Reader_Over : Code := (F.varint_Reader_Over.body).getD .skip
theorem Bd.varint_Reader_Over : F.varint_Reader_Over.body = some B.varint_Reader_Over := by kernel_rfl
abbrev I.bytes_Equal : FuncId := 60
noncomputable abbrev F.bytes_Equal : Func := Proofs.Tryd.f60
theorem G.bytes_Equal : P0.funcs[60]? = some F.bytes_Equal := Proofs.Tryd.func60
theorem C.bytes_Equal : Called P0 60 := ⟨_, G.bytes_Equal, by kernel_rfl, by kernel_rfl⟩
def H.bytes_Equal : Hint := { nt := 10, lg := [], vs := [], nh := [], join := [], loops := [], jc := [] }
noncomputable abbrev B.bytes_Equal : Code := (F.bytes_Equal.body).getD .skip
theorem Bd.bytes_Equal : F.bytes_Equal.body = some B.bytes_Equal := by kernel_rfl
abbrev I.cooperageref1_SameRecords : FuncId := 61
noncomputable abbrev F.cooperageref1_SameRecords : Func := Proofs.Tryd.f61
theorem G.cooperageref1_SameRecords : P0.funcs[61]? = some F.cooperageref1_SameRecords := Proofs.Tryd.func61
theorem C.cooperageref1_SameRecords : Called P0 61 := ⟨_, G.cooperageref1_SameRecords, by kernel_rfl, by kernel_rfl⟩
def H.cooperageref1_SameRecords : Hint := { nt := 26, lg := [], vs := [], nh := [], join := [], loops := [(4, [0, 1, 4, 5])], jc := [] }
noncomputable abbrev B.cooperageref1_SameRecords : Code := (F.cooperageref1_SameRecords.body).getD .skip
theorem Bd.cooperageref1_SameRecords : F.cooperageref1_SameRecords.body = some B.cooperageref1_SameRecords := by kernel_rfl
noncomputable abbrev L.cooperageref1_SameRecords_4 : Code := findL 4 (loopsIn B.cooperageref1_SameRecords)
abbrev V.cooperageref1_SameRecords_4 : List Nat := (lk? H.cooperageref1_SameRecords.loops 4).getD []
abbrev I.slices_Equal_api_Record_api_Record : FuncId := 62
noncomputable abbrev F.slices_Equal_api_Record_api_Record : Func := Proofs.Tryd.f62
theorem G.slices_Equal_api_Record_api_Record : P0.funcs[62]? = some F.slices_Equal_api_Record_api_Record := Proofs.Tryd.func62
theorem C.slices_Equal_api_Record_api_Record : Called P0 62 := ⟨_, G.slices_Equal_api_Record_api_Record, by kernel_rfl, by kernel_rfl⟩
def H.slices_Equal_api_Record_api_Record : Hint := { nt := 26, lg := [], vs := [], nh := [], join := [], loops := [(4, [0, 1, 4, 12, 13])], jc := [] }
noncomputable abbrev B.slices_Equal_api_Record_api_Record : Code := (F.slices_Equal_api_Record_api_Record.body).getD .skip
theorem Bd.slices_Equal_api_Record_api_Record : F.slices_Equal_api_Record_api_Record.body = some B.slices_Equal_api_Record_api_Record := by kernel_rfl
noncomputable abbrev L.slices_Equal_api_Record_api_Record_4 : Code := findL 4 (loopsIn B.slices_Equal_api_Record_api_Record)
abbrev V.slices_Equal_api_Record_api_Record_4 : List Nat := (lk? H.slices_Equal_api_Record_api_Record.loops 4).getD []
abbrev I.wire_bare : FuncId := 63
noncomputable abbrev F.wire_bare : Func := Proofs.Tryd.f63
theorem G.wire_bare : P0.funcs[63]? = some F.wire_bare := Proofs.Tryd.func63
theorem C.wire_bare : Called P0 63 := ⟨_, G.wire_bare, by kernel_rfl, by kernel_rfl⟩
def H.wire_bare : Hint := { nt := 66, lg := [], vs := [], nh := [], join := [], loops := [], jc := [(4, [(17, .bool)]), (7, [(26, .bool)])] }
noncomputable abbrev B.wire_bare : Code := (F.wire_bare.body).getD .skip
theorem Bd.wire_bare : F.wire_bare.body = some B.wire_bare := by kernel_rfl
abbrev I.wire_id : FuncId := 64
noncomputable abbrev F.wire_id : Func := Proofs.Tryd.f64
theorem G.wire_id : P0.funcs[64]? = some F.wire_id := Proofs.Tryd.func64
theorem C.wire_id : Called P0 64 := ⟨_, G.wire_id, by kernel_rfl, by kernel_rfl⟩
def H.wire_id : Hint := { nt := 9, lg := [], vs := [], nh := [], join := [(1, 2)], loops := [], jc := [] }
noncomputable abbrev B.wire_id : Code := (F.wire_id.body).getD .skip
theorem Bd.wire_id : F.wire_id.body = some B.wire_id := by kernel_rfl
abbrev I.wire_number : FuncId := 65
noncomputable abbrev F.wire_number : Func := Proofs.Tryd.f65
theorem G.wire_number : P0.funcs[65]? = some F.wire_number := Proofs.Tryd.func65
theorem C.wire_number : Called P0 65 := ⟨_, G.wire_number, by kernel_rfl, by kernel_rfl⟩
def H.wire_number : Hint := { nt := 9, lg := [], vs := [], nh := [], join := [(1, 2)], loops := [], jc := [] }
noncomputable abbrev B.wire_number : Code := (F.wire_number.body).getD .skip
theorem Bd.wire_number : F.wire_number.body = some B.wire_number := by kernel_rfl
abbrev I.slices_ContainsFunc_api_Entry_api_Entry : FuncId := 66
noncomputable abbrev F.slices_ContainsFunc_api_Entry_api_Entry : Func := Proofs.Tryd.f66
theorem G.slices_ContainsFunc_api_Entry_api_Entry : P0.funcs[66]? = some F.slices_ContainsFunc_api_Entry_api_Entry := Proofs.Tryd.func66
theorem C.slices_ContainsFunc_api_Entry_api_Entry : Called P0 66 := ⟨_, G.slices_ContainsFunc_api_Entry_api_Entry, by kernel_rfl, by kernel_rfl⟩
def H.slices_ContainsFunc_api_Entry_api_Entry : Hint := { nt := 9, lg := [], vs := [], nh := [], join := [], loops := [], jc := [] }
noncomputable abbrev B.slices_ContainsFunc_api_Entry_api_Entry : Code := (F.slices_ContainsFunc_api_Entry_api_Entry.body).getD .skip
theorem Bd.slices_ContainsFunc_api_Entry_api_Entry : F.slices_ContainsFunc_api_Entry_api_Entry.body = some B.slices_ContainsFunc_api_Entry_api_Entry := by kernel_rfl
abbrev I.wire_Right_1 : FuncId := 67
noncomputable abbrev F.wire_Right_1 : Func := Proofs.Tryd.f67
theorem G.wire_Right_1 : P0.funcs[67]? = some F.wire_Right_1 := Proofs.Tryd.func67
theorem C.wire_Right_1 : Called P0 67 := ⟨_, G.wire_Right_1, by kernel_rfl, by kernel_rfl⟩
def H.wire_Right_1 : Hint := { nt := 13, lg := [], vs := [], nh := [], join := [(1, 2)], loops := [], jc := [] }
noncomputable abbrev B.wire_Right_1 : Code := (F.wire_Right_1.body).getD .skip
theorem Bd.wire_Right_1 : F.wire_Right_1.body = some B.wire_Right_1 := by kernel_rfl
abbrev I.frame_Put : FuncId := 68
noncomputable abbrev F.frame_Put : Func := Proofs.Tryd.f68
theorem G.frame_Put : P0.funcs[68]? = some F.frame_Put := Proofs.Tryd.func68
theorem C.frame_Put : Called P0 68 := ⟨_, G.frame_Put, by kernel_rfl, by kernel_rfl⟩
def H.frame_Put : Hint := { nt := 18, lg := [], vs := [4], nh := [], join := [], loops := [], jc := [] }
noncomputable abbrev B.frame_Put : Code := (F.frame_Put.body).getD .skip
theorem Bd.frame_Put : F.frame_Put.body = some B.frame_Put := by kernel_rfl
abbrev I.wire_piece : FuncId := 69
noncomputable abbrev F.wire_piece : Func := Proofs.Tryd.f69
theorem G.wire_piece : P0.funcs[69]? = some F.wire_piece := Proofs.Tryd.func69
theorem C.wire_piece : Called P0 69 := ⟨_, G.wire_piece, by kernel_rfl, by kernel_rfl⟩
def H.wire_piece : Hint := { nt := 17, lg := [], vs := [2], nh := [(3, 5)], join := [], loops := [(3, [3, 6, 7, 8])], jc := [] }
noncomputable abbrev B.wire_piece : Code := (F.wire_piece.body).getD .skip
theorem Bd.wire_piece : F.wire_piece.body = some B.wire_piece := by kernel_rfl
noncomputable abbrev L.wire_piece_3 : Code := findL 3 (loopsIn B.wire_piece)
abbrev V.wire_piece_3 : List Nat := (lk? H.wire_piece.loops 3).getD []
abbrev I.cooperagelaw19_within : FuncId := 70
noncomputable abbrev F.cooperagelaw19_within : Func := Proofs.Tryd.f70
theorem G.cooperagelaw19_within : P0.funcs[70]? = some F.cooperagelaw19_within := Proofs.Tryd.func70
theorem C.cooperagelaw19_within : Called P0 70 := ⟨_, G.cooperagelaw19_within, by kernel_rfl, by kernel_rfl⟩
def H.cooperagelaw19_within : Hint := { nt := 9, lg := [], vs := [], nh := [], join := [(1, 2)], loops := [], jc := [] }
noncomputable abbrev B.cooperagelaw19_within : Code := (F.cooperagelaw19_within.body).getD .skip
theorem Bd.cooperagelaw19_within : F.cooperagelaw19_within.body = some B.cooperagelaw19_within := by kernel_rfl
abbrev I.frame_Get : FuncId := 71
noncomputable abbrev F.frame_Get : Func := Proofs.Tryd.f71
theorem G.frame_Get : P0.funcs[71]? = some F.frame_Get := Proofs.Tryd.func71
theorem C.frame_Get : Called P0 71 := ⟨_, G.frame_Get, by kernel_rfl, by kernel_rfl⟩
def H.frame_Get : Hint := { nt := 55, lg := [], vs := [2, 10], nh := [], join := [], loops := [], jc := [] }
noncomputable abbrev B.frame_Get : Code := (F.frame_Get.body).getD .skip
theorem Bd.frame_Get : F.frame_Get.body = some B.frame_Get := by kernel_rfl
abbrev I.wire_fields : FuncId := 72
noncomputable abbrev F.wire_fields : Func := Proofs.Tryd.f72
theorem G.wire_fields : P0.funcs[72]? = some F.wire_fields := Proofs.Tryd.func72
theorem C.wire_fields : Called P0 72 := ⟨_, G.wire_fields, by kernel_rfl, by kernel_rfl⟩
def H.wire_fields : Hint := { nt := 48, lg := [], vs := [], nh := [], join := [], loops := [], jc := [] }
noncomputable abbrev B.wire_fields : Code := (F.wire_fields.body).getD .skip
theorem Bd.wire_fields : F.wire_fields.body = some B.wire_fields := by kernel_rfl
abbrev I.wire_get : FuncId := 73
noncomputable abbrev F.wire_get : Func := Proofs.Tryd.f73
theorem G.wire_get : P0.funcs[73]? = some F.wire_get := Proofs.Tryd.func73
theorem C.wire_get : Called P0 73 := ⟨_, G.wire_get, by kernel_rfl, by kernel_rfl⟩
def H.wire_get : Hint := { nt := 43, lg := [], vs := [], nh := [], join := [], loops := [], jc := [] }
noncomputable abbrev B.wire_get : Code := (F.wire_get.body).getD .skip
theorem Bd.wire_get : F.wire_get.body = some B.wire_get := by kernel_rfl
abbrev I.cooperageref1_Get : FuncId := 74
noncomputable abbrev F.cooperageref1_Get : Func := Proofs.Tryd.f74
theorem G.cooperageref1_Get : P0.funcs[74]? = some F.cooperageref1_Get := Proofs.Tryd.func74
theorem C.cooperageref1_Get : Called P0 74 := ⟨_, G.cooperageref1_Get, by kernel_rfl, by kernel_rfl⟩
def H.cooperageref1_Get : Hint := { nt := 44, lg := [], vs := [], nh := [], join := [(6, 23), (10, 40)], loops := [(3, [0, 2, 3, 4, 5, 6])], jc := [] }
noncomputable abbrev B.cooperageref1_Get : Code := (F.cooperageref1_Get.body).getD .skip
theorem Bd.cooperageref1_Get : F.cooperageref1_Get.body = some B.cooperageref1_Get := by kernel_rfl
noncomputable abbrev L.cooperageref1_Get_3 : Code := findL 3 (loopsIn B.cooperageref1_Get)
abbrev V.cooperageref1_Get_3 : List Nat := (lk? H.cooperageref1_Get.loops 3).getD []
abbrev I.cooperageref1_Sum : FuncId := 75
noncomputable abbrev F.cooperageref1_Sum : Func := Proofs.Tryd.f75
theorem G.cooperageref1_Sum : P0.funcs[75]? = some F.cooperageref1_Sum := Proofs.Tryd.func75
theorem C.cooperageref1_Sum : Called P0 75 := ⟨_, G.cooperageref1_Sum, by kernel_rfl, by kernel_rfl⟩
def H.cooperageref1_Sum : Hint := { nt := 5, lg := [], vs := [], nh := [], join := [], loops := [], jc := [] }
noncomputable abbrev B.cooperageref1_Sum : Code := (F.cooperageref1_Sum.body).getD .skip
theorem Bd.cooperageref1_Sum : F.cooperageref1_Sum.body = some B.cooperageref1_Sum := by kernel_rfl
abbrev I.cooperageref17_SameEntries : FuncId := 76
noncomputable abbrev F.cooperageref17_SameEntries : Func := Proofs.Tryd.f76
theorem G.cooperageref17_SameEntries : P0.funcs[76]? = some F.cooperageref17_SameEntries := Proofs.Tryd.func76
theorem C.cooperageref17_SameEntries : Called P0 76 := ⟨_, G.cooperageref17_SameEntries, by kernel_rfl, by kernel_rfl⟩
def H.cooperageref17_SameEntries : Hint := { nt := 42, lg := [], vs := [], nh := [], join := [(6, 41)], loops := [(4, [0, 1, 4, 5])], jc := [] }
noncomputable abbrev B.cooperageref17_SameEntries : Code := (F.cooperageref17_SameEntries.body).getD .skip
theorem Bd.cooperageref17_SameEntries : F.cooperageref17_SameEntries.body = some B.cooperageref17_SameEntries := by kernel_rfl
noncomputable abbrev L.cooperageref17_SameEntries_4 : Code := findL 4 (loopsIn B.cooperageref17_SameEntries)
abbrev V.cooperageref17_SameEntries_4 : List Nat := (lk? H.cooperageref17_SameEntries.loops 4).getD []
abbrev I.cooperageref1_Put : FuncId := 77
noncomputable abbrev F.cooperageref1_Put : Func := Proofs.Tryd.f77
theorem G.cooperageref1_Put : P0.funcs[77]? = some F.cooperageref1_Put := Proofs.Tryd.func77
theorem C.cooperageref1_Put : Called P0 77 := ⟨_, G.cooperageref1_Put, by kernel_rfl, by kernel_rfl⟩
def H.cooperageref1_Put : Hint := { nt := 23, lg := [], vs := [], nh := [], join := [], loops := [(2, [0, 1])], jc := [] }
noncomputable abbrev B.cooperageref1_Put : Code := (F.cooperageref1_Put.body).getD .skip
theorem Bd.cooperageref1_Put : F.cooperageref1_Put.body = some B.cooperageref1_Put := by kernel_rfl
noncomputable abbrev L.cooperageref1_Put_2 : Code := findL 2 (loopsIn B.cooperageref1_Put)
abbrev V.cooperageref1_Put_2 : List Nat := (lk? H.cooperageref1_Put.loops 2).getD []
abbrev I.slices_EqualFunc_api_Entry_api_Entry_api_Entry_api_Entry : FuncId := 78
noncomputable abbrev F.slices_EqualFunc_api_Entry_api_Entry_api_Entry_api_Entry : Func := Proofs.Tryd.f78
theorem G.slices_EqualFunc_api_Entry_api_Entry_api_Entry_api_Entry : P0.funcs[78]? = some F.slices_EqualFunc_api_Entry_api_Entry_api_Entry_api_Entry := Proofs.Tryd.func78
theorem C.slices_EqualFunc_api_Entry_api_Entry_api_Entry_api_Entry : Called P0 78 := ⟨_, G.slices_EqualFunc_api_Entry_api_Entry_api_Entry_api_Entry, by kernel_rfl, by kernel_rfl⟩
def H.slices_EqualFunc_api_Entry_api_Entry_api_Entry_api_Entry : Hint := { nt := 32, lg := [], vs := [], nh := [], join := [], loops := [(4, [1, 2, 6, 15, 16, 17])], jc := [] }
noncomputable abbrev B.slices_EqualFunc_api_Entry_api_Entry_api_Entry_api_Entry : Code := (F.slices_EqualFunc_api_Entry_api_Entry_api_Entry_api_Entry.body).getD .skip
theorem Bd.slices_EqualFunc_api_Entry_api_Entry_api_Entry_api_Entry : F.slices_EqualFunc_api_Entry_api_Entry_api_Entry_api_Entry.body = some B.slices_EqualFunc_api_Entry_api_Entry_api_Entry_api_Entry := by kernel_rfl
noncomputable abbrev L.slices_EqualFunc_api_Entry_api_Entry_api_Entry_api_Entry_4 : Code := findL 4 (loopsIn B.slices_EqualFunc_api_Entry_api_Entry_api_Entry_api_Entry)
abbrev V.slices_EqualFunc_api_Entry_api_Entry_api_Entry_api_Entry_4 : List Nat := (lk? H.slices_EqualFunc_api_Entry_api_Entry_api_Entry_api_Entry.loops 4).getD []
abbrev I.wire_Same_1 : FuncId := 79
noncomputable abbrev F.wire_Same_1 : Func := Proofs.Tryd.f79
theorem G.wire_Same_1 : P0.funcs[79]? = some F.wire_Same_1 := Proofs.Tryd.func79
theorem C.wire_Same_1 : Called P0 79 := ⟨_, G.wire_Same_1, by kernel_rfl, by kernel_rfl⟩
def H.wire_Same_1 : Hint := { nt := 17, lg := [], vs := [], nh := [], join := [(1, 4)], loops := [], jc := [] }
noncomputable abbrev B.wire_Same_1 : Code := (F.wire_Same_1.body).getD .skip
theorem Bd.wire_Same_1 : F.wire_Same_1.body = some B.wire_Same_1 := by kernel_rfl
abbrev I.names_may : FuncId := 80
noncomputable abbrev F.names_may : Func := Proofs.Tryd.f80
theorem G.names_may : P0.funcs[80]? = some F.names_may := Proofs.Tryd.func80
theorem C.names_may : Called P0 80 := ⟨_, G.names_may, by kernel_rfl, by kernel_rfl⟩
def H.names_may : Hint := { nt := 25, lg := [], vs := [], nh := [], join := [(1, 2)], loops := [], jc := [] }
noncomputable abbrev B.names_may : Code := (F.names_may.body).getD .skip
theorem Bd.names_may : F.names_may.body = some B.names_may := by kernel_rfl
abbrev I.names_among : FuncId := 81
noncomputable abbrev F.names_among : Func := Proofs.Tryd.f81
theorem G.names_among : P0.funcs[81]? = some F.names_among := Proofs.Tryd.func81
theorem C.names_among : Called P0 81 := ⟨_, G.names_among, by kernel_rfl, by kernel_rfl⟩
def H.names_among : Hint := { nt := 15, lg := [], vs := [], nh := [], join := [], loops := [(2, [1, 4, 8])], jc := [] }
noncomputable abbrev B.names_among : Code := (F.names_among.body).getD .skip
theorem Bd.names_among : F.names_among.body = some B.names_among := by kernel_rfl
noncomputable abbrev L.names_among_2 : Code := findL 2 (loopsIn B.names_among)
abbrev V.names_among_2 : List Nat := (lk? H.names_among.loops 2).getD []
abbrev I.unicode_utf8_ValidString : FuncId := 82
noncomputable abbrev F.unicode_utf8_ValidString : Func := Proofs.Tryd.f82
theorem G.unicode_utf8_ValidString : P0.funcs[82]? = some F.unicode_utf8_ValidString := Proofs.Tryd.func82
theorem C.unicode_utf8_ValidString : Called P0 82 := ⟨_, G.unicode_utf8_ValidString, by kernel_rfl, by kernel_rfl⟩
def H.unicode_utf8_ValidString : Hint := { nt := 169, lg := [], vs := [], nh := [], join := [(5, 24), (7, 39), (9, 62), (17, 94), (21, 125), (25, 166)], loops := [(1, [0, 2]), (9, [0, 2])], jc := [] }
noncomputable abbrev B.unicode_utf8_ValidString : Code := (F.unicode_utf8_ValidString.body).getD .skip
theorem Bd.unicode_utf8_ValidString : F.unicode_utf8_ValidString.body = some B.unicode_utf8_ValidString := by kernel_rfl
noncomputable abbrev L.unicode_utf8_ValidString_1 : Code := findL 1 (loopsIn B.unicode_utf8_ValidString)
noncomputable abbrev L.unicode_utf8_ValidString_9 : Code := findL 9 (loopsIn B.unicode_utf8_ValidString)
abbrev V.unicode_utf8_ValidString_1 : List Nat := (lk? H.unicode_utf8_ValidString.loops 1).getD []
abbrev V.unicode_utf8_ValidString_9 : List Nat := (lk? H.unicode_utf8_ValidString.loops 9).getD []
abbrev I.slices_ContainsFunc_api_Record_api_Record : FuncId := 83
noncomputable abbrev F.slices_ContainsFunc_api_Record_api_Record : Func := Proofs.Tryd.f83
theorem G.slices_ContainsFunc_api_Record_api_Record : P0.funcs[83]? = some F.slices_ContainsFunc_api_Record_api_Record := Proofs.Tryd.func83
theorem C.slices_ContainsFunc_api_Record_api_Record : Called P0 83 := ⟨_, G.slices_ContainsFunc_api_Record_api_Record, by kernel_rfl, by kernel_rfl⟩
def H.slices_ContainsFunc_api_Record_api_Record : Hint := { nt := 9, lg := [], vs := [], nh := [], join := [], loops := [], jc := [] }
noncomputable abbrev B.slices_ContainsFunc_api_Record_api_Record : Code := (F.slices_ContainsFunc_api_Record_api_Record.body).getD .skip
theorem Bd.slices_ContainsFunc_api_Record_api_Record : F.slices_ContainsFunc_api_Record_api_Record.body = some B.slices_ContainsFunc_api_Record_api_Record := by kernel_rfl
abbrev I.service_long_1 : FuncId := 84
noncomputable abbrev F.service_long_1 : Func := Proofs.Tryd.f84
theorem G.service_long_1 : P0.funcs[84]? = some F.service_long_1 := Proofs.Tryd.func84
theorem C.service_long_1 : Called P0 84 := ⟨_, G.service_long_1, by kernel_rfl, by kernel_rfl⟩
def H.service_long_1 : Hint := { nt := 13, lg := [], vs := [], nh := [], join := [(1, 2)], loops := [], jc := [] }
noncomputable abbrev B.service_long_1 : Code := (F.service_long_1.body).getD .skip
theorem Bd.service_long_1 : F.service_long_1.body = some B.service_long_1 := by kernel_rfl
abbrev I.cooperageref1_rune1 : FuncId := 85
noncomputable abbrev F.cooperageref1_rune1 : Func := Proofs.Tryd.f85
theorem G.cooperageref1_rune1 : P0.funcs[85]? = some F.cooperageref1_rune1 := Proofs.Tryd.func85
theorem C.cooperageref1_rune1 : Called P0 85 := ⟨_, G.cooperageref1_rune1, by kernel_rfl, by kernel_rfl⟩
def H.cooperageref1_rune1 : Hint := { nt := 86, lg := [], vs := [], nh := [], join := [(8, 18), (12, 27), (16, 36), (26, 63), (29, 83)], loops := [(23, [0, 2, 3, 4, 6, 7, 8, 9])], jc := [] }
noncomputable abbrev B.cooperageref1_rune1 : Code := (F.cooperageref1_rune1.body).getD .skip
theorem Bd.cooperageref1_rune1 : F.cooperageref1_rune1.body = some B.cooperageref1_rune1 := by kernel_rfl
noncomputable abbrev L.cooperageref1_rune1_23 : Code := findL 23 (loopsIn B.cooperageref1_rune1)
abbrev V.cooperageref1_rune1_23 : List Nat := (lk? H.cooperageref1_rune1.loops 23).getD []
abbrev I.command_records_1 : FuncId := 86
noncomputable abbrev F.command_records_1 : Func := Proofs.Tryd.f86
theorem G.command_records_1 : P0.funcs[86]? = some F.command_records_1 := Proofs.Tryd.func86
theorem C.command_records_1 : Called P0 86 := ⟨_, G.command_records_1, by kernel_rfl, by kernel_rfl⟩
def H.command_records_1 : Hint := { nt := 11, lg := [], vs := [], nh := [], join := [(1, 2)], loops := [], jc := [] }
noncomputable abbrev B.command_records_1 : Code := (F.command_records_1.body).getD .skip
theorem Bd.command_records_1 : F.command_records_1.body = some B.command_records_1 := by kernel_rfl
abbrev I.record_Right : FuncId := 87
noncomputable abbrev F.record_Right : Func := Proofs.Tryd.f87
theorem G.record_Right : P0.funcs[87]? = some F.record_Right := Proofs.Tryd.func87
theorem C.record_Right : Called P0 87 := ⟨_, G.record_Right, by kernel_rfl, by kernel_rfl⟩
def H.record_Right : Hint := { nt := 48, lg := [], vs := [], nh := [], join := [(1, 2)], loops := [], jc := [] }
noncomputable abbrev B.record_Right : Code := (F.record_Right.body).getD .skip
theorem Bd.record_Right : F.record_Right.body = some B.record_Right := by kernel_rfl
abbrev I.varint_Put : FuncId := 88
noncomputable abbrev F.varint_Put : Func := Proofs.Tryd.f88
theorem G.varint_Put : P0.funcs[88]? = some F.varint_Put := Proofs.Tryd.func88
theorem C.varint_Put : Called P0 88 := ⟨_, G.varint_Put, by kernel_rfl, by kernel_rfl⟩
def H.varint_Put : Hint := { nt := 23, lg := [], vs := [], nh := [], join := [], loops := [(2, [1, 5])], jc := [] }
noncomputable abbrev B.varint_Put : Code := (F.varint_Put.body).getD .skip
theorem Bd.varint_Put : F.varint_Put.body = some B.varint_Put := by kernel_rfl
noncomputable abbrev L.varint_Put_2 : Code := findL 2 (loopsIn B.varint_Put)
abbrev V.varint_Put_2 : List Nat := (lk? H.varint_Put.loops 2).getD []
abbrev I.varint_Fold : FuncId := 89
noncomputable abbrev F.varint_Fold : Func := Proofs.Tryd.f89
theorem G.varint_Fold : P0.funcs[89]? = some F.varint_Fold := Proofs.Tryd.func89
theorem C.varint_Fold : Called P0 89 := ⟨_, G.varint_Fold, by kernel_rfl, by kernel_rfl⟩
def H.varint_Fold : Hint := { nt := 12, lg := [], vs := [], nh := [], join := [], loops := [], jc := [] }
noncomputable abbrev B.varint_Fold : Code := (F.varint_Fold.body).getD .skip
theorem Bd.varint_Fold : F.varint_Fold.body = some B.varint_Fold := by kernel_rfl
abbrev I.varint_PutBytes : FuncId := 90
noncomputable abbrev F.varint_PutBytes : Func := Proofs.Tryd.f90
theorem G.varint_PutBytes : P0.funcs[90]? = some F.varint_PutBytes := Proofs.Tryd.func90
theorem C.varint_PutBytes : Called P0 90 := ⟨_, G.varint_PutBytes, by kernel_rfl, by kernel_rfl⟩
def H.varint_PutBytes : Hint := { nt := 12, lg := [], vs := [5], nh := [], join := [], loops := [], jc := [] }
noncomputable abbrev B.varint_PutBytes : Code := (F.varint_PutBytes.body).getD .skip
theorem Bd.varint_PutBytes : F.varint_PutBytes.body = some B.varint_PutBytes := by kernel_rfl
abbrev I.record_Put : FuncId := 91
noncomputable abbrev F.record_Put : Func := Proofs.Tryd.f91
theorem G.record_Put : P0.funcs[91]? = some F.record_Put := Proofs.Tryd.func91
theorem C.record_Put : Called P0 91 := ⟨_, G.record_Put, by kernel_rfl, by kernel_rfl⟩
def H.record_Put : Hint := { nt := 47, lg := [], vs := [13, 18, 29, 38], nh := [], join := [], loops := [], jc := [] }
noncomputable abbrev B.record_Put : Code := (F.record_Put.body).getD .skip
theorem Bd.record_Put : F.record_Put.body = some B.record_Put := by kernel_rfl
abbrev I.varint_Unfold : FuncId := 92
noncomputable abbrev F.varint_Unfold : Func := Proofs.Tryd.f92
theorem G.varint_Unfold : P0.funcs[92]? = some F.varint_Unfold := Proofs.Tryd.func92
theorem C.varint_Unfold : Called P0 92 := ⟨_, G.varint_Unfold, by kernel_rfl, by kernel_rfl⟩
def H.varint_Unfold : Hint := { nt := 13, lg := [], vs := [], nh := [], join := [], loops := [], jc := [] }
noncomputable abbrev B.varint_Unfold : Code := (F.varint_Unfold.body).getD .skip
theorem Bd.varint_Unfold : F.varint_Unfold.body = some B.varint_Unfold := by kernel_rfl
abbrev I.varint_Reader_Number : FuncId := 93
noncomputable abbrev F.varint_Reader_Number : Func := Proofs.Tryd.f93
theorem G.varint_Reader_Number : P0.funcs[93]? = some F.varint_Reader_Number := Proofs.Tryd.func93
theorem C.varint_Reader_Number : Called P0 93 := ⟨_, G.varint_Reader_Number, by kernel_rfl, by kernel_rfl⟩
def H.varint_Reader_Number : Hint := { nt := 34, lg := [], vs := [], nh := [], join := [], loops := [], jc := [] }
noncomputable abbrev B.varint_Reader_Number : Code := (F.varint_Reader_Number.body).getD .skip
theorem Bd.varint_Reader_Number : F.varint_Reader_Number.body = some B.varint_Reader_Number := by kernel_rfl
abbrev I.varint_Reader_Bytes : FuncId := 94
noncomputable abbrev F.varint_Reader_Bytes : Func := Proofs.Tryd.f94
theorem G.varint_Reader_Bytes : P0.funcs[94]? = some F.varint_Reader_Bytes := Proofs.Tryd.func94
theorem C.varint_Reader_Bytes : Called P0 94 := ⟨_, G.varint_Reader_Bytes, by kernel_rfl, by kernel_rfl⟩
def H.varint_Reader_Bytes : Hint := { nt := 47, lg := [], vs := [2], nh := [], join := [(2, 21)], loops := [], jc := [] }
noncomputable abbrev B.varint_Reader_Bytes : Code := (F.varint_Reader_Bytes.body).getD .skip
theorem Bd.varint_Reader_Bytes : F.varint_Reader_Bytes.body = some B.varint_Reader_Bytes := by kernel_rfl
abbrev I.varint_Reader_Count : FuncId := 95
noncomputable abbrev F.varint_Reader_Count : Func := Proofs.Tryd.f95
theorem G.varint_Reader_Count : P0.funcs[95]? = some F.varint_Reader_Count := Proofs.Tryd.func95
theorem C.varint_Reader_Count : Called P0 95 := ⟨_, G.varint_Reader_Count, by kernel_rfl, by kernel_rfl⟩
def H.varint_Reader_Count : Hint := { nt := 31, lg := [], vs := [], nh := [], join := [(2, 20)], loops := [], jc := [] }
noncomputable abbrev B.varint_Reader_Count : Code := (F.varint_Reader_Count.body).getD .skip
theorem Bd.varint_Reader_Count : F.varint_Reader_Count.body = some B.varint_Reader_Count := by kernel_rfl
abbrev I.record_Get : FuncId := 96
noncomputable abbrev F.record_Get : Func := Proofs.Tryd.f96
theorem G.record_Get : P0.funcs[96]? = some F.record_Get := Proofs.Tryd.func96
theorem C.record_Get : Called P0 96 := ⟨_, G.record_Get, by kernel_rfl, by kernel_rfl⟩
def H.record_Get : Hint := { nt := 55, lg := [], vs := [], nh := [], join := [(7, 36)], loops := [], jc := [] }
noncomputable abbrev B.record_Get : Code := (F.record_Get.body).getD .skip
theorem Bd.record_Get : F.record_Get.body = some B.record_Get := by kernel_rfl
abbrev I.varint_Reader_Rest : FuncId := 97
noncomputable abbrev F.varint_Reader_Rest : Func := Proofs.Tryd.f97
theorem G.varint_Reader_Rest : P0.funcs[97]? = some F.varint_Reader_Rest := Proofs.Tryd.func97
theorem C.varint_Reader_Rest : Called P0 97 := ⟨_, G.varint_Reader_Rest, by kernel_rfl, by kernel_rfl⟩
def H.varint_Reader_Rest : Hint := { nt := 7, lg := [], vs := [2], nh := [], join := [], loops := [], jc := [] }
noncomputable abbrev B.varint_Reader_Rest : Code := (F.varint_Reader_Rest.body).getD .skip
theorem Bd.varint_Reader_Rest : F.varint_Reader_Rest.body = some B.varint_Reader_Rest := by kernel_rfl
abbrev I.varint_Reader_Skip : FuncId := 98
noncomputable abbrev F.varint_Reader_Skip : Func := Proofs.Tryd.f98
theorem G.varint_Reader_Skip : P0.funcs[98]? = some F.varint_Reader_Skip := Proofs.Tryd.func98
theorem C.varint_Reader_Skip : Called P0 98 := ⟨_, G.varint_Reader_Skip, by kernel_rfl, by kernel_rfl⟩
def H.varint_Reader_Skip : Hint := { nt := 20, lg := [], vs := [], nh := [], join := [], loops := [], jc := [] }
noncomputable abbrev B.varint_Reader_Skip : Code := (F.varint_Reader_Skip.body).getD .skip
theorem Bd.varint_Reader_Skip : F.varint_Reader_Skip.body = some B.varint_Reader_Skip := by kernel_rfl
abbrev I.varint_Reader_Fail : FuncId := 99
noncomputable abbrev F.varint_Reader_Fail : Func := Proofs.Tryd.f99
theorem G.varint_Reader_Fail : P0.funcs[99]? = some F.varint_Reader_Fail := Proofs.Tryd.func99
theorem C.varint_Reader_Fail : Called P0 99 := ⟨_, G.varint_Reader_Fail, by kernel_rfl, by kernel_rfl⟩
def H.varint_Reader_Fail : Hint := { nt := 13, lg := [], vs := [], nh := [], join := [], loops := [], jc := [] }
noncomputable abbrev B.varint_Reader_Fail : Code := (F.varint_Reader_Fail.body).getD .skip
theorem Bd.varint_Reader_Fail : F.varint_Reader_Fail.body = some B.varint_Reader_Fail := by kernel_rfl
abbrev I.slices_IndexFunc_api_Entry_api_Entry : FuncId := 100
noncomputable abbrev F.slices_IndexFunc_api_Entry_api_Entry : Func := Proofs.Tryd.f100
theorem G.slices_IndexFunc_api_Entry_api_Entry : P0.funcs[100]? = some F.slices_IndexFunc_api_Entry_api_Entry := Proofs.Tryd.func100
theorem C.slices_IndexFunc_api_Entry_api_Entry : Called P0 100 := ⟨_, G.slices_IndexFunc_api_Entry_api_Entry, by kernel_rfl, by kernel_rfl⟩
def H.slices_IndexFunc_api_Entry_api_Entry : Hint := { nt := 19, lg := [], vs := [], nh := [], join := [], loops := [(2, [0, 1, 4, 7, 8])], jc := [] }
noncomputable abbrev B.slices_IndexFunc_api_Entry_api_Entry : Code := (F.slices_IndexFunc_api_Entry_api_Entry.body).getD .skip
theorem Bd.slices_IndexFunc_api_Entry_api_Entry : F.slices_IndexFunc_api_Entry_api_Entry.body = some B.slices_IndexFunc_api_Entry_api_Entry := by kernel_rfl
noncomputable abbrev L.slices_IndexFunc_api_Entry_api_Entry_2 : Code := findL 2 (loopsIn B.slices_IndexFunc_api_Entry_api_Entry)
abbrev V.slices_IndexFunc_api_Entry_api_Entry_2 : List Nat := (lk? H.slices_IndexFunc_api_Entry_api_Entry.loops 2).getD []
abbrev I.frame_written : FuncId := 101
noncomputable abbrev F.frame_written : Func := Proofs.Tryd.f101
theorem G.frame_written : P0.funcs[101]? = some F.frame_written := Proofs.Tryd.func101
theorem C.frame_written : Called P0 101 := ⟨_, G.frame_written, by kernel_rfl, by kernel_rfl⟩
def H.frame_written : Hint := { nt := 15, lg := [], vs := [2], nh := [], join := [], loops := [], jc := [] }
noncomputable abbrev B.frame_written : Code := (F.frame_written.body).getD .skip
theorem Bd.frame_written : F.frame_written.body = some B.frame_written := by kernel_rfl
abbrev I.crc_Sum : FuncId := 102
noncomputable abbrev F.crc_Sum : Func := Proofs.Tryd.f102
theorem G.crc_Sum : P0.funcs[102]? = some F.crc_Sum := Proofs.Tryd.func102
theorem C.crc_Sum : Called P0 102 := ⟨_, G.crc_Sum, by kernel_rfl, by kernel_rfl⟩
def H.crc_Sum : Hint := { nt := 5, lg := [], vs := [], nh := [], join := [], loops := [], jc := [] }
noncomputable abbrev B.crc_Sum : Code := (F.crc_Sum.body).getD .skip
theorem Bd.crc_Sum : F.crc_Sum.body = some B.crc_Sum := by kernel_rfl
abbrev I.wire_put : FuncId := 103
noncomputable abbrev F.wire_put : Func := Proofs.Tryd.f103
theorem G.wire_put : P0.funcs[103]? = some F.wire_put := Proofs.Tryd.func103
theorem C.wire_put : Called P0 103 := ⟨_, G.wire_put, by kernel_rfl, by kernel_rfl⟩
def H.wire_put : Hint := { nt := 74, lg := [], vs := [16, 36, 49, 64, 67], nh := [], join := [], loops := [(18, [0, 58, 59, 60])], jc := [] }
noncomputable abbrev B.wire_put : Code := (F.wire_put.body).getD .skip
theorem Bd.wire_put : F.wire_put.body = some B.wire_put := by kernel_rfl
noncomputable abbrev L.wire_put_18 : Code := findL 18 (loopsIn B.wire_put)
abbrev V.wire_put_18 : List Nat := (lk? H.wire_put.loops 18).getD []
abbrev I.varint_Get : FuncId := 104
noncomputable abbrev F.varint_Get : Func := Proofs.Tryd.f104
theorem G.varint_Get : P0.funcs[104]? = some F.varint_Get := Proofs.Tryd.func104
theorem C.varint_Get : Called P0 104 := ⟨_, G.varint_Get, by kernel_rfl, by kernel_rfl⟩
def H.varint_Get : Hint := { nt := 50, lg := [], vs := [], nh := [], join := [(6, 24), (10, 42)], loops := [(3, [2, 3, 4, 5, 8, 9, 10])], jc := [] }
noncomputable abbrev B.varint_Get : Code := (F.varint_Get.body).getD .skip
theorem Bd.varint_Get : F.varint_Get.body = some B.varint_Get := by kernel_rfl
noncomputable abbrev L.varint_Get_3 : Code := findL 3 (loopsIn B.varint_Get)
abbrev V.varint_Get_3 : List Nat := (lk? H.varint_Get.loops 3).getD []
abbrev I.wire_entries : FuncId := 105
noncomputable abbrev F.wire_entries : Func := Proofs.Tryd.f105
theorem G.wire_entries : P0.funcs[105]? = some F.wire_entries := Proofs.Tryd.func105
theorem C.wire_entries : Called P0 105 := ⟨_, G.wire_entries, by kernel_rfl, by kernel_rfl⟩
def H.wire_entries : Hint := { nt := 32, lg := [(3, 79)], vs := [2], nh := [], join := [], loops := [(3, [0, 3, 9, 10])], jc := [] }
noncomputable abbrev B.wire_entries : Code := (F.wire_entries.body).getD .skip
theorem Bd.wire_entries : F.wire_entries.body = some B.wire_entries := by kernel_rfl
noncomputable abbrev L.wire_entries_3 : Code := findL 3 (loopsIn B.wire_entries)
abbrev V.wire_entries_3 : List Nat := (lk? H.wire_entries.loops 3).getD []
abbrev I.cooperageref1_More : FuncId := 106
noncomputable abbrev F.cooperageref1_More : Func := Proofs.Tryd.f106
theorem G.cooperageref1_More : P0.funcs[106]? = some F.cooperageref1_More := Proofs.Tryd.func106
theorem C.cooperageref1_More : Called P0 106 := ⟨_, G.cooperageref1_More, by kernel_rfl, by kernel_rfl⟩
def H.cooperageref1_More : Hint := { nt := 37, lg := [], vs := [], nh := [], join := [], loops := [(3, [1, 5, 6]), (7, [1, 5, 6, 7])], jc := [] }
noncomputable abbrev B.cooperageref1_More : Code := (F.cooperageref1_More.body).getD .skip
theorem Bd.cooperageref1_More : F.cooperageref1_More.body = some B.cooperageref1_More := by kernel_rfl
noncomputable abbrev L.cooperageref1_More_3 : Code := findL 3 (loopsIn B.cooperageref1_More)
noncomputable abbrev L.cooperageref1_More_7 : Code := findL 7 (loopsIn B.cooperageref1_More)
abbrev V.cooperageref1_More_3 : List Nat := (lk? H.cooperageref1_More.loops 3).getD []
abbrev V.cooperageref1_More_7 : List Nat := (lk? H.cooperageref1_More.loops 7).getD []
abbrev I.unicode_utf8_word_string : FuncId := 107
noncomputable abbrev F.unicode_utf8_word_string : Func := Proofs.Tryd.f107
theorem G.unicode_utf8_word_string : P0.funcs[107]? = some F.unicode_utf8_word_string := Proofs.Tryd.func107
theorem C.unicode_utf8_word_string : Called P0 107 := ⟨_, G.unicode_utf8_word_string, by kernel_rfl, by kernel_rfl⟩
def H.unicode_utf8_word_string : Hint := { nt := 59, lg := [], vs := [], nh := [], join := [], loops := [], jc := [] }
noncomputable abbrev B.unicode_utf8_word_string : Code := (F.unicode_utf8_word_string.body).getD .skip
theorem Bd.unicode_utf8_word_string : F.unicode_utf8_word_string.body = some B.unicode_utf8_word_string := by kernel_rfl
abbrev I.slices_IndexFunc_api_Record_api_Record : FuncId := 108
noncomputable abbrev F.slices_IndexFunc_api_Record_api_Record : Func := Proofs.Tryd.f108
theorem G.slices_IndexFunc_api_Record_api_Record : P0.funcs[108]? = some F.slices_IndexFunc_api_Record_api_Record := Proofs.Tryd.func108
theorem C.slices_IndexFunc_api_Record_api_Record : Called P0 108 := ⟨_, G.slices_IndexFunc_api_Record_api_Record, by kernel_rfl, by kernel_rfl⟩
def H.slices_IndexFunc_api_Record_api_Record : Hint := { nt := 19, lg := [], vs := [], nh := [], join := [], loops := [(2, [0, 1, 4, 7, 8])], jc := [] }
noncomputable abbrev B.slices_IndexFunc_api_Record_api_Record : Code := (F.slices_IndexFunc_api_Record_api_Record.body).getD .skip
theorem Bd.slices_IndexFunc_api_Record_api_Record : F.slices_IndexFunc_api_Record_api_Record.body = some B.slices_IndexFunc_api_Record_api_Record := by kernel_rfl
noncomputable abbrev L.slices_IndexFunc_api_Record_api_Record_2 : Code := findL 2 (loopsIn B.slices_IndexFunc_api_Record_api_Record)
abbrev V.slices_IndexFunc_api_Record_api_Record_2 : List Nat := (lk? H.slices_IndexFunc_api_Record_api_Record.loops 2).getD []
abbrev I.record_reader_number : FuncId := 109
noncomputable abbrev F.record_reader_number : Func := Proofs.Tryd.f109
theorem G.record_reader_number : P0.funcs[109]? = some F.record_reader_number := Proofs.Tryd.func109
theorem C.record_reader_number : Called P0 109 := ⟨_, G.record_reader_number, by kernel_rfl, by kernel_rfl⟩
def H.record_reader_number : Hint := { nt := 50, lg := [], vs := [], nh := [], join := [(6, 45)], loops := [], jc := [] }
noncomputable abbrev B.record_reader_number : Code := (F.record_reader_number.body).getD .skip
theorem Bd.record_reader_number : F.record_reader_number.body = some B.record_reader_number := by kernel_rfl
abbrev I.record_reader_sign : FuncId := 110
noncomputable abbrev F.record_reader_sign : Func := Proofs.Tryd.f110
theorem G.record_reader_sign : P0.funcs[110]? = some F.record_reader_sign := Proofs.Tryd.func110
theorem C.record_reader_sign : Called P0 110 := ⟨_, G.record_reader_sign, by kernel_rfl, by kernel_rfl⟩
def H.record_reader_sign : Hint := { nt := 57, lg := [], vs := [], nh := [], join := [], loops := [], jc := [] }
noncomputable abbrev B.record_reader_sign : Code := (F.record_reader_sign.body).getD .skip
theorem Bd.record_reader_sign : F.record_reader_sign.body = some B.record_reader_sign := by kernel_rfl
abbrev I.record_reader_text : FuncId := 111
noncomputable abbrev F.record_reader_text : Func := Proofs.Tryd.f111
theorem G.record_reader_text : P0.funcs[111]? = some F.record_reader_text := Proofs.Tryd.func111
theorem C.record_reader_text : Called P0 111 := ⟨_, G.record_reader_text, by kernel_rfl, by kernel_rfl⟩
def H.record_reader_text : Hint := { nt := 61, lg := [], vs := [], nh := [], join := [(2, 28)], loops := [], jc := [] }
noncomputable abbrev B.record_reader_text : Code := (F.record_reader_text.body).getD .skip
theorem Bd.record_reader_text : F.record_reader_text.body = some B.record_reader_text := by kernel_rfl
abbrev I.crc_More : FuncId := 112
noncomputable abbrev F.crc_More : Func := Proofs.Tryd.f112
theorem G.crc_More : P0.funcs[112]? = some F.crc_More := Proofs.Tryd.func112
theorem C.crc_More : Called P0 112 := ⟨_, G.crc_More, by kernel_rfl, by kernel_rfl⟩
def H.crc_More : Hint := { nt := 35, lg := [], vs := [], nh := [], join := [], loops := [(3, [5, 11, 12, 13]), (7, [5, 11, 12, 13, 21])], jc := [] }
noncomputable abbrev B.crc_More : Code := (F.crc_More.body).getD .skip
theorem Bd.crc_More : F.crc_More.body = some B.crc_More := by kernel_rfl
noncomputable abbrev L.crc_More_3 : Code := findL 3 (loopsIn B.crc_More)
noncomputable abbrev L.crc_More_7 : Code := findL 7 (loopsIn B.crc_More)
abbrev V.crc_More_3 : List Nat := (lk? H.crc_More.loops 3).getD []
abbrev V.crc_More_7 : List Nat := (lk? H.crc_More.loops 7).getD []
end Go.Sim
namespace Go.Sim
def bt (l : List UInt8) (k : Nat) : Nat := (l.getD k 0).toNat
def contL (l : List UInt8) (k : Nat) : Bool := decide (k < l.length) && bt l k / 64 == 2
/-- A text's first rune and its length. -/
def dec1 (l : List UInt8) : Nat × Nat :=
  if bt l 0 < 0x80 then (bt l 0, 1)
  else if bt l 0 / 32 == 6 && contL l 1 then
    (if (bt l 0 % 32) * 64 + bt l 1 % 64 ≥ 0x80 then ((bt l 0 % 32) * 64 + bt l 1 % 64, 2) else (0xFFFD, 1))
  else if bt l 0 / 16 == 14 && contL l 1 && contL l 2 then
    (if (bt l 0 % 16) * 4096 + (bt l 1 % 64) * 64 + bt l 2 % 64 ≥ 0x800 && Utf8.valid (((bt l 0 % 16) * 4096 + (bt l 1 % 64) * 64 + bt l 2 % 64 : Nat) : Int) then ((bt l 0 % 16) * 4096 + (bt l 1 % 64) * 64 + bt l 2 % 64, 3) else (0xFFFD, 1))
  else if bt l 0 / 8 == 30 && contL l 1 && contL l 2 && contL l 3 then
    (if (bt l 0 % 8) * 262144 + (bt l 1 % 64) * 4096 + (bt l 2 % 64) * 64 + bt l 3 % 64 ≥ 0x10000 && Utf8.valid (((bt l 0 % 8) * 262144 + (bt l 1 % 64) * 4096 + (bt l 2 % 64) * 64 + bt l 3 % 64 : Nat) : Int) then ((bt l 0 % 8) * 262144 + (bt l 1 % 64) * 4096 + (bt l 2 % 64) * 64 + bt l 3 % 64, 4) else (0xFFFD, 1))
  else (0xFFFD, 1)
theorem get_bt (s : List UInt8) (i k : Nat) : ((⟨s.toArray⟩ : ByteArray).get! (i + k)).toNat = bt (s.drop i) k := by
  unfold bt ByteArray.get!
  rw [List.getD_eq_getElem?_getD, List.getElem?_drop]
  congr 1
  rcases Nat.lt_or_ge (i + k) s.length with h | h
  · simp [h]
  · have h2 : s[i + k]? = none := by simpa using h
    rw [h2]
    simp [h]
    rfl
theorem size_drop (s : List UInt8) (i k : Nat) : decide (i + k < (⟨s.toArray⟩ : ByteArray).size) = decide (k < (s.drop i).length) := by
  apply decide_eq_decide.2
  have : (⟨s.toArray⟩ : ByteArray).size = s.length := by simp [ByteArray.size]
  rw [this, List.length_drop]
  omega
theorem decode_dec1 (s : List UInt8) (pos : Nat) : Utf8.decode ⟨s.toArray⟩ pos = dec1 (s.drop pos) := by
  unfold Utf8.decode dec1
  simp only [size_drop, get_bt, Utf8.runeError, contL]
  rfl
theorem dec1_pos (l : List UInt8) : 1 ≤ (dec1 l).2 := by
  unfold dec1
  repeat' split
  all_goals simp
theorem contL_lt {l : List UInt8} {k : Nat} (h : contL l k = true) : k < l.length := by
  unfold contL at h
  simp only [Bool.and_eq_true, decide_eq_true_eq] at h
  exact h.1
theorem dec1_le (l : List UInt8) (h : l ≠ []) : (dec1 l).2 ≤ l.length := by
  have hl : 1 ≤ l.length := by cases l with | nil => exact absurd rfl h | cons a b => simp
  unfold dec1
  split
  · exact hl
  · split
    · rename_i h2
      simp only [Bool.and_eq_true] at h2
      have := contL_lt h2.2
      split <;> simp <;> omega
    · split
      · rename_i h2
        simp only [Bool.and_eq_true] at h2
        have := contL_lt h2.2
        split <;> simp <;> omega
      · split
        · rename_i h2
          simp only [Bool.and_eq_true] at h2
          have := contL_lt h2.2
          split <;> simp <;> omega
        · exact hl
/-- How many runes there are. -/
def cnt (l : List UInt8) : Nat := if h : l = [] then 0 else cnt (l.drop (dec1 l).2) + 1
termination_by l.length
decreasing_by
  have := dec1_pos l
  have hl : 1 ≤ l.length := by cases l with | nil => exact absurd rfl h | cons a b => simp
  simp
  omega
/-- How many bytes the first n runes have. -/
def cutP (l : List UInt8) (n : Nat) : Nat := match n with
  | 0 => 0
  | n + 1 => if l = [] then 0 else (dec1 l).2 + cutP (l.drop (dec1 l).2) n
theorem cnt_nil : cnt [] = 0 := by rw [cnt]; simp
theorem cnt_cons (l : List UInt8) (h : l ≠ []) : cnt l = cnt (l.drop (dec1 l).2) + 1 := by rw [cnt]; simp [h]
theorem bt_take (l : List UInt8) (m k : Nat) (h : k < m) : bt (l.take m) k = bt l k := by
  unfold bt
  rw [List.getD_eq_getElem?_getD, List.getD_eq_getElem?_getD, List.getElem?_take_of_lt h]
theorem contL_take (l : List UInt8) (m k : Nat) (h : k < m) : contL (l.take m) k = contL l k := by
  unfold contL
  rw [bt_take l m k h]
  congr 1
  apply decide_eq_decide.2
  rw [List.length_take]
  omega
theorem contL_short (l : List UInt8) (m k : Nat) (h : m ≤ k) : contL (l.take m) k = false := by
  unfold contL
  have : ¬ k < (l.take m).length := by rw [List.length_take]; omega
  rw [decide_eq_false this]
  rfl
def decC (p x2 v2 x3 v3 x4 v4 : Bool) (r1 r2 r3 r4 : Nat) : Nat × Nat :=
  bif p then (r1, 1) else bif x2 then (bif v2 then (r2, 2) else (0xFFFD, 1)) else bif x3 then (bif v3 then (r3, 3) else (0xFFFD, 1)) else bif x4 then (bif v4 then (r4, 4) else (0xFFFD, 1)) else (0xFFFD, 1)
theorem decC_3 {p x2 v2 x3 v3 x4 v4 w4 : Bool} {r1 r2 r3 r4 s4 : Nat} (h : (decC p x2 v2 x3 v3 x4 v4 r1 r2 r3 r4).2 ≤ 3) : decC p x2 v2 x3 v3 false w4 r1 r2 r3 s4 = decC p x2 v2 x3 v3 x4 v4 r1 r2 r3 r4 := by
  revert h
  cases p <;> cases x2 <;> cases v2 <;> cases x3 <;> cases v3 <;> cases x4 <;> cases v4 <;> simp [decC]
theorem decC_2 {p x2 v2 x3 v3 x4 v4 w3 w4 : Bool} {r1 r2 r3 r4 s3 s4 : Nat} (h : (decC p x2 v2 x3 v3 x4 v4 r1 r2 r3 r4).2 ≤ 2) : decC p x2 v2 false w3 false w4 r1 r2 s3 s4 = decC p x2 v2 x3 v3 x4 v4 r1 r2 r3 r4 := by
  revert h
  cases p <;> cases x2 <;> cases v2 <;> cases x3 <;> cases v3 <;> cases x4 <;> cases v4 <;> simp [decC]
theorem decC_1 {p x2 v2 x3 v3 x4 v4 w2 w3 w4 : Bool} {r1 r2 r3 r4 s2 s3 s4 : Nat} (h : (decC p x2 v2 x3 v3 x4 v4 r1 r2 r3 r4).2 ≤ 1) : decC p false w2 false w3 false w4 r1 s2 s3 s4 = decC p x2 v2 x3 v3 x4 v4 r1 r2 r3 r4 := by
  revert h
  cases p <;> cases x2 <;> cases v2 <;> cases x3 <;> cases v3 <;> cases x4 <;> cases v4 <;> simp [decC]
theorem ite_cond {α : Type} {c : Prop} [Decidable c] {a b : α} : (if c then a else b) = bif decide c then a else b := by
  by_cases h : c <;> simp [h]
theorem dec1_decC (l : List UInt8) : dec1 l = decC (decide (bt l 0 < 0x80)) (bt l 0 / 32 == 6 && contL l 1) (decide ((bt l 0 % 32) * 64 + bt l 1 % 64 ≥ 0x80)) (bt l 0 / 16 == 14 && contL l 1 && contL l 2)
    (decide ((bt l 0 % 16) * 4096 + (bt l 1 % 64) * 64 + bt l 2 % 64 ≥ 0x800) && Utf8.valid (((bt l 0 % 16) * 4096 + (bt l 1 % 64) * 64 + bt l 2 % 64 : Nat) : Int)) (bt l 0 / 8 == 30 && contL l 1 && contL l 2 && contL l 3)
    (decide ((bt l 0 % 8) * 262144 + (bt l 1 % 64) * 4096 + (bt l 2 % 64) * 64 + bt l 3 % 64 ≥ 0x10000) && Utf8.valid (((bt l 0 % 8) * 262144 + (bt l 1 % 64) * 4096 + (bt l 2 % 64) * 64 + bt l 3 % 64 : Nat) : Int))
    (bt l 0) ((bt l 0 % 32) * 64 + bt l 1 % 64) ((bt l 0 % 16) * 4096 + (bt l 1 % 64) * 64 + bt l 2 % 64) ((bt l 0 % 8) * 262144 + (bt l 1 % 64) * 4096 + (bt l 2 % 64) * 64 + bt l 3 % 64) := by
  unfold dec1 decC
  simp only [ite_cond, Bool.decide_eq_true]
theorem dec1_take (l : List UInt8) (m : Nat) (h0 : 1 ≤ m) (h : (dec1 l).2 ≤ m) : dec1 (l.take m) = dec1 l := by
  have b0 := bt_take l m 0 h0
  rw [dec1_decC] at h
  rw [dec1_decC (l.take m), dec1_decC l]
  rcases Nat.lt_or_ge 3 m with h4 | h4
  · simp only [b0, bt_take l m 1 (by omega), bt_take l m 2 (by omega), bt_take l m 3 (by omega), contL_take l m 1 (by omega), contL_take l m 2 (by omega), contL_take l m 3 (by omega)]
  · have c3 := contL_short l m 3 h4
    rcases Nat.lt_or_ge 2 m with h3 | h3
    · simp only [b0, bt_take l m 1 (by omega), bt_take l m 2 (by omega), contL_take l m 1 (by omega), contL_take l m 2 (by omega), c3, Bool.and_false]
      exact decC_3 (Nat.le_trans h h4)
    · have c2 := contL_short l m 2 h3
      rcases Nat.lt_or_ge 1 m with h2 | h2
      · simp only [b0, bt_take l m 1 (by omega), contL_take l m 1 (by omega), c2, c3, Bool.and_false]
        exact decC_2 (Nat.le_trans h h3)
      · have c1 := contL_short l m 1 h2
        simp only [b0, c1, c2, c3, Bool.and_false]
        exact decC_1 (Nat.le_trans h h2)
/-! ### Cutting -/
theorem cutP_le : ∀ (n : Nat) (l : List UInt8), cutP l n ≤ l.length
  | 0, l => by simp [cutP]
  | n + 1, l => by
    simp only [cutP]
    split
    · simp
    · rename_i h
      have h1 := dec1_le l h
      have h2 := cutP_le n (l.drop (dec1 l).2)
      rw [List.length_drop] at h2
      omega
theorem cnt_split : ∀ (n : Nat) (l : List UInt8), cnt (l.take (cutP l n)) = min n (cnt l) ∧ cnt (l.take (cutP l n)) + cnt (l.drop (cutP l n)) = cnt l
  | 0, l => by simp [cutP, cnt_nil]
  | n + 1, l => by
    simp only [cutP]
    split
    · rename_i h
      subst h
      simp [cnt_nil]
    · rename_i h
      have h1 := dec1_le l h
      have hp := dec1_pos l
      obtain ⟨i1, i2⟩ := cnt_split n (l.drop (dec1 l).2)
      have hd : dec1 (l.take ((dec1 l).2 + cutP (l.drop (dec1 l).2) n)) = dec1 l := dec1_take l _ (by omega) (by omega)
      have hne : l.take ((dec1 l).2 + cutP (l.drop (dec1 l).2) n) ≠ [] := by
        intro e
        have := congrArg List.length e
        simp at this
        rcases this with h' | h'
        · omega
        · exact h h'
      have e1 : cnt (l.take ((dec1 l).2 + cutP (l.drop (dec1 l).2) n)) = cnt ((l.drop (dec1 l).2).take (cutP (l.drop (dec1 l).2) n)) + 1 := by
        rw [cnt_cons _ hne, hd, List.drop_take]
        congr 3
        omega
      have e2 : l.drop ((dec1 l).2 + cutP (l.drop (dec1 l).2) n) = (l.drop (dec1 l).2).drop (cutP (l.drop (dec1 l).2) n) := by rw [List.drop_drop]
      rw [e1, e2, cnt_cons l h]
      omega
/-- What is cut off is cut off again whole. -/
theorem cut_again (n : Nat) (l : List UInt8) : ∀ k, n ≤ k → cutP (l.take (cutP l n)) k = cutP l n := by
  induction n generalizing l with
  | zero => intro k _; cases k <;> simp [cutP]
  | succ n ih =>
    intro k hk
    obtain ⟨k, rfl⟩ : ∃ j, k = j + 1 := ⟨k - 1, by omega⟩
    by_cases h : l = []
    · subst h; simp [cutP]
    · have h1 := dec1_le l h
      have hp := dec1_pos l
      have hc : cutP l (n + 1) = (dec1 l).2 + cutP (l.drop (dec1 l).2) n := by simp [cutP, h]
      rw [hc]
      have hd : dec1 (l.take ((dec1 l).2 + cutP (l.drop (dec1 l).2) n)) = dec1 l := dec1_take l _ (by omega) (by omega)
      have hne : l.take ((dec1 l).2 + cutP (l.drop (dec1 l).2) n) ≠ [] := by
        intro e
        have := congrArg List.length e
        simp at this
        rcases this with h' | h'
        · omega
        · exact h h'
      simp only [cutP, hne, if_false, hd]
      rw [List.drop_take, show (dec1 l).2 + cutP (l.drop (dec1 l).2) n - (dec1 l).2 = cutP (l.drop (dec1 l).2) n by omega, ih _ k (by omega)]
theorem cnt_le : ∀ (m : Nat) (l : List UInt8), l.length ≤ m → cnt l ≤ l.length
  | 0, l, h => by
    have : l = [] := List.length_eq_zero_iff.1 (by omega)
    subst this
    simp [cnt_nil]
  | m + 1, l, h => by
    by_cases hl : l = []
    · subst hl; simp [cnt_nil]
    · have hp := dec1_pos l
      have hle := dec1_le l hl
      have ih := cnt_le m (l.drop (dec1 l).2) (by simp; omega)
      rw [List.length_drop] at ih
      rw [cnt_cons l hl]
      omega
/-! ### Is it one of them? -/
/-- How many bytes there are up to the first rune that is c, it with them. -/
def findF : Nat → List UInt8 → Int → Option Nat
  | 0, _, _ => none
  | m + 1, l, c => bif l.isEmpty then none else bif (((dec1 l).1 : Nat) : Int) == c then some (dec1 l).2 else (findF m (l.drop (dec1 l).2) c).map fun k => (dec1 l).2 + k
def hasR (l : List UInt8) (c : Int) : Bool := (findF l.length l c).isSome
end Go.Sim
namespace Go.Sim
def byB (l : List UInt8) (k : Nat) : BitVec 64 := BitVec.ofNat 64 (bt l k * 256 ^ k)
/-- The first eight bytes as one number. -/
def w8 (l : List UInt8) : BitVec 64 := byB l 0 ||| byB l 1 ||| byB l 2 ||| byB l 3 ||| byB l 4 ||| byB l 5 ||| byB l 6 ||| byB l 7
def m80 : BitVec 64 := BitVec.ofInt 64 9259542123273814144
theorem bt_lt (l : List UInt8) (k : Nat) : bt l k < 256 := UInt8.toNat_lt _
theorem byB_bit (l : List UInt8) (k : Nat) (hk : k < 8) : (byB l k).getLsbD (8 * k + 7) = (bt l k).testBit 7 := by
  unfold byB
  rw [BitVec.getLsbD_ofNat]
  have h1 : decide (8 * k + 7 < 64) = true := decide_eq_true (by omega)
  rw [h1, Bool.true_and, show 256 ^ k = 2 ^ (8 * k) by rw [Nat.pow_mul], Nat.testBit_mul_two_pow]
  simp
theorem m80_bit (k : Nat) (hk : k < 8) : m80.getLsbD (8 * k + 7) = true := by
  have : ∀ k : Fin 8, m80.getLsbD (8 * k.val + 7) = true := by decide
  exact this ⟨k, hk⟩
theorem bit7 (n : Nat) (h : n < 256) (hb : n.testBit 7 = false) : n < 128 := by
  rcases Nat.lt_or_ge n 128 with h' | h'
  · exact h'
  · have : n.testBit 7 = true := by
      rw [Nat.testBit_eq_decide_div_mod_eq]
      have : n / 2 ^ 7 = 1 := by omega
      rw [this]
      rfl
    rw [this] at hb; cases hb
/-- No byte of eight has its highest bit where the mask finds none. -/
theorem w8_low (l : List UInt8) (h : w8 l &&& m80 = 0) : ∀ k, k < 8 → bt l k < 128 := fun k hk => by
  apply bit7 _ (bt_lt l k)
  have h1 := congrArg (fun x : BitVec 64 => x.getLsbD (8 * k + 7)) h
  simp only [BitVec.getLsbD_and, m80_bit k hk, Bool.and_true, w8, BitVec.getLsbD_or] at h1
  have h2 : (0 : BitVec 64).getLsbD (8 * k + 7) = false := by simp
  rw [h2] at h1
  simp only [Bool.or_eq_false_iff] at h1
  have key := byB_bit l k hk
  obtain ⟨⟨⟨⟨⟨⟨⟨a0, a1⟩, a2⟩, a3⟩, a4⟩, a5⟩, a6⟩, a7⟩ := h1
  rw [← key]
  rcases (show k = 0 ∨ k = 1 ∨ k = 2 ∨ k = 3 ∨ k = 4 ∨ k = 5 ∨ k = 6 ∨ k = 7 by omega) with rfl | rfl | rfl | rfl | rfl | rfl | rfl | rfl
  · exact a0
  · exact a1
  · exact a2
  · exact a3
  · exact a4
  · exact a5
  · exact a6
  · exact a7
theorem ofInt_wrap (x : BitVec 64) : BitVec.ofInt 64 (IntKind.u64.wrap (x.toNat : Int)) = x := by
  have := x.isLt
  rw [wrapu64 (by omega) (by omega)]
  simp
theorem wrap_toNat (x : BitVec 64) : IntKind.u64.wrap (x.toNat : Int) = (x.toNat : Int) := by
  have := x.isLt
  exact wrapu64 (by omega) (by omega)
theorem ofInt_byte (l : List UInt8) : BitVec.ofInt 64 (IntKind.u64.wrap (((l.getD 0 0).toNat : Nat) : Int)) = byB l 0 := by
  have := bt_lt l 0
  unfold bt at this
  rw [wrapu64 (by omega) (by omega)]
  unfold byB bt
  simp
theorem ofInt_shift (l : List UInt8) (k : Nat) (c : Int) (hc : c = ((256 ^ k : Nat) : Int)) (hk : k < 8) : BitVec.ofInt 64 (IntKind.u64.wrap (IntKind.u64.wrap (((l.getD k 0).toNat : Nat) : Int) * c)) = byB l k := by
  have := bt_lt l k
  unfold bt at this
  have hp : 256 ^ k ≤ 72057594037927936 := by
    rcases (show k = 0 ∨ k = 1 ∨ k = 2 ∨ k = 3 ∨ k = 4 ∨ k = 5 ∨ k = 6 ∨ k = 7 by omega) with rfl | rfl | rfl | rfl | rfl | rfl | rfl | rfl <;> decide
  have hm : (l.getD k 0).toNat * 256 ^ k ≤ 255 * 72057594037927936 := Nat.mul_le_mul (by omega) hp
  have e : IntKind.u64.wrap (((l.getD k 0).toNat : Nat) : Int) = (((l.getD k 0).toNat : Nat) : Int) := wrapu64 (by omega) (by omega)
  rw [e, hc, ← Int.natCast_mul, wrapu64 (by omega) (by omega)]
  unfold byB bt
  rw [← BitVec.ofInt_natCast]
end Go.Sim
namespace Go.Sim
def tailB (n : Nat) : Bool := decide (128 ≤ n) && decide (n ≤ 191)
/-- How long the first rune is, if it is right. -/
def good1 (l : List UInt8) : Option Nat :=
  if bt l 0 < 128 then some 1
  else if bt l 0 < 194 then none
  else if bt l 0 < 224 then (if decide (2 ≤ l.length) && tailB (bt l 1) then some 2 else none)
  else if bt l 0 < 240 then (if decide (3 ≤ l.length) && tailB (bt l 1) && (decide (bt l 0 ≠ 224) || decide (160 ≤ bt l 1)) && (decide (bt l 0 ≠ 237) || decide (bt l 1 ≤ 159)) && tailB (bt l 2) then some 3 else none)
  else if bt l 0 < 245 then (if decide (4 ≤ l.length) && tailB (bt l 1) && (decide (bt l 0 ≠ 240) || decide (144 ≤ bt l 1)) && (decide (bt l 0 ≠ 244) || decide (bt l 1 ≤ 143)) && tailB (bt l 2) && tailB (bt l 3) then some 4 else none)
  else none
/-- All of it is right; m: at most so many runes. -/
def okF : Nat → List UInt8 → Bool
  | 0, l => l.isEmpty
  | m + 1, l => bif l.isEmpty then true else match good1 l with
    | none => false
    | some w => okF m (l.drop w)
/-- Where it ends. -/
def endF : Nat → List UInt8 → List UInt8
  | 0, l => l
  | m + 1, l => bif l.isEmpty then [] else match good1 l with
    | none => l
    | some w => endF m (l.drop w)
theorem good1_pos {l : List UInt8} {w : Nat} (h : good1 l = some w) : 1 ≤ w := by
  unfold good1 at h
  repeat' split at h
  all_goals first | (cases h; decide) | cases h
theorem good1_le {l : List UInt8} {w : Nat} (hl : l ≠ []) (h : good1 l = some w) : w ≤ l.length := by
  have h1 : 1 ≤ l.length := by cases l with | nil => exact absurd rfl hl | cons a b => simp
  unfold good1 at h
  repeat' split at h
  all_goals first
    | (cases h; rename_i hc; simp only [Bool.and_eq_true, decide_eq_true_eq] at hc; omega)
    | (cases h; omega)
    | cases h
theorem ok_more : ∀ (m : Nat) (l : List UInt8), l.length ≤ m → okF (m + 1) l = okF m l ∧ endF (m + 1) l = endF m l
  | 0, l, h => by
    have : l = [] := List.length_eq_zero_iff.1 (by omega)
    subst this
    exact ⟨rfl, rfl⟩
  | m + 1, l, h => by
    by_cases hl : l = []
    · subst hl; exact ⟨rfl, rfl⟩
    · have he : l.isEmpty = false := by cases l with | nil => exact absurd rfl hl | cons a b => rfl
      cases hg : good1 l with
      | none => rw [okF, okF, endF, endF, he, hg]; exact ⟨rfl, rfl⟩
      | some w =>
        have hp := good1_pos hg
        have hw := good1_le hl hg
        have ih := ok_more m (l.drop w) (by simp; omega)
        rw [okF, endF, he, hg]
        rw [show okF (m + 1) l = (bif l.isEmpty then true else match good1 l with | none => false | some w => okF m (l.drop w)) from rfl, show endF (m + 1) l = (bif l.isEmpty then [] else match good1 l with | none => l | some w => endF m (l.drop w)) from rfl, he, hg]
        exact ih
def okL (l : List UInt8) : Bool := okF l.length l
def endL (l : List UInt8) : List UInt8 := endF l.length l
theorem ok_fuel (l : List UInt8) : ∀ m, l.length ≤ m → okF m l = okL l ∧ endF m l = endL l := by
  intro m h
  induction m with
  | zero =>
    have : l = [] := List.length_eq_zero_iff.1 (by omega)
    subst this
    exact ⟨rfl, rfl⟩
  | succ m ih =>
    rcases Nat.lt_or_ge m l.length with h' | h'
    · have : m + 1 = l.length := by omega
      unfold okL endL
      rw [this]
      exact ⟨rfl, rfl⟩
    · obtain ⟨a, b⟩ := ok_more m l h'
      obtain ⟨c, d⟩ := ih h'
      exact ⟨a.trans c, b.trans d⟩
theorem okL_nil : okL [] = true := rfl
theorem endL_nil : endL [] = [] := rfl
theorem okL_some {l : List UInt8} {w : Nat} (hl : l ≠ []) (h : good1 l = some w) : okL l = okL (l.drop w) ∧ endL l = endL (l.drop w) := by
  have he : l.isEmpty = false := by cases l with | nil => exact absurd rfl hl | cons a b => rfl
  have h1 : 1 ≤ l.length := by cases l with | nil => exact absurd rfl hl | cons a b => simp
  have hp := good1_pos h
  obtain ⟨m, hm⟩ : ∃ m, l.length = m + 1 := ⟨l.length - 1, by omega⟩
  obtain ⟨a, b⟩ := ok_fuel (l.drop w) m (by simp; omega)
  unfold okL endL
  rw [hm, okF, endF, he, h]
  exact ⟨a, b⟩
theorem okL_none {l : List UInt8} (hl : l ≠ []) (h : good1 l = none) : okL l = false ∧ endL l = l := by
  have he : l.isEmpty = false := by cases l with | nil => exact absurd rfl hl | cons a b => rfl
  have h1 : 1 ≤ l.length := by cases l with | nil => exact absurd rfl hl | cons a b => simp
  obtain ⟨m, hm⟩ : ∃ m, l.length = m + 1 := ⟨l.length - 1, by omega⟩
  unfold okL endL
  rw [hm, okF, endF, he, h]
  exact ⟨rfl, rfl⟩
theorem bt_drop (l : List UInt8) (j k : Nat) : bt (l.drop j) k = bt l (j + k) := by
  unfold bt
  rw [List.getD_eq_getElem?_getD, List.getD_eq_getElem?_getD, List.getElem?_drop]
/-- Plain letters are passed over. -/
theorem okL_asc : ∀ (j : Nat) (l : List UInt8), j ≤ l.length → (∀ k, k < j → bt l k < 128) → okL l = okL (l.drop j) ∧ endL l = endL (l.drop j)
  | 0, l, _, _ => ⟨rfl, rfl⟩
  | j + 1, l, h, ha => by
    have hl : l ≠ [] := by intro e; subst e; simp at h
    have hg : good1 l = some 1 := by unfold good1; rw [if_pos (ha 0 (by omega))]
    obtain ⟨a, b⟩ := okL_some hl hg
    obtain ⟨c, d⟩ := okL_asc j (l.drop 1) (by simp; omega) (fun k hk => by rw [bt_drop, Nat.add_comm]; exact ha (k + 1) (by omega))
    rw [List.drop_drop] at c d
    rw [show j + 1 = 1 + j by omega]
    exact ⟨a.trans c, b.trans d⟩
end Go.Sim
namespace Go.Sim
theorem or_low {x y m : BitVec 64} (h : (x ||| y) &&& m = 0) : x &&& m = 0 ∧ y &&& m = 0 := by
  have key : ∀ i, i < 64 → ((x.getLsbD i || y.getLsbD i) && m.getLsbD i) = false := fun i hi => by
    have h1 := congrArg (fun z : BitVec 64 => z.getLsbD i) h
    simpa only [BitVec.getLsbD_and, BitVec.getLsbD_or, BitVec.ofNat_eq_ofNat, BitVec.getLsbD_zero] using h1
  constructor
  · apply BitVec.eq_of_getLsbD_eq
    intro i hi
    have := key i hi
    simp only [BitVec.getLsbD_and, BitVec.ofNat_eq_ofNat, BitVec.getLsbD_zero]
    revert this
    cases x.getLsbD i <;> cases y.getLsbD i <;> cases m.getLsbD i <;> simp
  · apply BitVec.eq_of_getLsbD_eq
    intro i hi
    have := key i hi
    simp only [BitVec.getLsbD_and, BitVec.ofNat_eq_ofNat, BitVec.getLsbD_zero]
    revert this
    cases x.getLsbD i <;> cases y.getLsbD i <;> cases m.getLsbD i <;> simp
def nullB (x : BitVec 64) : Bool := ((x.toNat : Nat) : Int) == (0 : Int)
theorem nullB_eq {x : BitVec 64} (h : nullB x = true) : x = 0 := by
  unfold nullB at h
  simp only [beq_iff_eq] at h
  apply BitVec.eq_of_toNat_eq
  simp
  omega
def low8 (l : List UInt8) : Bool := nullB (w8 l &&& m80)
def low16 (l : List UInt8) : Bool := nullB ((w8 l ||| w8 (l.drop 8)) &&& m80)
def low32 (l : List UInt8) : Bool := nullB (((w8 l ||| w8 (l.drop 8)) ||| (w8 (l.drop 16) ||| w8 (l.drop 24))) &&& m80)
theorem low8_asc {l : List UInt8} (h : low8 l = true) : ∀ k, k < 8 → bt l k < 128 := w8_low l (nullB_eq h)
theorem two_asc {l : List UInt8} {a b : Nat} (h1 : ∀ k, k < a → bt l k < 128) (h2 : ∀ k, k < b → bt (l.drop a) k < 128) : ∀ k, k < a + b → bt l k < 128 := fun k hk => by
  rcases Nat.lt_or_ge k a with h | h
  · exact h1 k h
  · have := h2 (k - a) (by omega)
    rw [bt_drop, show a + (k - a) = k by omega] at this
    exact this
theorem low16_asc {l : List UInt8} (h : low16 l = true) : ∀ k, k < 16 → bt l k < 128 := by
  obtain ⟨a, b⟩ := or_low (nullB_eq h)
  exact two_asc (a := 8) (b := 8) (w8_low l a) (w8_low _ b)
theorem low32_asc {l : List UInt8} (h : low32 l = true) : ∀ k, k < 32 → bt l k < 128 := by
  obtain ⟨a, b⟩ := or_low (nullB_eq h)
  obtain ⟨a1, a2⟩ := or_low a
  obtain ⟨b1, b2⟩ := or_low b
  have e : l.drop 24 = (l.drop 16).drop 8 := by rw [List.drop_drop]
  rw [e] at b2
  exact two_asc (a := 16) (b := 16) (two_asc (a := 8) (b := 8) (w8_low l a1) (w8_low _ a2)) (two_asc (a := 8) (b := 8) (w8_low _ b1) (w8_low _ b2))
def skipF : Nat → List UInt8 → List UInt8
  | 0, l => l
  | m + 1, l => bif decide (l.length > 32) && low32 l then skipF m (l.drop 32) else l
theorem skipF_ok : ∀ (m : Nat) (l : List UInt8), okL (skipF m l) = okL l ∧ endL (skipF m l) = endL l ∧ (skipF m l).length ≤ l.length
  | 0, l => ⟨rfl, rfl, Nat.le_refl _⟩
  | m + 1, l => by
    simp only [skipF]
    cases h : (decide (l.length > 32) && low32 l)
    · exact ⟨rfl, rfl, Nat.le_refl _⟩
    · simp only [Bool.and_eq_true, decide_eq_true_eq] at h
      obtain ⟨a, b⟩ := okL_asc 32 l (by omega) (low32_asc h.2)
      obtain ⟨c, d, e⟩ := skipF_ok m (l.drop 32)
      rw [List.length_drop] at e
      exact ⟨c.trans a.symm, d.trans b.symm, by simp only [cond_true]; omega⟩
def skip32 (l : List UInt8) : List UInt8 := skipF l.length l
/-- What is left behind a plain letter: more of them may be passed over. -/
def adv (t : List UInt8) : List UInt8 :=
  bif decide (t.length > 8) && low8 t then (bif decide ((t.drop 8).length > 16) && low16 (t.drop 8) then skip32 ((t.drop 8).drop 16) else t.drop 8) else t
theorem adv_ok (t : List UInt8) : okL (adv t) = okL t ∧ endL (adv t) = endL t ∧ (adv t).length ≤ t.length := by
  unfold adv
  cases h : (decide (t.length > 8) && low8 t)
  · exact ⟨rfl, rfl, Nat.le_refl _⟩
  · simp only [Bool.and_eq_true, decide_eq_true_eq] at h
    obtain ⟨a, b⟩ := okL_asc 8 t (by omega) (low8_asc h.2)
    simp only [cond_true]
    cases h2 : (decide ((t.drop 8).length > 16) && low16 (t.drop 8))
    · simp only [cond_false]
      exact ⟨a.symm, b.symm, by simp⟩
    · simp only [Bool.and_eq_true, decide_eq_true_eq] at h2
      obtain ⟨c, d⟩ := okL_asc 16 (t.drop 8) (by omega) (low16_asc h2.2)
      obtain ⟨e, f, g⟩ := skipF_ok ((t.drop 8).drop 16).length ((t.drop 8).drop 16)
      simp only [cond_true]
      unfold skip32
      refine ⟨e.trans (c.symm.trans a.symm), f.trans (d.symm.trans b.symm), ?_⟩
      simp only [List.length_drop] at g ⊢
      omega
end Go.Sim
namespace Go.Sim
def lettersL : List UInt8 := [97, 98, 99, 100, 101, 102, 103, 104, 105, 106, 107, 108, 109, 110, 111, 112, 113, 114, 115, 116, 117, 118, 119, 120, 121, 122, 48, 49, 50, 51, 52, 53, 54, 55, 56, 57]
def signsL : List UInt8 := [45, 95, 46]
def mayR (c : Int) : Bool := hasR lettersL c || hasR signsL c || (decide (c ≥ 161) && decide (c ≤ 65535) && c != 173 && c != 65279)
/-- May this rune not stand here? -/
def badR (c : Int) (first : Bool) : Bool := !mayR c || (first && hasR signsL c)
/-- The first bad rune: how many stand ahead of it; how many bytes there are, it with them. -/
def failF : Nat → List UInt8 → Bool → Option (Nat × Nat)
  | 0, _, _ => none
  | m + 1, l, first => bif l.isEmpty then none else bif badR (((dec1 l).1 : Nat) : Int) first then some (0, (dec1 l).2) else (failF m (l.drop (dec1 l).2) false).map fun p => (p.1 + 1, (dec1 l).2 + p.2)
def validL (s : List UInt8) : Bool := !(failF s.length s true).isSome && (decide ((cnt s : Int) > 0) && decide ((cnt s : Int) ≤ 40) && okL s)
end Go.Sim
namespace Go.Sim
set_option linter.unusedSimpArgs false
set_option linter.unusedVariables false
theorem env_nil : ∀ x ∈ ([] : List (FuncId × Con)), HoldsC P0 x.1 x.2 := fun x h => by cases h

theorem drop_ne {s : List UInt8} {pos : Nat} (h : pos < s.length) : s.drop pos ≠ [] := by
  intro e
  have := congrArg List.length e
  simp at this
  omega
theorem among_rd {R : Type} (s : List UInt8) (pos : Nat) (c : Int) (f : Bool) (K : Ex → St → Option R) : roundK (env []) H.names_among 0 (LPof []) V.names_among_2 L.names_among_2 ⟨[(1, .int .i32 c), (4, .bool f), (8, .it 0)], [(0, .siter s pos)], 1⟩ K = bif decide (pos < s.length) then bif (↑(Utf8.decode { data := s.toArray } pos).fst : Int) == c then K Ex.ret { slots := [(1, AV.int IntKind.i32 c), (4, AV.bool true), (8, AV.it 0)], objs := [(0, AObj.siter s (pos + (Utf8.decode { data := s.toArray } pos).snd))], nx := 1 } else K Ex.normal { slots := [(1, AV.int IntKind.i32 c), (4, AV.bool f), (8, AV.it 0)], objs := [(0, AObj.siter s (pos + (Utf8.decode { data := s.toArray } pos).snd))], nx := 1 } else K (Ex.exit 0) { slots := [(1, AV.int IntKind.i32 c), (4, AV.bool f), (8, AV.it 0)], objs := [(0, AObj.siter s pos)], nx := 1 } := by kernel_rfl

def amongSt (s : List UInt8) (pos : Nat) (c : Int) (f : Bool) : St := ⟨[(1, .int .i32 c), (4, .bool f), (8, .it 0)], [(0, .siter s pos)], 1⟩
theorem among_loop (s : List UInt8) (c : Int) (f : Bool) {R : Type} (K : Ex → St → Option R) : ∀ (m pos : Nat), s.length ≤ pos + m → pos ≤ s.length →
    rounds (env []) H.names_among 0 (LPof []) V.names_among_2 L.names_among_2 (m + 1) (amongSt s pos c f) K =
      match findF m (s.drop pos) c with
      | some k => K .ret (amongSt s (pos + k) c true)
      | none => K (.exit 0) (amongSt s s.length c f)
  | 0, pos, h, hp => by
    have : pos = s.length := by omega
    subst this
    rw [rounds_succ']
    unfold amongSt
    rw [among_rd, cond_neg (by omega)]
    rfl
  | m + 1, pos, h, hp => by
    rw [rounds_succ']
    unfold amongSt
    by_cases hlt : pos < s.length
    · have hne := drop_ne hlt
      have hw := dec1_pos (s.drop pos)
      have hle := dec1_le _ hne
      rw [List.length_drop] at hle
      have hem : (s.drop pos).isEmpty = false := by cases hd : s.drop pos with | nil => exact absurd hd hne | cons a b => rfl
      rw [among_rd, cond_pos hlt, decode_dec1]
      simp only [findF, hem, cond_false]
      cases hc : ((((dec1 (s.drop pos)).1 : Nat) : Int) == c)
      · have ih := among_loop s c f K m (pos + (dec1 (s.drop pos)).2) (by omega) (by omega)
        simp only [cond_false]
        rw [List.drop_drop]
        refine Eq.trans ih ?_
        cases findF m (s.drop (pos + (dec1 (s.drop pos)).2)) c with
        | none => rfl
        | some k => simp only [Option.map_some, Nat.add_assoc]; rfl
      · rfl
    · have : pos = s.length := by omega
      subst this
      rw [among_rd, cond_neg (by omega)]
      simp [findF]
def amongPat : SPat := ⟨[(1, .int .i32), (4, .bool), (8, .lit (.it 0))], [.siter]⟩
def amongLC : LoopC := LoopC.of amongPat (fun x => decide (x.2.1.2 = 0))
  fun x => [((findF (List.length x.2.1.1) x.2.1.1 x.1.1).isSome, .ret, amongSt x.2.1.1 ((findF (List.length x.2.1.1) x.2.1.1 x.1.1).getD 0) x.1.1 true), (true, .exit 0, amongSt x.2.1.1 (List.length x.2.1.1) x.1.1 x.1.2.1)]
theorem among_lok : LoopOK P0 H.names_among 0 L.names_among_2 amongLC := loop_ok_of (env_ok env_nil) glob0 mixed0 noLoops V.names_among_2 (by decide) fun ⟨⟨c, f, _, _⟩, ⟨s, pos⟩, _⟩ h hw => by
  obtain rfl := of_decide_eq_true h
  have := among_loop s c f (fun e s => some (e, s)) (List.length s) 0 (by omega) (Nat.zero_le _)
  rw [List.drop_zero] at this
  refine ⟨_, Eq.trans this ?_⟩
  simp only [pick]
  cases findF s.length s c with
  | none => rfl
  | some k => simp only [Nat.zero_add]; rfl
theorem among_ev (s : List UInt8) (c : Int) : evFn (env []) H.names_among (LPof [(2, amongLC)]) F.names_among [.str s, .int .i32 c] [] (finK 0) = bif (findF s.length s c).isSome then some (AV.bool true, []) else some (AV.bool false, []) := by kernel_rfl

def caseAmong : PCase := ⟨[.ty .str, .ty (.int .i32)], [.bool], fun x => [(true, (hasR x.1 x.2.1, ()))]⟩
theorem among_val (s : List UInt8) (c : Int) : evFn (env []) H.names_among (LPof [(2, amongLC)]) F.names_among [.str s, .int .i32 c] [] (finK 0) = some (.bool (hasR s c), []) := by
  rw [among_ev]
  unfold hasR
  cases (findF s.length s c).isSome <;> rfl
theorem among_ok : caseAmong.ok P0 I.names_among := case_ok (H := H.names_among) (E := env []) (env_ok env_nil) glob0 mixed0 G.names_among Bd.names_among (by kernel_rfl) (loops_good (tab := [(2, amongLC)]) (by kernel_rfl) (fun x hx => by simp at hx; subst hx; exact among_lok)) fun ⟨s, c, ()⟩ y h hw => by
  obtain rfl := pick_one h
  exact ⟨[], among_val s c⟩
noncomputable abbrev consM1 : List (FuncId × Con) := [(I.names_among, .pure (pureOf [caseAmong]))]
theorem consM1_ok : ∀ x ∈ consM1, HoldsC P0 x.1 x.2 := by
  intro x hx
  simp at hx
  subst hx
  exact ⟨pureOf_holds (by simp; exact among_ok), C.names_among⟩
theorem may_ev (c : Int) : evFn (env consM1) H.names_may (LPof []) F.names_may [.int .i32 c] [] (finK 0) = Option.bind (bif hasR [(97 : UInt8), (98 : UInt8), (99 : UInt8), (100 : UInt8), (101 : UInt8), (102 : UInt8), (103 : UInt8), (104 : UInt8), (105 : UInt8), (106 : UInt8), (107 : UInt8), (108 : UInt8), (109 : UInt8), (110 : UInt8), (111 : UInt8), (112 : UInt8), (113 : UInt8), (114 : UInt8), (115 : UInt8), (116 : UInt8), (117 : UInt8), (118 : UInt8), (119 : UInt8), (120 : UInt8), (121 : UInt8), (122 : UInt8), (48 : UInt8), (49 : UInt8), (50 : UInt8), (51 : UInt8), (52 : UInt8), (53 : UInt8), (54 : UInt8), (55 : UInt8), (56 : UInt8), (57 : UInt8)] c then some true else bif hasR [(45 : UInt8), (95 : UInt8), (46 : UInt8)] c then some true else bif decide (c ≥ (161 : Int)) then bif decide (c ≤ (65535 : Int)) then bif c != (173 : Int) then some (c != (65279 : Int)) else some false else some false else some false) fun v => some (AV.bool v, []) := by kernel_rfl

def caseMay : PCase := ⟨[.ty (.int .i32)], [.bool], fun x => [(true, (mayR x.1, ()))]⟩
theorem may_val (c : Int) : evFn (env consM1) H.names_may (LPof []) F.names_may [.int .i32 c] [] (finK 0) = some (.bool (mayR c), []) := by
  rw [may_ev]
  unfold mayR lettersL signsL
  generalize hasR _ c = a
  generalize hasR _ c = b
  cases a <;> cases b <;> cases decide (c ≥ 161) <;> cases decide (c ≤ 65535) <;> cases c != 173 <;> rfl
theorem may_ok : caseMay.ok P0 I.names_may := case_ok (H := H.names_may) (E := env consM1) (env_ok consM1_ok) glob0 mixed0 G.names_may Bd.names_may (by kernel_rfl) noLoops fun ⟨c, ()⟩ y h hw => by
  obtain rfl := pick_one h
  exact ⟨[], may_val c⟩
theorem word_ev (s : List UInt8) : evFn (env []) H.unicode_utf8_word_string (LPof []) F.unicode_utf8_word_string [.str s] [] (finK 0) = bif decide ((0 : Int) < (↑s.length : Int)) then bif decide ((1 : Int) < (↑s.length : Int)) then bif decide ((2 : Int) < (↑s.length : Int)) then bif decide ((3 : Int) < (↑s.length : Int)) then bif decide ((4 : Int) < (↑s.length : Int)) then bif decide ((5 : Int) < (↑s.length : Int)) then bif decide ((6 : Int) < (↑s.length : Int)) then bif decide ((7 : Int) < (↑s.length : Int)) then some (AV.int IntKind.u64 (IntKind.u64.wrap (↑(BitVec.ofInt 64 (IntKind.u64.wrap (↑(BitVec.ofInt 64 (IntKind.u64.wrap (↑(BitVec.ofInt 64 (IntKind.u64.wrap (↑(BitVec.ofInt 64 (IntKind.u64.wrap (↑(BitVec.ofInt 64 (IntKind.u64.wrap (↑(BitVec.ofInt 64 (IntKind.u64.wrap (↑(BitVec.ofInt 64 (IntKind.u64.wrap (↑(s.getD 0 (0 : UInt8)).toNat : Int)) ||| BitVec.ofInt 64 (IntKind.u64.wrap (IntKind.u64.wrap (↑(s.getD 1 (0 : UInt8)).toNat : Int) * (256 : Int)))).toNat : Int)) ||| BitVec.ofInt 64 (IntKind.u64.wrap (IntKind.u64.wrap (↑(s.getD 2 (0 : UInt8)).toNat : Int) * (65536 : Int)))).toNat : Int)) ||| BitVec.ofInt 64 (IntKind.u64.wrap (IntKind.u64.wrap (↑(s.getD 3 (0 : UInt8)).toNat : Int) * (16777216 : Int)))).toNat : Int)) ||| BitVec.ofInt 64 (IntKind.u64.wrap (IntKind.u64.wrap (↑(s.getD 4 (0 : UInt8)).toNat : Int) * (4294967296 : Int)))).toNat : Int)) ||| BitVec.ofInt 64 (IntKind.u64.wrap (IntKind.u64.wrap (↑(s.getD 5 (0 : UInt8)).toNat : Int) * (1099511627776 : Int)))).toNat : Int)) ||| BitVec.ofInt 64 (IntKind.u64.wrap (IntKind.u64.wrap (↑(s.getD 6 (0 : UInt8)).toNat : Int) * (281474976710656 : Int)))).toNat : Int)) ||| BitVec.ofInt 64 (IntKind.u64.wrap (IntKind.u64.wrap (↑(s.getD 7 (0 : UInt8)).toNat : Int) * (72057594037927936 : Int)))).toNat : Int)), []) else none else none else none else none else none else none else none else none := by kernel_rfl

def caseWord : PCase := ⟨[.ty .str], [.int .u64], fun x => [(decide (8 ≤ List.length x.1), (((w8 x.1).toNat : Int), ()))]⟩
theorem word_val (s : List UInt8) (h : 8 ≤ s.length) : evFn (env []) H.unicode_utf8_word_string (LPof []) F.unicode_utf8_word_string [.str s] [] (finK 0) = some (.int .u64 ((w8 s).toNat : Int), []) := by
  rw [word_ev, cond_pos (by omega), cond_pos (by omega), cond_pos (by omega), cond_pos (by omega), cond_pos (by omega), cond_pos (by omega), cond_pos (by omega), cond_pos (by omega)]
  have hz : ∀ x : BitVec 64, BitVec.ofInt 64 ((x.toNat : Nat) : Int) = x := fun x => by simp
  simp only [hz, ofInt_byte, ofInt_shift s 1 256 rfl (by decide), ofInt_shift s 2 65536 rfl (by decide), ofInt_shift s 3 16777216 rfl (by decide), ofInt_shift s 4 4294967296 rfl (by decide), ofInt_shift s 5 1099511627776 rfl (by decide), ofInt_shift s 6 281474976710656 rfl (by decide), ofInt_shift s 7 72057594037927936 rfl (by decide), ofInt_wrap, wrap_toNat]
  rfl
theorem word_ok : caseWord.ok P0 I.unicode_utf8_word_string := case_ok (H := H.unicode_utf8_word_string) (E := env []) (env_ok env_nil) glob0 mixed0 G.unicode_utf8_word_string Bd.unicode_utf8_word_string (by kernel_rfl) noLoops fun ⟨s, ()⟩ y h hw => by
  obtain ⟨hc, rfl⟩ := pick_pre h
  exact ⟨[], word_val s (of_decide_eq_true hc)⟩
noncomputable abbrev consW : List (FuncId × Con) := [(I.unicode_utf8_word_string, .pure (pureOf [caseWord]))]
theorem consW_ok : ∀ x ∈ consW, HoldsC P0 x.1 x.2 := by
  intro x hx
  simp at hx
  subst hx
  exact ⟨pureOf_holds (by simp; exact word_ok), C.unicode_utf8_word_string⟩
theorem vs9_rd {R : Type} (s : List UInt8) (f : Bool) (K : Ex → St → Option R) : roundK (env consW) H.unicode_utf8_ValidString 0 (LPof []) V.unicode_utf8_ValidString_9 L.unicode_utf8_ValidString_9 ⟨[(0, .str s), (2, .bool f)], [], 0⟩ K = Option.bind (bif decide ((↑s.length : Int) > (32 : Int)) then bif decide (8 ≤ s.length) then bif decide ((8 : Int) ≤ (↑s.length : Int)) then bif decide (8 ≤ (List.drop 8 s).length) then bif decide ((16 : Int) ≤ (↑s.length : Int)) then bif decide (8 ≤ (List.drop 16 s).length) then bif decide ((24 : Int) ≤ (↑s.length : Int)) then bif decide (8 ≤ (List.drop 24 s).length) then some (IntKind.u64.wrap (↑(BitVec.ofInt 64 (IntKind.u64.wrap (↑(BitVec.ofInt 64 (IntKind.u64.wrap (↑(BitVec.ofInt 64 (↑(w8 s).toNat : Int) ||| BitVec.ofInt 64 (↑(w8 (List.drop 8 s)).toNat : Int)).toNat : Int)) ||| BitVec.ofInt 64 (IntKind.u64.wrap (↑(BitVec.ofInt 64 (↑(w8 (List.drop 16 s)).toNat : Int) ||| BitVec.ofInt 64 (↑(w8 (List.drop 24 s)).toNat : Int)).toNat : Int))).toNat : Int)) &&& BitVec.ofInt 64 (9259542123273814144 : Int)).toNat : Int) == (0 : Int)) else none else none else none else none else none else none else none else some false) fun v => bif v then bif decide ((32 : Int) ≤ (↑s.length : Int)) then K Ex.normal { slots := [(0, AV.str (List.drop 32 s)), (2, AV.bool f)], objs := [], nx := 0 } else none else K (Ex.exit 2) { slots := [(0, AV.str s), (2, AV.bool f)], objs := [], nx := 0 } := by kernel_rfl

theorem ofInt_toNat64 (x : BitVec 64) : BitVec.ofInt 64 ((x.toNat : Nat) : Int) = x := by simp
theorem cond_some {c : Prop} [Decidable c] {b : Bool} {R : Type} (k : Bool → Option R) (h : Bool) : (bif decide c then some h else some false).bind k = k (decide c && h) := by
  by_cases hc : c <;> simp [hc]
theorem vs9_round {R : Type} (s : List UInt8) (f : Bool) (K : Ex → St → Option R) : roundK (env consW) H.unicode_utf8_ValidString 0 (LPof []) V.unicode_utf8_ValidString_9 L.unicode_utf8_ValidString_9 ⟨[(0, .str s), (2, .bool f)], [], 0⟩ K =
    bif decide (s.length > 32) && low32 s then K .normal ⟨[(0, .str (s.drop 32)), (2, .bool f)], [], 0⟩ else K (.exit 2) ⟨[(0, .str s), (2, .bool f)], [], 0⟩ := by
  rw [vs9_rd]
  by_cases h : s.length > 32
  · have h1 : 8 ≤ (s.drop 8).length := by simp; omega
    have h2 : 8 ≤ (s.drop 16).length := by simp; omega
    have h3 : 8 ≤ (s.drop 24).length := by simp; omega
    rw [cond_pos (by omega), cond_pos (by omega), cond_pos (by omega), cond_pos h1, cond_pos (by omega), cond_pos h2, cond_pos (by omega), cond_pos h3]
    simp only [ofInt_toNat64, wrap_toNat, Option.bind_some]
    rw [show (((((w8 s ||| w8 (s.drop 8)) ||| (w8 (s.drop 16) ||| w8 (s.drop 24))) &&& BitVec.ofInt 64 (9259542123273814144 : Int)).toNat : Int) == (0 : Int)) = low32 s from rfl]
    have hd : decide (s.length > 32) = true := decide_eq_true h
    rw [hd, Bool.true_and]
    cases low32 s
    · rfl
    · simp only [cond_true]
      rw [cond_pos (by omega)]
  · have hd : decide (s.length > 32) = false := decide_eq_false h
    rw [cond_neg (by omega), hd]
    rfl
theorem vs9_loop {R : Type} (f : Bool) (K : Ex → St → Option R) : ∀ (m : Nat) (s : List UInt8), s.length ≤ m → rounds (env consW) H.unicode_utf8_ValidString 0 (LPof []) V.unicode_utf8_ValidString_9 L.unicode_utf8_ValidString_9 (m + 1) ⟨[(0, .str s), (2, .bool f)], [], 0⟩ K = K (.exit 2) ⟨[(0, .str (skipF m s)), (2, .bool f)], [], 0⟩
  | 0, s, h => by
    have hd : decide (s.length > 32) = false := decide_eq_false (by omega)
    rw [rounds_succ', vs9_round, hd]
    rfl
  | m + 1, s, h => by
    rw [rounds_succ', vs9_round]
    simp only [skipF]
    cases hc : (decide (s.length > 32) && low32 s)
    · rfl
    · simp only [Bool.and_eq_true, decide_eq_true_eq] at hc
      exact vs9_loop f K m (s.drop 32) (by simp; omega)
def vs9Pat : SPat := ⟨[(0, .str), (2, .bool)], []⟩
def vs9LC : LoopC := LoopC.of vs9Pat (fun _ => true) fun x => [(true, .exit 2, ⟨[(0, .str (skip32 x.1.1)), (2, .bool x.1.2.1)], [], 0⟩)]
theorem vs9_lok : LoopOK P0 H.unicode_utf8_ValidString 0 L.unicode_utf8_ValidString_9 vs9LC := loop_ok_of (env_ok consW_ok) glob0 mixed0 noLoops V.unicode_utf8_ValidString_9 (by decide) fun ⟨⟨s, f, _⟩, _⟩ h hw =>
  ⟨_, vs9_loop f (fun e s => some (e, s)) (List.length s) s (Nat.le_refl _)⟩

theorem vs1_rd {R : Type} (s : List UInt8) (f : Bool) (K : Ex → St → Option R) : roundK (env consW) H.unicode_utf8_ValidString 0 (LPof [(9, vs9LC)]) V.unicode_utf8_ValidString_1 L.unicode_utf8_ValidString_1 ⟨[(0, .str s), (2, .bool f)], [], 0⟩ K = bif decide ((↑s.length : Int) > (0 : Int)) then bif decide ((0 : Int) < (↑s.length : Int)) then bif decide ((↑(s.getD 0 (0 : UInt8)).toNat : Int) < (128 : Int)) then bif decide ((1 : Int) ≤ (↑s.length : Int)) then Option.bind (bif decide ((↑(List.drop 1 s).length : Int) > (8 : Int)) then bif decide (8 ≤ (List.drop 1 s).length) then some (IntKind.u64.wrap (↑(BitVec.ofInt 64 (↑(w8 (List.drop 1 s)).toNat : Int) &&& BitVec.ofInt 64 (9259542123273814144 : Int)).toNat : Int) == (0 : Int)) else none else some false) fun v => bif v then bif decide ((8 : Int) ≤ (↑(List.drop 1 s).length : Int)) then Option.bind (bif decide ((↑(List.drop 8 (List.drop 1 s)).length : Int) > (16 : Int)) then bif decide (8 ≤ (List.drop 8 (List.drop 1 s)).length) then bif decide ((8 : Int) ≤ (↑(List.drop 8 (List.drop 1 s)).length : Int)) then bif decide (8 ≤ (List.drop 8 (List.drop 8 (List.drop 1 s))).length) then some (IntKind.u64.wrap (↑(BitVec.ofInt 64 (IntKind.u64.wrap (↑(BitVec.ofInt 64 (↑(w8 (List.drop 8 (List.drop 1 s))).toNat : Int) ||| BitVec.ofInt 64 (↑(w8 (List.drop 8 (List.drop 8 (List.drop 1 s)))).toNat : Int)).toNat : Int)) &&& BitVec.ofInt 64 (9259542123273814144 : Int)).toNat : Int) == (0 : Int)) else none else none else none else some false) fun v => bif v then bif decide ((16 : Int) ≤ (↑(List.drop 8 (List.drop 1 s)).length : Int)) then K Ex.normal { slots := [(0, AV.str (skip32 (List.drop 16 (List.drop 8 (List.drop 1 s))))), (2, AV.bool f)], objs := [], nx := 0 } else none else K Ex.normal { slots := [(0, AV.str (List.drop 8 (List.drop 1 s))), (2, AV.bool f)], objs := [], nx := 0 } else none else K Ex.normal { slots := [(0, AV.str (List.drop 1 s)), (2, AV.bool f)], objs := [], nx := 0 } else none else bif decide ((0 : Int) ≤ (↑(s.getD 0 (0 : UInt8)).toNat : Int)) && decide ((↑(s.getD 0 (0 : UInt8)).toNat : Int) < (256 : Int)) then bif decide ((0 : Int) ≤ Int.fdiv (utf8First.getD (s.getD 0 (0 : UInt8)).toNat (0 : Int)) (16 : Int)) && decide (Int.fdiv (utf8First.getD (s.getD 0 (0 : UInt8)).toNat (0 : Int)) (16 : Int) < (16 : Int)) then bif IntKind.i64.wrap (IntKind.u8.wrap (↑(BitVec.ofInt 8 (utf8First.getD (s.getD 0 (0 : UInt8)).toNat (0 : Int)) &&& BitVec.ofInt 8 (7 : Int)).toNat : Int)) == (2 : Int) then Option.bind (bif decide ((↑s.length : Int) < (2 : Int)) then some true else bif decide ((1 : Int) < (↑s.length : Int)) then bif decide ((↑(s.getD 1 (0 : UInt8)).toNat : Int) < (utf8Acc.getD (Int.fdiv (utf8First.getD (s.getD 0 (0 : UInt8)).toNat (0 : Int)) (16 : Int)).toNat ((Ty.int IntKind.u8).pair (Ty.int IntKind.u8)).zero).fst) then some true else bif decide ((1 : Int) < (↑s.length : Int)) then some (decide ((utf8Acc.getD (Int.fdiv (utf8First.getD (s.getD 0 (0 : UInt8)).toNat (0 : Int)) (16 : Int)).toNat ((Ty.int IntKind.u8).pair (Ty.int IntKind.u8)).zero).snd < (↑(s.getD 1 (0 : UInt8)).toNat : Int))) else none else none) fun v => bif v then K Ex.ret { slots := [(0, AV.str s), (2, AV.bool false)], objs := [], nx := 0 } else bif decide ((2 : Int) ≤ (↑s.length : Int)) then K Ex.normal { slots := [(0, AV.str (List.drop 2 s)), (2, AV.bool f)], objs := [], nx := 0 } else none else bif IntKind.i64.wrap (IntKind.u8.wrap (↑(BitVec.ofInt 8 (utf8First.getD (s.getD 0 (0 : UInt8)).toNat (0 : Int)) &&& BitVec.ofInt 8 (7 : Int)).toNat : Int)) == (3 : Int) then Option.bind (bif decide ((↑s.length : Int) < (3 : Int)) then some true else bif decide ((1 : Int) < (↑s.length : Int)) then bif decide ((↑(s.getD 1 (0 : UInt8)).toNat : Int) < (utf8Acc.getD (Int.fdiv (utf8First.getD (s.getD 0 (0 : UInt8)).toNat (0 : Int)) (16 : Int)).toNat ((Ty.int IntKind.u8).pair (Ty.int IntKind.u8)).zero).fst) then some true else bif decide ((1 : Int) < (↑s.length : Int)) then bif decide ((utf8Acc.getD (Int.fdiv (utf8First.getD (s.getD 0 (0 : UInt8)).toNat (0 : Int)) (16 : Int)).toNat ((Ty.int IntKind.u8).pair (Ty.int IntKind.u8)).zero).snd < (↑(s.getD 1 (0 : UInt8)).toNat : Int)) then some true else bif decide ((2 : Int) < (↑s.length : Int)) then bif decide ((↑(s.getD 2 (0 : UInt8)).toNat : Int) < (128 : Int)) then some true else bif decide ((2 : Int) < (↑s.length : Int)) then some (decide ((191 : Int) < (↑(s.getD 2 (0 : UInt8)).toNat : Int))) else none else none else none else none) fun v => bif v then K Ex.ret { slots := [(0, AV.str s), (2, AV.bool false)], objs := [], nx := 0 } else bif decide ((3 : Int) ≤ (↑s.length : Int)) then K Ex.normal { slots := [(0, AV.str (List.drop 3 s)), (2, AV.bool f)], objs := [], nx := 0 } else none else bif IntKind.i64.wrap (IntKind.u8.wrap (↑(BitVec.ofInt 8 (utf8First.getD (s.getD 0 (0 : UInt8)).toNat (0 : Int)) &&& BitVec.ofInt 8 (7 : Int)).toNat : Int)) == (4 : Int) then Option.bind (bif decide ((↑s.length : Int) < (4 : Int)) then some true else bif decide ((1 : Int) < (↑s.length : Int)) then bif decide ((↑(s.getD 1 (0 : UInt8)).toNat : Int) < (utf8Acc.getD (Int.fdiv (utf8First.getD (s.getD 0 (0 : UInt8)).toNat (0 : Int)) (16 : Int)).toNat ((Ty.int IntKind.u8).pair (Ty.int IntKind.u8)).zero).fst) then some true else bif decide ((1 : Int) < (↑s.length : Int)) then bif decide ((utf8Acc.getD (Int.fdiv (utf8First.getD (s.getD 0 (0 : UInt8)).toNat (0 : Int)) (16 : Int)).toNat ((Ty.int IntKind.u8).pair (Ty.int IntKind.u8)).zero).snd < (↑(s.getD 1 (0 : UInt8)).toNat : Int)) then some true else bif decide ((2 : Int) < (↑s.length : Int)) then bif decide ((↑(s.getD 2 (0 : UInt8)).toNat : Int) < (128 : Int)) then some true else bif decide ((2 : Int) < (↑s.length : Int)) then bif decide ((191 : Int) < (↑(s.getD 2 (0 : UInt8)).toNat : Int)) then some true else bif decide ((3 : Int) < (↑s.length : Int)) then bif decide ((↑(s.getD 3 (0 : UInt8)).toNat : Int) < (128 : Int)) then some true else bif decide ((3 : Int) < (↑s.length : Int)) then some (decide ((191 : Int) < (↑(s.getD 3 (0 : UInt8)).toNat : Int))) else none else none else none else none else none else none) fun v => bif v then K Ex.ret { slots := [(0, AV.str s), (2, AV.bool false)], objs := [], nx := 0 } else bif decide ((4 : Int) ≤ (↑s.length : Int)) then K Ex.normal { slots := [(0, AV.str (List.drop 4 s)), (2, AV.bool f)], objs := [], nx := 0 } else none else K Ex.ret { slots := [(0, AV.str s), (2, AV.bool false)], objs := [], nx := 0 } else none else none else none else K (Ex.exit 0) { slots := [(0, AV.str s), (2, AV.bool f)], objs := [], nx := 0 } := by kernel_rfl

def vsSt (s : List UInt8) (f : Bool) : St := ⟨[(0, .str s), (2, .bool f)], [], 0⟩
theorem vs1_end {R : Type} (f : Bool) (K : Ex → St → Option R) : roundK (env consW) H.unicode_utf8_ValidString 0 (LPof [(9, vs9LC)]) V.unicode_utf8_ValidString_1 L.unicode_utf8_ValidString_1 (vsSt [] f) K = K (.exit 0) (vsSt [] f) := by
  unfold vsSt
  rw [vs1_rd, cond_neg (by simp)]
theorem vs1_asc {R : Type} (s : List UInt8) (f : Bool) (hl : 1 ≤ s.length) (h : bt s 0 < 128) (K : Ex → St → Option R) : roundK (env consW) H.unicode_utf8_ValidString 0 (LPof [(9, vs9LC)]) V.unicode_utf8_ValidString_1 L.unicode_utf8_ValidString_1 (vsSt s f) K = K .normal (vsSt (adv (s.drop 1)) f) := by
  unfold bt at h
  unfold vsSt
  rw [vs1_rd, cond_pos (by omega), cond_pos (by omega), cond_pos (by omega), cond_pos (by omega)]
  unfold adv
  by_cases h8 : (s.drop 1).length > 8
  · have hd : decide ((s.drop 1).length > 8) = true := decide_eq_true h8
    rw [hd, cond_pos (by omega), cond_pos (by omega)]
    simp only [ofInt_toNat64, wrap_toNat, Option.bind_some, Bool.true_and]
    rw [show ((((w8 (s.drop 1)) &&& BitVec.ofInt 64 (9259542123273814144 : Int)).toNat : Int) == (0 : Int)) = low8 (s.drop 1) from rfl]
    cases low8 (s.drop 1)
    · rfl
    · simp only [cond_true]
      rw [cond_pos (by omega)]
      by_cases h16 : ((s.drop 1).drop 8).length > 16
      · have hd2 : decide (((s.drop 1).drop 8).length > 16) = true := decide_eq_true h16
        have h8' : 8 ≤ (((s.drop 1).drop 8).drop 8).length := by rw [List.length_drop]; omega
        rw [hd2, cond_pos (by omega), cond_pos (by omega), cond_pos (by omega), cond_pos h8']
        simp only [Option.bind_some, Bool.true_and]
        rw [show ((((w8 ((s.drop 1).drop 8) ||| w8 (((s.drop 1).drop 8).drop 8)) &&& BitVec.ofInt 64 (9259542123273814144 : Int)).toNat : Int) == (0 : Int)) = low16 ((s.drop 1).drop 8) from rfl]
        cases low16 ((s.drop 1).drop 8)
        · rfl
        · simp only [cond_true]
          rw [cond_pos (by omega)]
      · have hd2 : decide (((s.drop 1).drop 8).length > 16) = false := decide_eq_false h16
        rw [hd2, cond_neg (by omega)]
        rfl
  · have hd : decide ((s.drop 1).length > 8) = false := decide_eq_false h8
    rw [hd, cond_neg (by omega)]
    rfl

theorem vs1_head {R : Type} (s : List UInt8) (f : Bool) (hl : 1 ≤ s.length) (h : 128 ≤ bt s 0) {F q : Int} {lo hi : Int} (hF : utf8F (bt s 0) = F) (hq : Int.fdiv F 16 = q) (h0 : 0 ≤ q) (h1 : q < 16)
    (ha : utf8Acc.getD q.toNat (0, 0) = (lo, hi)) (K : Ex → St → Option R) (z : Int) (hz : IntKind.i64.wrap (IntKind.u8.wrap (↑(BitVec.ofInt 8 F &&& BitVec.ofInt 8 (7 : Int)).toNat : Int)) = z) :
    roundK (env consW) H.unicode_utf8_ValidString 0 (LPof [(9, vs9LC)]) V.unicode_utf8_ValidString_1 L.unicode_utf8_ValidString_1 (vsSt s f) K =
      bif z == (2 : Int) then (bif decide (2 ≤ s.length) && (decide (lo ≤ (bt s 1 : Int)) && decide ((bt s 1 : Int) ≤ hi)) then K .normal (vsSt (s.drop 2) f) else K .ret (vsSt s false))
      else bif z == (3 : Int) then (bif decide (3 ≤ s.length) && (decide (lo ≤ (bt s 1 : Int)) && decide ((bt s 1 : Int) ≤ hi)) && tailB (bt s 2) then K .normal (vsSt (s.drop 3) f) else K .ret (vsSt s false))
      else bif z == (4 : Int) then (bif decide (4 ≤ s.length) && (decide (lo ≤ (bt s 1 : Int)) && decide ((bt s 1 : Int) ≤ hi)) && tailB (bt s 2) && tailB (bt s 3) then K .normal (vsSt (s.drop 4) f) else K .ret (vsSt s false))
      else K .ret (vsSt s false) := by
  have hF' : utf8First.getD (s.getD 0 0).toNat (0 : Int) = F := (utf8First_get _ (bt_lt s 0)).trans hF
  have hb := bt_lt s 0
  unfold bt at h hb
  unfold vsSt
  have ha1 : (utf8Acc.getD q.toNat ((Ty.int IntKind.u8).pair (Ty.int IntKind.u8)).zero).fst = lo := congrArg Prod.fst ha
  have ha2 : (utf8Acc.getD q.toNat ((Ty.int IntKind.u8).pair (Ty.int IntKind.u8)).zero).snd = hi := congrArg Prod.snd ha
  rw [vs1_rd, cond_pos (by omega), cond_pos (by omega), cond_neg (by omega), cond_pos2 (by omega) (by omega)]
  simp only [hF', hq]
  rw [cond_pos2 h0 h1]
  simp only [ha1, ha2, hz]
  unfold tailB bt
  have t2 : decide (lo ≤ ((s.getD 1 0).toNat : Int)) = !decide (((s.getD 1 0).toNat : Int) < lo) := by rw [← decide_not]; exact decide_eq_decide.2 (by omega)
  have t3 : decide (((s.getD 1 0).toNat : Int) ≤ hi) = !decide (hi < ((s.getD 1 0).toNat : Int)) := by rw [← decide_not]; exact decide_eq_decide.2 (by omega)
  have u1 : ∀ k, decide (128 ≤ (s.getD k 0).toNat) = !decide (((s.getD k 0).toNat : Int) < 128) := fun k => by rw [← decide_not]; exact decide_eq_decide.2 (by omega)
  have u2 : ∀ k, decide ((s.getD k 0).toNat ≤ 191) = !decide ((191 : Int) < ((s.getD k 0).toNat : Int)) := fun k => by rw [← decide_not]; exact decide_eq_decide.2 (by omega)
  simp only [t2, t3, u1, u2]
  generalize decide (((s.getD 1 0).toNat : Int) < lo) = A
  generalize decide (hi < ((s.getD 1 0).toNat : Int)) = B
  generalize decide (((s.getD 2 0).toNat : Int) < 128) = C
  generalize decide ((191 : Int) < ((s.getD 2 0).toNat : Int)) = D
  generalize decide (((s.getD 3 0).toNat : Int) < 128) = X
  generalize decide ((191 : Int) < ((s.getD 3 0).toNat : Int)) = Y
  have lt2 : decide ((s.length : Int) < (2 : Int)) = !decide (2 ≤ s.length) := by rw [← decide_not]; exact decide_eq_decide.2 (by omega)
  have le2 : decide ((2 : Int) ≤ (s.length : Int)) = decide (2 ≤ s.length) := decide_eq_decide.2 (by omega)
  have ls2 : decide ((1 : Int) < (s.length : Int)) = decide (2 ≤ s.length) := decide_eq_decide.2 (by omega)
  have lt3 : decide ((s.length : Int) < (3 : Int)) = !decide (3 ≤ s.length) := by rw [← decide_not]; exact decide_eq_decide.2 (by omega)
  have le3 : decide ((3 : Int) ≤ (s.length : Int)) = decide (3 ≤ s.length) := decide_eq_decide.2 (by omega)
  have ls3 : decide ((2 : Int) < (s.length : Int)) = decide (3 ≤ s.length) := decide_eq_decide.2 (by omega)
  have lt4 : decide ((s.length : Int) < (4 : Int)) = !decide (4 ≤ s.length) := by rw [← decide_not]; exact decide_eq_decide.2 (by omega)
  have le4 : decide ((4 : Int) ≤ (s.length : Int)) = decide (4 ≤ s.length) := decide_eq_decide.2 (by omega)
  have ls4 : decide ((3 : Int) < (s.length : Int)) = decide (4 ≤ s.length) := decide_eq_decide.2 (by omega)
  simp only [lt2, lt3, lt4, le2, le3, le4, ls2, ls3, ls4]
  cases z == (2 : Int)
  · cases z == (3 : Int)
    · cases z == (4 : Int)
      · rfl
      · by_cases hlen : 4 ≤ s.length
        · have w1 : decide (2 ≤ s.length) = true := decide_eq_true (by omega)
          have w2 : decide (3 ≤ s.length) = true := decide_eq_true (by omega)
          have w3 : decide (4 ≤ s.length) = true := decide_eq_true (by omega)
          simp only [w1, w2, w3]
          cases A <;> cases B <;> cases C <;> cases D <;> cases X <;> cases Y <;> rfl
        · have w3 : decide (4 ≤ s.length) = false := decide_eq_false hlen
          simp only [w3]
          rfl
    · by_cases hlen : 3 ≤ s.length
      · have w1 : decide (2 ≤ s.length) = true := decide_eq_true (by omega)
        have w2 : decide (3 ≤ s.length) = true := decide_eq_true (by omega)
        simp only [w1, w2]
        cases A <;> cases B <;> cases C <;> cases D <;> rfl
      · have w3 : decide (3 ≤ s.length) = false := decide_eq_false hlen
        simp only [w3]
        rfl
  · by_cases hlen : 2 ≤ s.length
    · have w1 : decide (2 ≤ s.length) = true := decide_eq_true (by omega)
      simp only [w1]
      cases A <;> cases B <;> rfl
    · have w3 : decide (2 ≤ s.length) = false := decide_eq_false hlen
      simp only [w3]
      rfl

/-- How a round ends. -/
def roundV (s : List UInt8) (f : Bool) (o : Option Nat) {R : Type} (K : Ex → St → Option R) : Option R := match o with
  | some w => K .normal (vsSt (s.drop w) f)
  | none => K .ret (vsSt s false)
theorem roundV_if {s : List UInt8} {f : Bool} {c c' : Bool} {w : Nat} (h : c = c') {R : Type} (K : Ex → St → Option R) : (bif c then K .normal (vsSt (s.drop w) f) else K .ret (vsSt s false)) = roundV s f (if c' = true then some w else none) K := by
  subst h
  cases c <;> rfl
theorem vs1_high {R : Type} (s : List UInt8) (f : Bool) (hl : 1 ≤ s.length) (h : 128 ≤ bt s 0) (K : Ex → St → Option R) :
    roundK (env consW) H.unicode_utf8_ValidString 0 (LPof [(9, vs9LC)]) V.unicode_utf8_ValidString_1 L.unicode_utf8_ValidString_1 (vsSt s f) K = roundV s f (good1 s) K := by
  have hb := bt_lt s 0
  unfold good1
  rw [if_neg (by omega)]
  by_cases h0 : bt s 0 < 194
  · have hF : utf8F (bt s 0) = 241 := by
        unfold utf8F
        repeat' split
        all_goals first | rfl | omega
    rw [vs1_head s f hl h hF (q := 15) rfl (by decide) (by decide) (lo := 0) (hi := 0) rfl K 1 (by decide)]
    rw [if_pos h0]
    rfl
  · skip
    by_cases h1 : bt s 0 < 224
    · have hF : utf8F (bt s 0) = 2 := by
          unfold utf8F
          repeat' split
          all_goals first | rfl | omega
      rw [vs1_head s f hl h hF (q := 0) rfl (by decide) (by decide) (lo := 128) (hi := 191) rfl K 2 (by decide)]
      rw [if_neg (by omega), if_pos h1]
      exact roundV_if (by unfold tailB; rw [Bool.eq_iff_iff]; simp only [Bool.and_eq_true, decide_eq_true_eq]; omega) K
    · skip
      by_cases h2 : bt s 0 = 224
      · have hF : utf8F (bt s 0) = 19 := by
            unfold utf8F
            repeat' split
            all_goals first | rfl | omega
        rw [vs1_head s f hl h hF (q := 1) rfl (by decide) (by decide) (lo := 160) (hi := 191) rfl K 3 (by decide)]
        rw [if_neg (by omega), if_neg (by omega), if_pos (by omega)]
        exact roundV_if (by unfold tailB; rw [Bool.eq_iff_iff]; simp only [Bool.and_eq_true, Bool.or_eq_true, decide_eq_true_eq]; omega) K
      · skip
        by_cases h3 : bt s 0 < 237
        · have hF : utf8F (bt s 0) = 3 := by
              unfold utf8F
              repeat' split
              all_goals first | rfl | omega
          rw [vs1_head s f hl h hF (q := 0) rfl (by decide) (by decide) (lo := 128) (hi := 191) rfl K 3 (by decide)]
          rw [if_neg (by omega), if_neg (by omega), if_pos (by omega)]
          exact roundV_if (by unfold tailB; rw [Bool.eq_iff_iff]; simp only [Bool.and_eq_true, Bool.or_eq_true, decide_eq_true_eq]; omega) K
        · skip
          by_cases h4 : bt s 0 = 237
          · have hF : utf8F (bt s 0) = 35 := by
                unfold utf8F
                repeat' split
                all_goals first | rfl | omega
            rw [vs1_head s f hl h hF (q := 2) rfl (by decide) (by decide) (lo := 128) (hi := 159) rfl K 3 (by decide)]
            rw [if_neg (by omega), if_neg (by omega), if_pos (by omega)]
            exact roundV_if (by unfold tailB; rw [Bool.eq_iff_iff]; simp only [Bool.and_eq_true, Bool.or_eq_true, decide_eq_true_eq]; omega) K
          · skip
            by_cases h5 : bt s 0 < 240
            · have hF : utf8F (bt s 0) = 3 := by
                  unfold utf8F
                  repeat' split
                  all_goals first | rfl | omega
              rw [vs1_head s f hl h hF (q := 0) rfl (by decide) (by decide) (lo := 128) (hi := 191) rfl K 3 (by decide)]
              rw [if_neg (by omega), if_neg (by omega), if_pos (by omega)]
              exact roundV_if (by unfold tailB; rw [Bool.eq_iff_iff]; simp only [Bool.and_eq_true, Bool.or_eq_true, decide_eq_true_eq]; omega) K
            · skip
              by_cases h6 : bt s 0 = 240
              · have hF : utf8F (bt s 0) = 52 := by
                    unfold utf8F
                    repeat' split
                    all_goals first | rfl | omega
                rw [vs1_head s f hl h hF (q := 3) rfl (by decide) (by decide) (lo := 144) (hi := 191) rfl K 4 (by decide)]
                rw [if_neg (by omega), if_neg (by omega), if_neg (by omega), if_pos (by omega)]
                exact roundV_if (by unfold tailB; rw [Bool.eq_iff_iff]; simp only [Bool.and_eq_true, Bool.or_eq_true, decide_eq_true_eq]; omega) K
              · skip
                by_cases h7 : bt s 0 < 244
                · have hF : utf8F (bt s 0) = 4 := by
                      unfold utf8F
                      repeat' split
                      all_goals first | rfl | omega
                  rw [vs1_head s f hl h hF (q := 0) rfl (by decide) (by decide) (lo := 128) (hi := 191) rfl K 4 (by decide)]
                  rw [if_neg (by omega), if_neg (by omega), if_neg (by omega), if_pos (by omega)]
                  exact roundV_if (by unfold tailB; rw [Bool.eq_iff_iff]; simp only [Bool.and_eq_true, Bool.or_eq_true, decide_eq_true_eq]; omega) K
                · skip
                  by_cases h8 : bt s 0 = 244
                  · have hF : utf8F (bt s 0) = 68 := by
                        unfold utf8F
                        repeat' split
                        all_goals first | rfl | omega
                    rw [vs1_head s f hl h hF (q := 4) rfl (by decide) (by decide) (lo := 128) (hi := 143) rfl K 4 (by decide)]
                    rw [if_neg (by omega), if_neg (by omega), if_neg (by omega), if_pos (by omega)]
                    exact roundV_if (by unfold tailB; rw [Bool.eq_iff_iff]; simp only [Bool.and_eq_true, Bool.or_eq_true, decide_eq_true_eq]; omega) K
                  · skip
                    have hF : utf8F (bt s 0) = 241 := by
                          unfold utf8F
                          repeat' split
                          all_goals first | rfl | omega
                    rw [vs1_head s f hl h hF (q := 15) rfl (by decide) (by decide) (lo := 0) (hi := 0) rfl K 1 (by decide)]
                    rw [if_neg (by omega), if_neg (by omega), if_neg (by omega), if_neg (by omega)]
                    rfl

theorem vs1_loop {R : Type} (f : Bool) (K : Ex → St → Option R) : ∀ (m : Nat) (s : List UInt8), s.length ≤ m →
    rounds (env consW) H.unicode_utf8_ValidString 0 (LPof [(9, vs9LC)]) V.unicode_utf8_ValidString_1 L.unicode_utf8_ValidString_1 (m + 1) (vsSt s f) K = bif okL s then K (.exit 0) (vsSt [] f) else K .ret (vsSt (endL s) false)
  | 0, s, h => by
    have : s = [] := List.length_eq_zero_iff.1 (by omega)
    subst this
    rw [rounds_succ', vs1_end]
    rfl
  | m + 1, s, h => by
    by_cases hs : s = []
    · subst hs
      rw [rounds_succ', vs1_end]
      rfl
    · have hl : 1 ≤ s.length := by cases s with | nil => exact absurd rfl hs | cons a b => simp
      by_cases hb : bt s 0 < 128
      · have hg : good1 s = some 1 := by unfold good1; rw [if_pos hb]
        obtain ⟨a1, a2⟩ := okL_some hs hg
        obtain ⟨b1, b2, b3⟩ := adv_ok (s.drop 1)
        rw [List.length_drop] at b3
        rw [rounds_succ', vs1_asc s f hl hb, a1, a2, ← b1, ← b2]
        exact vs1_loop f K m (adv (s.drop 1)) (by omega)
      · rw [rounds_succ', vs1_high s f hl (by omega)]
        cases hg : good1 s with
        | none =>
          obtain ⟨a1, a2⟩ := okL_none hs hg
          rw [a1, a2]
          rfl
        | some w =>
          obtain ⟨a1, a2⟩ := okL_some hs hg
          have hp := good1_pos hg
          rw [a1, a2]
          exact vs1_loop f K m (s.drop w) (by rw [List.length_drop]; omega)
def vs1Pat : SPat := ⟨[(0, .str), (2, .bool)], []⟩
def vs1LC : LoopC := LoopC.of vs1Pat (fun _ => true) fun x => [(okL x.1.1, .exit 0, vsSt [] x.1.2.1), (true, .ret, vsSt (endL x.1.1) false)]
theorem vs1_lok : LoopOK P0 H.unicode_utf8_ValidString 0 L.unicode_utf8_ValidString_1 vs1LC := loop_ok_of (env_ok consW_ok) glob0 mixed0 (loops_good (tab := [(9, vs9LC)]) (by kernel_rfl) (fun x hx => by simp at hx; subst hx; exact vs9_lok)) V.unicode_utf8_ValidString_1 (by decide) fun ⟨⟨s, f, _⟩, _⟩ h hw => by
  refine ⟨_, Eq.trans (vs1_loop f (fun e s => some (e, s)) (List.length s) s (Nat.le_refl _)) ?_⟩
  simp only [pick]
  cases okL s <;> rfl
theorem vs_ev (s : List UInt8) : evFn (env consW) H.unicode_utf8_ValidString (LPof [(1, vs1LC), (9, vs9LC)]) F.unicode_utf8_ValidString [.str s] [] (finK 0) = bif okL s then some (AV.bool true, []) else some (AV.bool false, []) := by kernel_rfl

def caseUtf : PCase := ⟨[.ty .str], [.bool], fun x => [(true, (okL x.1, ()))]⟩
theorem vs_val (s : List UInt8) : evFn (env consW) H.unicode_utf8_ValidString (LPof [(1, vs1LC), (9, vs9LC)]) F.unicode_utf8_ValidString [.str s] [] (finK 0) = some (.bool (okL s), []) := by
  rw [vs_ev]
  cases okL s <;> rfl
theorem vs_ok : caseUtf.ok P0 I.unicode_utf8_ValidString := case_ok (H := H.unicode_utf8_ValidString) (E := env consW) (env_ok consW_ok) glob0 mixed0 G.unicode_utf8_ValidString Bd.unicode_utf8_ValidString (by kernel_rfl) (loops_good (tab := [(1, vs1LC), (9, vs9LC)]) (by kernel_rfl) (fun x hx => by
    simp at hx
    rcases hx with rfl | rfl
    · exact vs1_lok
    · exact vs9_lok)) fun ⟨s, ()⟩ y h hw => by
  obtain rfl := pick_one h
  exact ⟨[], vs_val s⟩

noncomputable abbrev consX : List (FuncId × Con) := [(I.names_among, .pure (pureOf [caseAmong])), (I.names_may, .pure (pureOf [caseMay])), (I.unicode_utf8_ValidString, .pure (pureOf [caseUtf]))]
theorem consX_ok : ∀ x ∈ consX, HoldsC P0 x.1 x.2 := by
  intro x hx
  simp at hx
  rcases hx with rfl | rfl | rfl
  · exact ⟨pureOf_holds (by simp; exact among_ok), C.names_among⟩
  · exact ⟨pureOf_holds (by simp; exact may_ok), C.names_may⟩
  · exact ⟨pureOf_holds (by simp; exact vs_ok), C.unicode_utf8_ValidString⟩
theorem valid_rd {R : Type} (s t : List UInt8) (f : Bool) (n : Int) (pos : Nat) (K : Ex → St → Option R) : roundK (env consX) H.names_Valid 0 (LPof []) V.names_Valid_3 L.names_Valid_3 ⟨[(0, .str s), (2, .bool f), (3, .int .i64 n), (7, .it 0)], [(0, .siter t pos)], 1⟩ K = bif decide (pos < t.length) then Option.bind (bif !mayR (↑(Utf8.decode { data := t.toArray } pos).fst : Int) then some true else bif n == (0 : Int) then some (hasR [(45 : UInt8), (95 : UInt8), (46 : UInt8)] (↑(Utf8.decode { data := t.toArray } pos).fst : Int)) else some false) fun v => bif v then K Ex.ret { slots := [(0, AV.str s), (2, AV.bool false), (3, AV.int IntKind.i64 n), (7, AV.it 0)], objs := [(0, AObj.siter t (pos + (Utf8.decode { data := t.toArray } pos).snd))], nx := 1 } else K Ex.normal { slots := [(0, AV.str s), (2, AV.bool f), (3, AV.int IntKind.i64 (IntKind.i64.wrap (n + (1 : Int)))), (7, AV.it 0)], objs := [(0, AObj.siter t (pos + (Utf8.decode { data := t.toArray } pos).snd))], nx := 1 } else K (Ex.exit 0) { slots := [(0, AV.str s), (2, AV.bool f), (3, AV.int IntKind.i64 n), (7, AV.it 0)], objs := [(0, AObj.siter t pos)], nx := 1 } := by kernel_rfl

def validSt (s t : List UInt8) (f : Bool) (n : Int) (pos : Nat) : St := ⟨[(0, .str s), (2, .bool f), (3, .int .i64 n), (7, .it 0)], [(0, .siter t pos)], 1⟩
theorem bind_bad {R : Type} (c : Int) (n : Int) (k : Bool → Option R) : (bif !mayR c then some true else bif n == (0 : Int) then some (hasR [(45 : UInt8), (95 : UInt8), (46 : UInt8)] c) else some false).bind k = k (badR c (n == (0 : Int))) := by
  unfold badR signsL
  cases mayR c <;> cases n == (0 : Int) <;> rfl
theorem valid_loop (s t : List UInt8) (f : Bool) (ht : t.length ≤ 9223372036854775807) {R : Type} (K : Ex → St → Option R) : ∀ (m pos : Nat) (n : Int), t.length ≤ pos + m → pos ≤ t.length → 0 ≤ n → n ≤ pos →
    rounds (env consX) H.names_Valid 0 (LPof []) V.names_Valid_3 L.names_Valid_3 (m + 1) (validSt s t f n pos) K =
      match failF m (t.drop pos) (n == (0 : Int)) with
      | some (k, w) => K .ret (validSt s t false (n + (k : Nat)) (pos + w))
      | none => K (.exit 0) (validSt s t f (n + (cnt (t.drop pos) : Nat)) t.length)
  | 0, pos, n, h, hp, h0, h1 => by
    have : pos = t.length := by omega
    subst this
    rw [rounds_succ']
    unfold validSt
    rw [valid_rd, cond_neg (by omega)]
    simp [failF, cnt_nil]
  | m + 1, pos, n, h, hp, h0, h1 => by
    rw [rounds_succ']
    unfold validSt
    by_cases hlt : pos < t.length
    · have hne := drop_ne hlt
      have hw := dec1_pos (t.drop pos)
      have hle := dec1_le _ hne
      rw [List.length_drop] at hle
      have hem : (t.drop pos).isEmpty = false := by cases hd : t.drop pos with | nil => exact absurd hd hne | cons a b => rfl
      rw [valid_rd, cond_pos hlt, bind_bad, decode_dec1]
      simp only [failF, hem, cond_false]
      cases hb : badR (((dec1 (t.drop pos)).1 : Nat) : Int) (n == (0 : Int))
      · have ih := valid_loop s t f ht K m (pos + (dec1 (t.drop pos)).2) (n + 1) (by omega) (by omega) (by omega) (by omega)
        have hn1 : ((n + 1) == (0 : Int)) = false := by simp; omega
        rw [hn1] at ih
        simp only [cond_false]
        rw [List.drop_drop, wrap64 (by omega) (by omega), cnt_cons _ hne, List.drop_drop]
        refine Eq.trans ih ?_
        cases failF m (t.drop (pos + (dec1 (t.drop pos)).2)) false with
        | none =>
          simp only [Option.map_none, validSt]
          rw [show n + 1 + ((cnt (t.drop (pos + (dec1 (t.drop pos)).2)) : Nat) : Int) = n + ((cnt (t.drop (pos + (dec1 (t.drop pos)).2)) + 1 : Nat) : Int) by omega]
        | some p =>
          obtain ⟨k, w⟩ := p
          simp only [Option.map_some, validSt]
          rw [show n + 1 + ((k : Nat) : Int) = n + ((k + 1 : Nat) : Int) by omega, Nat.add_assoc]
      · simp only [cond_true]
        rw [show n + ((0 : Nat) : Int) = n by omega]
    · have : pos = t.length := by omega
      subst this
      rw [valid_rd, cond_neg (by omega)]
      simp [failF, cnt_nil]

def validPat : SPat := ⟨[(0, .str), (2, .bool), (3, .int .i64), (7, .lit (.it 0))], [.siter]⟩
def validLC : LoopC := LoopC.of validPat (fun x => decide (x.1.2.2.1 = (0 : Int)) && decide (x.2.1.2 = 0))
  fun x => [((failF (List.length x.2.1.1) x.2.1.1 true).isSome, .ret, validSt x.1.1 x.2.1.1 false ((((failF (List.length x.2.1.1) x.2.1.1 true).getD (0, 0)).1 : Nat) : Int) ((failF (List.length x.2.1.1) x.2.1.1 true).getD (0, 0)).2),
    (true, .exit 0, validSt x.1.1 x.2.1.1 x.1.2.1 ((cnt x.2.1.1 : Nat) : Int) (List.length x.2.1.1))]
theorem valid_all (s t : List UInt8) (f : Bool) (ht : t.length ≤ 9223372036854775807) : ∃ n, rounds (env consX) H.names_Valid 0 (LPof []) V.names_Valid_3 L.names_Valid_3 n (validSt s t f 0 0) (fun e s => some (e, s)) =
    pick [((failF t.length t true).isSome, Ex.ret, validSt s t false ((((failF t.length t true).getD (0, 0)).1 : Nat) : Int) ((failF t.length t true).getD (0, 0)).2), (true, .exit 0, validSt s t f ((cnt t : Nat) : Int) t.length)] := by
  have := valid_loop s t f ht (fun e s => some (e, s)) t.length 0 0 (by omega) (Nat.zero_le _) (Int.le_refl _) (Int.le_refl _)
  rw [List.drop_zero, Int.zero_add] at this
  refine ⟨_, Eq.trans this ?_⟩
  rw [show ((0 : Int) == 0) = true from rfl]
  simp only [pick]
  cases failF t.length t true with
  | none => rfl
  | some p =>
    obtain ⟨k, w⟩ := p
    simp only [Int.zero_add, Nat.zero_add]
    rfl
theorem valid_lok : LoopOK P0 H.names_Valid 0 L.names_Valid_3 validLC := loop_ok_of (env_ok consX_ok) glob0 mixed0 noLoops V.names_Valid_3 (by decide) fun ⟨⟨s, f, n, _, _⟩, ⟨t, pos⟩, _⟩ h hw => by
  simp only [Bool.and_eq_true, decide_eq_true_eq] at h
  obtain ⟨h1, h2⟩ := h
  subst h1; subst h2
  exact valid_all s t f hw.2.1
theorem valid_ev (s : List UInt8) : evFn (env consX) H.names_Valid (LPof [(3, validLC)]) F.names_Valid [.str s] [] (finK 0) = bif (failF s.length s true).isSome then some (AV.bool false, []) else Option.bind (bif decide ((↑(cnt s) : Int) > (0 : Int)) then bif decide ((↑(cnt s) : Int) ≤ (40 : Int)) then some (okL s) else some false else some false) fun v => some (AV.bool v, []) := by kernel_rfl

def caseValid : PCase := ⟨[.ty .str], [.bool], fun x => [(true, (validL x.1, ()))]⟩

theorem valid_val (s : List UInt8) : evFn (env consX) H.names_Valid (LPof [(3, validLC)]) F.names_Valid [.str s] [] (finK 0) = some (.bool (validL s), []) := by
  rw [valid_ev]
  unfold validL
  cases (failF s.length s true).isSome <;> cases decide ((cnt s : Int) > 0) <;> cases decide ((cnt s : Int) ≤ 40) <;> rfl
theorem valid_ok : caseValid.ok P0 I.names_Valid := case_ok (H := H.names_Valid) (E := env consX) (env_ok consX_ok) glob0 mixed0 G.names_Valid Bd.names_Valid (by kernel_rfl) (loops_good (tab := [(3, validLC)]) (by kernel_rfl) (fun x hx => by simp at hx; subst hx; exact valid_lok)) fun ⟨s, ()⟩ y h hw => by
  obtain rfl := pick_one h
  exact ⟨[], valid_val s⟩
end Go.Sim
namespace Go.Sim
set_option maxRecDepth 10000
def encL (c : Nat) : List UInt8 := (Utf8.encode (c : Int)).data.toList
theorem bt_cons_zero (a : UInt8) (l : List UInt8) : bt (a :: l) 0 = a.toNat := rfl
theorem bt_cons_succ (a : UInt8) (l : List UInt8) (k : Nat) : bt (a :: l) (k + 1) = bt l k := by simp [bt]
theorem bt_c1 (a b : UInt8) (l : List UInt8) : bt (a :: b :: l) 1 = b.toNat := rfl
theorem bt_c2 (a b c : UInt8) (l : List UInt8) : bt (a :: b :: c :: l) 2 = c.toNat := rfl
theorem bt_c3 (a b c d : UInt8) (l : List UInt8) : bt (a :: b :: c :: d :: l) 3 = d.toNat := rfl
def okR (c : Nat) : Prop := c < 0xD800 ∨ (0xE000 ≤ c ∧ c ≤ 0x10FFFF)
theorem okR_valid {c : Nat} (h : okR c) : Utf8.valid (c : Int) = true := by
  unfold okR at h
  unfold Utf8.valid
  simp only [Bool.or_eq_true, Bool.and_eq_true, decide_eq_true_eq]
  omega
theorem encL_eq {c : Nat} (h : okR c) : encL c = if c < 0x80 then [UInt8.ofNat c] else if c < 0x800 then [UInt8.ofNat (0xC0 + c / 64), UInt8.ofNat (0x80 + c % 64)]
    else if c < 0x10000 then [UInt8.ofNat (0xE0 + c / 4096), UInt8.ofNat (0x80 + c / 64 % 64), UInt8.ofNat (0x80 + c % 64)]
    else [UInt8.ofNat (0xF0 + c / 262144), UInt8.ofNat (0x80 + c / 4096 % 64), UInt8.ofNat (0x80 + c / 64 % 64), UInt8.ofNat (0x80 + c % 64)] := by
  unfold encL Utf8.encode
  simp only [okR_valid h, if_true, Int.toNat_natCast]
  by_cases h1 : c < 0x80
  · simp only [h1, if_true]
  · by_cases h2 : c < 0x800
    · simp only [h1, h2, if_true, if_false]
    · by_cases h3 : c < 0x10000
      · simp only [h1, h2, h3, if_true, if_false]
      · simp only [h1, h2, h3, if_false]
theorem ofNat_toNat' {n : Nat} (h : n < 256) : (UInt8.ofNat n).toNat = n := by simp; omega
theorem enc_dec {c : Nat} (h : okR c) (r : List UInt8) : dec1 (encL c ++ r) = (c, (encL c).length) ∧ good1 (encL c ++ r) = some (encL c).length ∧ 1 ≤ (encL c).length ∧ (encL c).length ≤ 4 := by
  rw [encL_eq h]
  have hv := okR_valid h
  unfold okR at h
  split
  · rename_i h1
    have e : (UInt8.ofNat c).toNat = c := ofNat_toNat' (by omega)
    refine ⟨?_, ?_, by simp, by simp⟩
    · unfold dec1
      simp only [List.cons_append, bt_cons_zero, e]
      rw [if_pos h1]; rfl
    · unfold good1
      simp only [List.cons_append, bt_cons_zero, e]
      rw [if_pos (by omega)]; rfl
  · split
    · rename_i h1 h2
      have e0 : (UInt8.ofNat (0xC0 + c / 64)).toNat = 0xC0 + c / 64 := ofNat_toNat' (by omega)
      have e1 : (UInt8.ofNat (0x80 + c % 64)).toNat = 0x80 + c % 64 := ofNat_toNat' (by omega)
      refine ⟨?_, ?_, by simp, by simp⟩
      · unfold dec1 contL
        simp only [List.cons_append, List.nil_append, bt_cons_zero, bt_c1, e0, e1, List.length_cons]
        rw [if_neg (by omega), if_pos (by simp; omega), if_pos (by omega)]
        simp; omega
      · unfold good1 tailB
        simp only [List.cons_append, List.nil_append, bt_cons_zero, bt_c1, e0, e1, List.length_cons]
        rw [if_neg (by omega), if_neg (by omega), if_pos (by omega), if_pos (by simp; omega)]
        rfl
    · split
      · rename_i h1 h2 h3
        have e0 : (UInt8.ofNat (0xE0 + c / 4096)).toNat = 0xE0 + c / 4096 := ofNat_toNat' (by omega)
        have e1 : (UInt8.ofNat (0x80 + c / 64 % 64)).toNat = 0x80 + c / 64 % 64 := ofNat_toNat' (by omega)
        have e2 : (UInt8.ofNat (0x80 + c % 64)).toNat = 0x80 + c % 64 := ofNat_toNat' (by omega)
        have ec : (0xE0 + c / 4096) % 16 * 4096 + (0x80 + c / 64 % 64) % 64 * 64 + (0x80 + c % 64) % 64 = c := by omega
        refine ⟨?_, ?_, by simp, by simp⟩
        · unfold dec1 contL
          simp only [List.cons_append, List.nil_append, bt_cons_zero, bt_c1, bt_c2, e0, e1, e2, List.length_cons, ec, hv]
          rw [if_neg (by omega), if_neg (by simp; omega), if_pos (by simp; omega), if_pos (by simp; omega)]
          rfl
        · unfold good1 tailB
          simp only [List.cons_append, List.nil_append, bt_cons_zero, bt_c1, bt_c2, e0, e1, e2, List.length_cons]
          rw [if_neg (by omega), if_neg (by omega), if_neg (by omega), if_pos (by omega), if_pos (by simp; omega)]
          rfl
      · rename_i h1 h2 h3
        have e0 : (UInt8.ofNat (0xF0 + c / 262144)).toNat = 0xF0 + c / 262144 := ofNat_toNat' (by omega)
        have e1 : (UInt8.ofNat (0x80 + c / 4096 % 64)).toNat = 0x80 + c / 4096 % 64 := ofNat_toNat' (by omega)
        have e2 : (UInt8.ofNat (0x80 + c / 64 % 64)).toNat = 0x80 + c / 64 % 64 := ofNat_toNat' (by omega)
        have e3 : (UInt8.ofNat (0x80 + c % 64)).toNat = 0x80 + c % 64 := ofNat_toNat' (by omega)
        have ec : (0xF0 + c / 262144) % 8 * 262144 + (0x80 + c / 4096 % 64) % 64 * 4096 + (0x80 + c / 64 % 64) % 64 * 64 + (0x80 + c % 64) % 64 = c := by omega
        refine ⟨?_, ?_, by simp, by simp⟩
        · unfold dec1 contL
          simp only [List.cons_append, List.nil_append, bt_cons_zero, bt_c1, bt_c2, bt_c3, e0, e1, e2, e3, List.length_cons, ec, hv]
          rw [if_neg (by omega), if_neg (by simp; omega), if_neg (by simp; omega), if_pos (by simp; omega), if_pos (by simp; omega)]
          rfl
        · unfold good1 tailB
          simp only [List.cons_append, List.nil_append, bt_cons_zero, bt_c1, bt_c2, bt_c3, e0, e1, e2, e3, List.length_cons]
          rw [if_neg (by omega), if_neg (by omega), if_neg (by omega), if_neg (by omega), if_pos (by omega), if_pos (by simp; omega)]
          rfl
theorem encL_ne {c : Nat} (h : okR c) : encL c ≠ [] := by
  intro e
  have := (enc_dec h []).2.2.1
  rw [e] at this
  simp at this
theorem enc_cnt {c : Nat} (h : okR c) : cnt (encL c) = 1 := by
  have := (enc_dec h []).1
  rw [List.append_nil] at this
  rw [cnt_cons _ (encL_ne h), this]
  simp [cnt_nil]
theorem enc_cut {c : Nat} (h : okR c) (r : List UInt8) : cutP (encL c ++ r) 1 = (encL c).length := by
  have := (enc_dec h r).1
  have hne : encL c ++ r ≠ [] := by simp [encL_ne h]
  simp only [cutP, hne, if_false, this, Nat.add_zero]
theorem enc_okL {c : Nat} (h : okR c) : okL (encL c) = true := by
  have := (enc_dec h []).2.1
  rw [List.append_nil] at this
  rw [(okL_some (encL_ne h) this).1]
  simp [okL_nil]
theorem enc_fail {c : Nat} (h : okR c) (m : Nat) (b : Bool) : (failF (m + 1) (encL c) b).isSome = badR (c : Int) b := by
  have := (enc_dec h []).1
  rw [List.append_nil] at this
  have he : (encL c).isEmpty = false := by cases hc : encL c with | nil => exact absurd hc (encL_ne h) | cons a b => rfl
  rw [failF, he, this]
  cases badR (c : Int) b with
  | true => rfl
  | false =>
    simp only [cond_false, List.drop_length]
    cases m <;> rfl
theorem enc_valid {c : Nat} (h : okR c) : validL (encL c) = !badR (c : Int) true := by
  unfold validL
  have h1 := (enc_dec h []).2.2.1
  obtain ⟨m, hm⟩ : ∃ m, (encL c).length = m + 1 := ⟨_, (Nat.sub_add_cancel h1).symm⟩
  rw [hm, enc_fail h, enc_cnt h, enc_okL h]
  simp
theorem a_valid {c : Nat} (h : okR c) : validL (97 :: encL c) = !badR (c : Int) false := by
  have h97 : bt (97 :: encL c) 0 = 97 := rfl
  have hd : dec1 (97 :: encL c) = (97, 1) := by unfold dec1; rw [h97]; rfl
  have hg : good1 (97 :: encL c) = some 1 := by unfold good1; rw [h97]; rfl
  have hne : (97 :: encL c : List UInt8) ≠ [] := by simp
  have h1 := (enc_dec h []).2.2.1
  obtain ⟨m, hm⟩ : ∃ m, (encL c).length = m + 1 := ⟨_, (Nat.sub_add_cancel h1).symm⟩
  have hb : badR ((97 : Nat) : Int) true = false := by kernel_rfl
  have hf : (failF (97 :: encL c).length (97 :: encL c) true).isSome = badR (c : Int) false := by
    rw [List.length_cons, failF]
    simp only [List.isEmpty_cons, cond_false, hd, hb, List.drop_succ_cons, List.drop_zero, Option.isSome_map]
    rw [hm, enc_fail h]
  have hc : cnt (97 :: encL c) = 2 := by rw [cnt_cons _ hne, hd]; simp [enc_cnt h]
  have ho : okL (97 :: encL c) = true := by rw [(okL_some hne hg).1]; simp [enc_okL h]
  unfold validL
  rw [hf, hc, ho]
  simp
theorem findF_asc : ∀ (m : Nat) (l : List UInt8) (c : Int), l.length ≤ m → (∀ b ∈ l, b.toNat < 128) → (findF m l c).isSome = l.any fun b => ((b.toNat : Nat) : Int) == c
  | 0, l, c, h, _ => by
    have : l = [] := List.length_eq_zero_iff.1 (by omega)
    subst this
    rfl
  | m + 1, [], c, _, _ => rfl
  | m + 1, b :: l, c, h, hb => by
    have h0 := hb b (by simp)
    have hd : dec1 (b :: l) = (b.toNat, 1) := by unfold dec1; rw [if_pos (by rw [bt_cons_zero]; exact h0), bt_cons_zero]
    have ih := findF_asc m l c (by simpa using h) (fun x hx => hb x (List.mem_cons_of_mem _ hx))
    rw [findF, hd]
    simp only [List.isEmpty_cons, cond_false, List.any_cons, List.drop_succ_cons, List.drop_zero]
    cases hc : (((b.toNat : Nat) : Int) == c) with
    | true => rfl
    | false => simp only [cond_false, Option.isSome_map, ih, Bool.false_or]
theorem hasR_asc {l : List UInt8} (h : (l.all fun b => decide (b.toNat < 128)) = true) (c : Int) : hasR l c = l.any fun b => ((b.toNat : Nat) : Int) == c :=
  findF_asc _ l c (Nat.le_refl _) fun b hb => of_decide_eq_true (List.all_eq_true.1 h b hb)
theorem letters_has (c : Int) : hasR lettersL c = (decide (97 ≤ c) && decide (c ≤ 122) || decide (48 ≤ c) && decide (c ≤ 57)) := by
  rw [hasR_asc (by decide +kernel)]
  have h1 : ∀ b ∈ lettersL, (97 ≤ b.toNat ∧ b.toNat ≤ 122) ∨ (48 ≤ b.toNat ∧ b.toNat ≤ 57) := by decide +kernel
  have h2 : ∀ k : Nat, k < 26 → (lettersL.any fun b => b.toNat == 97 + k) = true := by decide +kernel
  have h3 : ∀ k : Nat, k < 10 → (lettersL.any fun b => b.toNat == 48 + k) = true := by decide +kernel
  apply Bool.eq_iff_iff.2
  simp only [List.any_eq_true, beq_iff_eq, Bool.or_eq_true, Bool.and_eq_true, decide_eq_true_eq] at h2 h3 ⊢
  constructor
  · rintro ⟨b, hb, rfl⟩
    have := h1 b hb
    omega
  · rintro (⟨a, b⟩ | ⟨a, b⟩)
    · obtain ⟨x, hx, e⟩ := h2 (c.toNat - 97) (by omega)
      exact ⟨x, hx, by omega⟩
    · obtain ⟨x, hx, e⟩ := h3 (c.toNat - 48) (by omega)
      exact ⟨x, hx, by omega⟩
theorem signs_has (c : Int) : hasR signsL c = (c == 45 || (c == 95 || c == 46)) := by
  rw [hasR_asc (by decide +kernel)]
  apply Bool.eq_iff_iff.2
  simp [signsL]
  omega
end Go.Sim
namespace Go.Sim
set_option maxRecDepth 10000
set_option linter.unusedSimpArgs false
set_option linter.unusedVariables false
def badB (x : Nat) : Bool := decide (x < 128) || decide (x > 191)
/-- Bytes behind the first one: all right?; the number; where. -/
def ctF (s : List UInt8) : Nat → Nat → Nat → Bool × Nat × Nat
  | 0, i, c => (true, c, i)
  | k + 1, i, c => bif badB (bt s i) then (false, c, i) else ctF s k (i + 1) (c * 64 + bt s i % 64)
theorem and_mask (x m : Nat) (M : Int) (hM : M = (m : Int)) (hx : x < 256) (hm : m = 7 ∨ m = 15 ∨ m = 31 ∨ m = 63) : ((BitVec.ofInt 64 (x : Int) &&& BitVec.ofInt 64 M).toNat : Int) = ((x % (m + 1) : Nat) : Int) := by
  subst hM
  have e1 : BitVec.ofInt 64 (x : Int) = BitVec.ofNat 64 x := by apply BitVec.eq_of_toNat_eq; simp
  have e2 : BitVec.ofInt 64 (m : Int) = BitVec.ofNat 64 m := by apply BitVec.eq_of_toNat_eq; simp
  rw [e1, e2, BitVec.toNat_and, BitVec.toNat_ofNat, BitVec.toNat_ofNat, Nat.mod_eq_of_lt (by omega), Nat.mod_eq_of_lt (by omega)]
  congr 1
  rcases hm with rfl | rfl | rfl | rfl
  · exact Nat.and_two_pow_sub_one_eq_mod x 3
  · exact Nat.and_two_pow_sub_one_eq_mod x 4
  · exact Nat.and_two_pow_sub_one_eq_mod x 5
  · exact Nat.and_two_pow_sub_one_eq_mod x 6
/-- The document's reader: rune, length, right? -/
def r1 (s : List UInt8) : Nat × Nat × Bool := match good1 s with
  | some w => ((dec1 s).1, w, true)
  | none => (0, 1, false)
/-- What right first bytes decode to. -/
theorem good_dec {s : List UInt8} {w : Nat} (h : good1 s = some w) : (dec1 s).2 = w := by
  unfold good1 tailB at h
  unfold dec1 contL
  have h0 := bt_lt s 0
  have h1 := bt_lt s 1
  have h2 := bt_lt s 2
  have h3 := bt_lt s 3
  split at h
  · rename_i a; cases h; rw [if_pos a]
  · split at h
    · cases h
    · split at h
      · split at h
        · rename_i a b c d
          cases h
          simp only [Bool.and_eq_true, decide_eq_true_eq] at d
          rw [if_neg (by omega), if_pos (by simp; omega), if_pos (by omega)]
        · cases h
      · split at h
        · split at h
          · rename_i a b c d e
            cases h
            simp only [Bool.and_eq_true, Bool.or_eq_true, decide_eq_true_eq] at e
            rw [if_neg (by omega), if_neg (by simp; omega), if_pos (by simp; omega), if_pos]
            simp only [Bool.and_eq_true, decide_eq_true_eq, Utf8.valid, Bool.or_eq_true]
            omega
          · cases h
        · split at h
          · split at h
            · rename_i a b c d e f
              cases h
              simp only [Bool.and_eq_true, Bool.or_eq_true, decide_eq_true_eq] at f
              rw [if_neg (by omega), if_neg (by simp; omega), if_neg (by simp; omega), if_pos (by simp; omega), if_pos]
              simp only [Bool.and_eq_true, decide_eq_true_eq, Utf8.valid, Bool.or_eq_true]
              omega
            · cases h
          · cases h
/-- .. and wrong ones. -/
theorem bad_dec {s : List UInt8} (h : good1 s = none) : dec1 s = (0xFFFD, 1) := by
  unfold good1 tailB at h
  unfold dec1 contL
  have h0 := bt_lt s 0
  have h1 := bt_lt s 1
  have h2 := bt_lt s 2
  have h3 := bt_lt s 3
  repeat' split at h
  all_goals first | (cases h; done) | skip
  all_goals
    repeat' split
  all_goals first
    | rfl
    | (exfalso
       simp only [Bool.and_eq_true, Bool.or_eq_true, decide_eq_true_eq, beq_iff_eq, Utf8.valid, Bool.and_eq_false_iff, Bool.or_eq_false_iff, decide_eq_false_iff_not, not_and, not_or] at *
       omega)
theorem ct1 (s : List UInt8) (c : Nat) : ctF s 1 1 c = bif badB (bt s 1) then (false, c, 1) else (true, c * 64 + bt s 1 % 64, 2) := rfl
theorem ct2 (s : List UInt8) (c : Nat) : ctF s 2 1 c = bif badB (bt s 1) then (false, c, 1) else bif badB (bt s 2) then (false, c * 64 + bt s 1 % 64, 2) else (true, (c * 64 + bt s 1 % 64) * 64 + bt s 2 % 64, 3) := rfl
theorem ct3 (s : List UInt8) (c : Nat) : ctF s 3 1 c = bif badB (bt s 1) then (false, c, 1) else bif badB (bt s 2) then (false, c * 64 + bt s 1 % 64, 2) else
    bif badB (bt s 3) then (false, (c * 64 + bt s 1 % 64) * 64 + bt s 2 % 64, 3) else (true, ((c * 64 + bt s 1 % 64) * 64 + bt s 2 % 64) * 64 + bt s 3 % 64, 4) := rfl
/-- May this number be a rune's, by the document? -/
def farB (c least : Nat) : Bool := decide (c < least) || decide (c > 1114111) || decide (c ≥ 55296) && decide (c ≤ 57343)
/-- What the document's reader tells of n bytes. -/
def tellR (s : List UInt8) (n k : Nat) (least : Nat) (c0 : Nat) : Nat × Nat × Bool :=
  bif decide (s.length < n) then (0, 1, false) else bif (ctF s k 1 c0).1 then (bif farB (ctF s k 1 c0).2.1 least then (0, 1, false) else ((ctF s k 1 c0).2.1, n, true)) else (0, 1, false)
def r1R (s : List UInt8) : Nat × Nat × Bool :=
  bif decide (bt s 0 < 128) then (bt s 0, 1, true) else bif decide (bt s 0 ≥ 194) && decide (bt s 0 < 224) then tellR s 2 1 128 (bt s 0 % 32) else bif decide (bt s 0 ≥ 224) && decide (bt s 0 < 240) then tellR s 3 2 2048 (bt s 0 % 16)
  else bif decide (bt s 0 ≥ 240) && decide (bt s 0 < 245) then tellR s 4 3 65536 (bt s 0 % 8) else (0, 1, false)
theorem badB_tail (x : Nat) : badB x = !tailB x := by
  unfold badB tailB
  by_cases h1 : x < 128 <;> by_cases h2 : x > 191 <;> simp [h1, h2] <;> omega
theorem r1_eq (s : List UInt8) : r1R s = r1 s := by
  unfold r1R r1
  have h0 := bt_lt s 0
  have h1 := bt_lt s 1
  have h2 := bt_lt s 2
  have h3 := bt_lt s 3
  by_cases a : bt s 0 < 128
  · simp only [a, decide_true, cond_true, good1, if_true, dec1]
  · by_cases b : bt s 0 < 194
    · have b2 : ¬ bt s 0 ≥ 194 := by omega
      have b3 : ¬ bt s 0 ≥ 224 := by omega
      have b4 : ¬ bt s 0 ≥ 240 := by omega
      simp only [a, b, b2, b3, b4, decide_false, Bool.false_and, cond_false, good1, if_false, if_true]
    · by_cases c : bt s 0 < 224
      · have c2 : bt s 0 ≥ 194 := by omega
        simp only [a, b, c, c2, decide_false, decide_true, Bool.true_and, cond_false, cond_true, tellR, ct1, badB_tail]
        have hg : good1 s = if decide (2 ≤ s.length) && tailB (bt s 1) then some 2 else none := by unfold good1; rw [if_neg a, if_neg b, if_pos c]
        rw [hg]
        by_cases l : s.length < 2
        · have l2 : ¬ 2 ≤ s.length := by omega
          simp [l, l2]
        · have l2 : 2 ≤ s.length := by omega
          cases t : tailB (bt s 1) with
          | false => simp [l, l2, t]
          | true =>
            have t' := t
            unfold tailB at t
            simp only [Bool.and_eq_true, decide_eq_true_eq] at t
            have f : farB (bt s 0 % 32 * 64 + bt s 1 % 64) 128 = false := by unfold farB; simp; omega
            have d : dec1 s = (bt s 0 % 32 * 64 + bt s 1 % 64, 2) := by unfold dec1 contL; rw [if_neg a, if_pos (by simp; omega), if_pos (by omega)]
            simp [l, l2, t', f, d]
      · by_cases d : bt s 0 < 240
        · have c2 : bt s 0 ≥ 194 := by omega
          have c3 : bt s 0 ≥ 224 := by omega
          simp only [a, b, c, d, c2, c3, decide_false, decide_true, Bool.true_and, Bool.and_false, cond_false, cond_true, tellR, ct2, badB_tail]
          have hg : good1 s = if decide (3 ≤ s.length) && tailB (bt s 1) && (decide (bt s 0 ≠ 224) || decide (160 ≤ bt s 1)) && (decide (bt s 0 ≠ 237) || decide (bt s 1 ≤ 159)) && tailB (bt s 2) then some 3 else none := by
            unfold good1; rw [if_neg a, if_neg b, if_neg c, if_pos d]
          by_cases l : s.length < 3
          · have l2 : ¬ 3 ≤ s.length := by omega
            simp [hg, l, l2]
          · have l2 : 3 ≤ s.length := by omega
            cases t : tailB (bt s 1) with
            | false => simp [hg, l, l2, t]
            | true =>
              cases u : tailB (bt s 2) with
              | false => simp [hg, l, l2, t, u]
              | true =>
                have t' := t
                have u' := u
                unfold tailB at t u
                simp only [Bool.and_eq_true, decide_eq_true_eq] at t u
                have f : farB ((bt s 0 % 16 * 64 + bt s 1 % 64) * 64 + bt s 2 % 64) 2048 = !((decide (bt s 0 ≠ 224) || decide (160 ≤ bt s 1)) && (decide (bt s 0 ≠ 237) || decide (bt s 1 ≤ 159))) := by
                  unfold farB
                  apply Bool.eq_iff_iff.2
                  simp only [Bool.or_eq_true, Bool.and_eq_true, decide_eq_true_eq, Bool.not_eq_true', Bool.and_eq_false_iff, Bool.or_eq_false_iff, decide_eq_false_iff_not]
                  omega
                cases g : ((decide (bt s 0 ≠ 224) || decide (160 ≤ bt s 1)) && (decide (bt s 0 ≠ 237) || decide (bt s 1 ≤ 159))) with
                | false =>
                  rw [g] at f
                  have : (decide (3 ≤ s.length) && true && (decide (bt s 0 ≠ 224) || decide (160 ≤ bt s 1)) && (decide (bt s 0 ≠ 237) || decide (bt s 1 ≤ 159)) && true) = false := by
                    rw [Bool.and_true, Bool.and_true, Bool.and_assoc, g, Bool.and_false]
                  have hg2 : good1 s = none := by rw [hg, t', u', this]; rfl
                  simp only [l, t', u', f, hg2, decide_false, Bool.not_true, cond_false, cond_true, Bool.not_false]
                | true =>
                  rw [g] at f
                  have : (decide (3 ≤ s.length) && true && (decide (bt s 0 ≠ 224) || decide (160 ≤ bt s 1)) && (decide (bt s 0 ≠ 237) || decide (bt s 1 ≤ 159)) && true) = true := by
                    rw [Bool.and_true, Bool.and_true, Bool.and_assoc, g]; simpa using l2
                  simp only [Bool.and_eq_true, Bool.or_eq_true, decide_eq_true_eq] at g
                  have e : dec1 s = ((bt s 0 % 16 * 64 + bt s 1 % 64) * 64 + bt s 2 % 64, 3) := by
                    unfold dec1 contL; rw [if_neg a, if_neg (by simp; omega), if_pos (by simp; omega), if_pos (by simp only [Bool.and_eq_true, decide_eq_true_eq, Utf8.valid, Bool.or_eq_true]; omega)]
                    exact Prod.ext (by simp only; omega) rfl
                  have hg2 : good1 s = some 3 := by rw [hg, t', u', this]; rfl
                  simp only [l, t', u', f, hg2, e, decide_false, Bool.not_true, cond_false, cond_true, Bool.not_false]
        · by_cases e : bt s 0 < 245
          · have c2 : bt s 0 ≥ 194 := by omega
            have c3 : bt s 0 ≥ 224 := by omega
            have c4 : bt s 0 ≥ 240 := by omega
            simp only [a, b, c, d, e, c2, c3, c4, decide_false, decide_true, Bool.true_and, Bool.and_false, cond_false, cond_true, tellR, ct3, badB_tail]
            have hg : good1 s = if decide (4 ≤ s.length) && tailB (bt s 1) && (decide (bt s 0 ≠ 240) || decide (144 ≤ bt s 1)) && (decide (bt s 0 ≠ 244) || decide (bt s 1 ≤ 143)) && tailB (bt s 2) && tailB (bt s 3) then some 4 else none := by
              unfold good1; rw [if_neg a, if_neg b, if_neg c, if_neg d, if_pos e]
            by_cases l : s.length < 4
            · have l2 : ¬ 4 ≤ s.length := by omega
              simp [hg, l, l2]
            · have l2 : 4 ≤ s.length := by omega
              cases t : tailB (bt s 1) with
              | false => simp [hg, l, l2, t]
              | true =>
                cases u : tailB (bt s 2) with
                | false => simp [hg, l, l2, t, u]
                | true =>
                  cases v : tailB (bt s 3) with
                  | false => simp [hg, l, l2, t, u, v]
                  | true =>
                    have t' := t
                    have u' := u
                    have v' := v
                    unfold tailB at t u v
                    simp only [Bool.and_eq_true, decide_eq_true_eq] at t u v
                    have f : farB (((bt s 0 % 8 * 64 + bt s 1 % 64) * 64 + bt s 2 % 64) * 64 + bt s 3 % 64) 65536 = !((decide (bt s 0 ≠ 240) || decide (144 ≤ bt s 1)) && (decide (bt s 0 ≠ 244) || decide (bt s 1 ≤ 143))) := by
                      unfold farB
                      apply Bool.eq_iff_iff.2
                      simp only [Bool.or_eq_true, Bool.and_eq_true, decide_eq_true_eq, Bool.not_eq_true', Bool.and_eq_false_iff, Bool.or_eq_false_iff, decide_eq_false_iff_not]
                      omega
                    cases g : ((decide (bt s 0 ≠ 240) || decide (144 ≤ bt s 1)) && (decide (bt s 0 ≠ 244) || decide (bt s 1 ≤ 143))) with
                    | false =>
                      rw [g] at f
                      have : (decide (4 ≤ s.length) && true && (decide (bt s 0 ≠ 240) || decide (144 ≤ bt s 1)) && (decide (bt s 0 ≠ 244) || decide (bt s 1 ≤ 143)) && true && true) = false := by
                        rw [Bool.and_true, Bool.and_true, Bool.and_true, Bool.and_assoc, g, Bool.and_false]
                      have hg2 : good1 s = none := by rw [hg, t', u', v', this]; rfl
                      simp only [l, t', u', v', f, hg2, decide_false, Bool.not_true, cond_false, cond_true, Bool.not_false]
                    | true =>
                      rw [g] at f
                      have : (decide (4 ≤ s.length) && true && (decide (bt s 0 ≠ 240) || decide (144 ≤ bt s 1)) && (decide (bt s 0 ≠ 244) || decide (bt s 1 ≤ 143)) && true && true) = true := by
                        rw [Bool.and_true, Bool.and_true, Bool.and_true, Bool.and_assoc, g]; simpa using l2
                      simp only [Bool.and_eq_true, Bool.or_eq_true, decide_eq_true_eq] at g
                      have e : dec1 s = (((bt s 0 % 8 * 64 + bt s 1 % 64) * 64 + bt s 2 % 64) * 64 + bt s 3 % 64, 4) := by
                        unfold dec1 contL; rw [if_neg a, if_neg (by simp; omega), if_neg (by simp; omega), if_pos (by simp; omega), if_pos (by simp only [Bool.and_eq_true, decide_eq_true_eq, Utf8.valid, Bool.or_eq_true]; omega)]
                        exact Prod.ext (by simp only; omega) rfl
                      have hg2 : good1 s = some 4 := by rw [hg, t', u', v', this]; rfl
                      simp only [l, t', u', v', f, hg2, e, decide_false, Bool.not_true, cond_false, cond_true, Bool.not_false]
          · have c2 : bt s 0 ≥ 194 := by omega
            have c3 : bt s 0 ≥ 224 := by omega
            have c4 : bt s 0 ≥ 240 := by omega
            simp only [a, b, c, d, e, c2, c3, c4, decide_false, decide_true, Bool.true_and, Bool.and_false, cond_false, good1, if_false]
theorem r1_w (s : List UInt8) : (r1 s).2.1 = (dec1 s).2 := by
  unfold r1
  cases h : good1 s with
  | none => rw [bad_dec h]
  | some w => exact (good_dec h).symm
def markR (c : Int) : Bool := c == 45 || (c == 95 || c == 46)
def smallR (c : Int) : Bool := decide (c ≥ 97) && decide (c ≤ 122) || decide (c ≥ 48) && decide (c ≤ 57)
def bigR (c : Int) : Bool := decide (c ≥ 161) && (decide (c ≤ 65535) && (c != 173 && c != 65279))
/-- Does the document bar this rune here? -/
def barR (x : Nat × Nat × Bool) (first : Bool) : Bool := !x.2.2 || (!smallR (x.1 : Int) && (!bigR (x.1 : Int) && (!markR (x.1 : Int) || first)))
def failR : Nat → List UInt8 → Bool → Option (Nat × Nat)
  | 0, _, _ => none
  | m + 1, l, first => bif l.isEmpty then none else bif barR (r1 l) first then some (0, 0) else (failR m (l.drop (dec1 l).2) false).map fun p => (p.1 + 1, (dec1 l).2 + p.2)
def validR (s : List UInt8) : Bool := !(failR s.length s true).isSome && (decide ((cnt s : Int) > 0) && decide ((cnt s : Int) ≤ 40))
theorem bar_bad (c : Nat) (w : Nat) (first : Bool) : barR (c, w, true) first = badR (c : Int) first := by
  unfold barR badR mayR smallR bigR markR
  rw [letters_has, signs_has]
  apply Bool.eq_iff_iff.2
  cases first
  · simp only [Bool.not_true, Bool.false_or, Bool.not_eq_true', Bool.or_eq_false_iff, Bool.and_eq_false_iff, Bool.or_eq_true, Bool.and_eq_true, decide_eq_true_eq, beq_iff_eq, bne_iff_ne, beq_eq_false_iff_ne, decide_eq_false_iff_not, bne_eq_false_iff_eq, Bool.false_and, Bool.or_false, ne_eq, Bool.not_eq_false', Bool.false_eq_true, or_false]
    omega
  · simp only [Bool.not_true, Bool.false_or, Bool.not_eq_true', Bool.or_eq_false_iff, Bool.and_eq_false_iff, Bool.or_eq_true, Bool.and_eq_true, decide_eq_true_eq, beq_iff_eq, bne_iff_ne, beq_eq_false_iff_ne, decide_eq_false_iff_not, bne_eq_false_iff_eq, Bool.true_and, Bool.or_true, and_true, ne_eq, or_true, Bool.not_eq_false']
    omega
theorem fail_both : ∀ (m : Nat) (l : List UInt8) (first : Bool), l.length ≤ m → (failR m l first).isSome = ((failF m l first).isSome || !okF m l)
  | 0, l, first, h => by
    have : l = [] := List.length_eq_zero_iff.1 (by omega)
    subst this
    rfl
  | m + 1, l, first, h => by
    by_cases hl : l = []
    · subst hl; rfl
    · have he : l.isEmpty = false := by cases l with | nil => exact absurd rfl hl | cons a b => rfl
      have hp := dec1_pos l
      have ih := fail_both m (l.drop (dec1 l).2) false (by have := dec1_le l hl; simp; omega)
      rw [failR, failF, okF, he]
      simp only [cond_false]
      cases hg : good1 l with
      | none =>
        have : barR (r1 l) first = true := by unfold r1; rw [hg]; rfl
        rw [this]
        simp
      | some w =>
        have e : r1 l = ((dec1 l).1, w, true) := by unfold r1; rw [hg]
        rw [e, bar_bad, ← good_dec hg]
        cases badR (((dec1 l).1 : Nat) : Int) first with
        | true => simp
        | false => simpa using ih
theorem valid_both (s : List UInt8) : validR s = validL s := by
  unfold validR validL
  rw [fail_both _ _ _ (Nat.le_refl _)]
  have : okF s.length s = okL s := rfl
  rw [this]
  cases (failF s.length s true).isSome <;> cases okL s <;> simp
end Go.Sim
namespace Go.Sim
abbrev confT : Ty := .pair (.int .i64) (.pair (.int .i64) (.pair (.int .i64) (.int .i64)))
abbrev recT : Ty := .pair (.int .i64) (.pair (.int .i64) (.pair .str (.pair .str .bool)))
abbrev cmdT : Ty := .pair (.int .i64) (.pair (.int .i64) (.pair (.int .i64) (.pair (.sl recT) (.pair .str (.pair (.int .i64) (.pair (.int .i64) (.pair (.int .i64) (.pair (.int .u32) confT))))))))
theorem and_bif {a b : Bool} : (bif a then some b else some false) = some (a && b) := by cases a <;> rfl
theorem or_bif {a b : Bool} : (bif a then some true else some b) = some (a || b) := by cases a <;> rfl
theorem nand_bif {a b : Bool} : (bif a then some false else some b) = some (!a && b) := by cases a <;> rfl
theorem nor_bif {a b : Bool} : (bif a then some b else some true) = some (!a || b) := by cases a <;> rfl
theorem ors_bif {a b x : Bool} : (bif a then some (b || x) else some x) = some (a && b || x) := by cases a <;> cases b <;> rfl
theorem ands_bif {a b x : Bool} : (bif a then some (b && x) else some x) = some ((!a || b) && x) := by cases a <;> cases b <;> rfl
theorem ors2_bif {a b d x : Bool} : (bif a then some (b || (d || x)) else some x) = some (a && (b || d) || x) := by cases a <;> cases b <;> rfl
theorem rf_bif {a b : Bool} {l : List AObj} : (bif a then some (AV.bool false, l) else some (AV.bool b, l)) = some (AV.bool (!a && b), l) := by cases a <;> rfl
theorem rt_bif {a b : Bool} {l : List AObj} : (bif a then some (AV.bool true, l) else some (AV.bool b, l)) = some (AV.bool (a || b), l) := by cases a <;> rfl
theorem ra_bif {a b : Bool} {l : List AObj} : (bif a then some (AV.bool b, l) else some (AV.bool false, l)) = some (AV.bool (a && b), l) := by cases a <;> rfl
theorem ro_bif {a b : Bool} {l : List AObj} : (bif a then some (AV.bool b, l) else some (AV.bool true, l)) = some (AV.bool (!a || b), l) := by cases a <;> rfl
theorem rfu_bif {a b : Bool} : (bif a then some (false, ()) else some (b, ())) = some (!a && b, ()) := by cases a <;> rfl
theorem rtu_bif {a b : Bool} : (bif a then some (true, ()) else some (b, ())) = some (a || b, ()) := by cases a <;> rfl
theorem rau_bif {a b : Bool} : (bif a then some (b, ()) else some (false, ())) = some (a && b, ()) := by cases a <;> rfl
theorem rou_bif {a b : Bool} : (bif a then some (b, ()) else some (true, ())) = some (!a || b, ()) := by cases a <;> rfl
theorem oand_bif {a b x : Bool} : (bif a then some x else some (b && x)) = some ((a || b) && x) := by cases a <;> cases b <;> rfl
theorem sw_bif {x y z : Int} {k : Int} : (bif k == x then some (k == x, ()) else bif k == y then some (k == y, ()) else some (k == z, ())) = some (k == x || (k == y || k == z), ()) := by
  cases hx : k == x <;> cases hy : k == y <;> simp [hx]
theorem sw2_bif {x y : Int} {k : Int} : (bif k == x then some (k == x, ()) else some (k == y, ())) = some (k == x || k == y, ()) := by
  cases hx : k == x <;> simp [hx]
theorem someu_bif {a b c : Bool} : (bif a then some (b, ()) else some (c, ())) = some (bif a then b else c, ()) := by cases a <;> rfl
theorem selfor {a b : Bool} : (bif a then a else b) = (a || b) := by cases a <;> rfl
theorem some_bif {α : Type} {a : Bool} {x y : α} : (bif a then some x else some y) = some (bif a then x else y) := by cases a <;> rfl
abbrev Cmd := Int × Int × Int × List Rec × List UInt8 × Int × Int × Int × Int × Cnf
instance recDec : DecidableEq Rec := inferInstance
instance recsDec : DecidableEq (List Rec) := @instDecidableEqList Rec recDec
instance cmdDec0 : DecidableEq (Int × Int × Cnf) := inferInstance
instance cmdDec1 : DecidableEq (Int × Int × Int × Int × Cnf) := @instDecidableEqProd _ _ _ (@instDecidableEqProd _ _ _ cmdDec0)
instance cmdDec2 : DecidableEq (List UInt8 × Int × Int × Int × Int × Cnf) := @instDecidableEqProd _ _ inferInstance cmdDec1
instance cmdDec3 : DecidableEq (List Rec × List UInt8 × Int × Int × Int × Int × Cnf) := @instDecidableEqProd _ _ recsDec cmdDec2
instance cmdDec : DecidableEq Cmd := @instDecidableEqProd _ _ _ (@instDecidableEqProd _ _ _ (@instDecidableEqProd _ _ _ cmdDec3))
end Go.Sim
