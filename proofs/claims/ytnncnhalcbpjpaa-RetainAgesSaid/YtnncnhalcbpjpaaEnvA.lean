/-
  EnvA: the environment: types, functions, words to the machine. WRITTEN BY PROGRAM (envgen.py).
-/
import Derived.Test.YtnncnhalcbpjpaaChecked
import Derived.Test.YtnncnhalcbpjpaaSimRow
namespace Go.Sim
set_option maxRecDepth 100000
noncomputable abbrev P0 : Program := Proofs.Try.prog
def rows0 : List (TypeId × TRow) := [(3, ⟨(.int .i64), 1, 8, [.int .i64 0]⟩),
  (4, ⟨.bool, 1, 1, [.bool false]⟩),
  (22, ⟨(.slice 31), 1, 24, [.nils]⟩),
  (24, ⟨(.struct [(0, 1), (1, 1), (2, 1), (3, 1)] [(.int .i64), (.int .i64), (.int .i64), (.int .i64)]), 4, 32, [.int .i64 0, .int .i64 0, .int .i64 0, .int .i64 0]⟩),
  (31, ⟨(.struct [(0, 1), (1, 1), (2, 1), (3, 1), (4, 1), (5, 1), (6, 1), (7, 1), (8, 1), (9, 1)] []), 10, 80, [.int .i64 0, .int .i64 0, .int .i64 0, .int .i64 0, .nils, .bool false, .bool false, .bool false, .int .i64 0, .int .u32 0]⟩),
  (32, ⟨(.slice 3), 1, 24, [.nils]⟩),
  (43, ⟨(.slice 46), 1, 24, [.nils]⟩),
  (46, ⟨(.int .u64), 1, 8, [.int .u64 0]⟩)]
def tys0 : List (TypeId × Ty) := [(3, (.int .i64)),
  (4, .bool),
  (22, (.sl (.pair (.int .i64) (.pair (.int .i64) (.pair (.int .i64) (.pair (.int .i64) (.pair (.sl (.pair (.int .i64) (.pair (.int .i64) (.pair .str (.pair .str .bool))))) (.pair .bool (.pair .bool (.pair .bool (.pair (.int .i64) (.int .u32)))))))))))),
  (24, (.pair (.int .i64) (.pair (.int .i64) (.pair (.int .i64) (.int .i64))))),
  (31, (.pair (.int .i64) (.pair (.int .i64) (.pair (.int .i64) (.pair (.int .i64) (.pair (.sl (.pair (.int .i64) (.pair (.int .i64) (.pair .str (.pair .str .bool))))) (.pair .bool (.pair .bool (.pair .bool (.pair (.int .i64) (.int .u32))))))))))),
  (32, (.sl (.int .i64))),
  (43, (.sl (.int .u64))),
  (46, (.int .u64))]
theorem all0 : allB P0 rows0 tys0 = true := by kernel_rfl
theorem mixed0 : P0.follows .mixedOrders = true := by kernel_rfl
abbrev env (cons : List (FuncId × Con)) : Env := mkEnv rows0 tys0 cons
theorem env_ok {cons : List (FuncId × Con)} (hc : ∀ x ∈ cons, HoldsC P0 x.1 x.2) : EnvOK P0 (env cons) := mkEnv_ok all0 hc
abbrev I.cooperagelaw14_RetainDrops : FuncId := 3
noncomputable abbrev F.cooperagelaw14_RetainDrops : Func := Proofs.Try.f3
theorem G.cooperagelaw14_RetainDrops : P0.funcs[3]? = some F.cooperagelaw14_RetainDrops := Proofs.Try.func3
theorem C.cooperagelaw14_RetainDrops : Called P0 3 := ⟨_, G.cooperagelaw14_RetainDrops, by kernel_rfl, by kernel_rfl⟩
def H.cooperagelaw14_RetainDrops : Hint := { nt := 26, vs := [], nh := [], join := [(2, 6)], loops := [] }
noncomputable abbrev B.cooperagelaw14_RetainDrops : Code := (F.cooperagelaw14_RetainDrops.body).getD .skip
theorem Bd.cooperagelaw14_RetainDrops : F.cooperagelaw14_RetainDrops.body = some B.cooperagelaw14_RetainDrops := by kernel_rfl
abbrev I.cooperagelaw14_alive : FuncId := 9
noncomputable abbrev F.cooperagelaw14_alive : Func := Proofs.Try.f9
theorem G.cooperagelaw14_alive : P0.funcs[9]? = some F.cooperagelaw14_alive := Proofs.Try.func9
theorem C.cooperagelaw14_alive : Called P0 9 := ⟨_, G.cooperagelaw14_alive, by kernel_rfl, by kernel_rfl⟩
def H.cooperagelaw14_alive : Hint := { nt := 14, vs := [9], nh := [], join := [], loops := [] }
noncomputable abbrev B.cooperagelaw14_alive : Code := (F.cooperagelaw14_alive.body).getD .skip
theorem Bd.cooperagelaw14_alive : F.cooperagelaw14_alive.body = some B.cooperagelaw14_alive := by kernel_rfl
abbrev I.retain_Drop : FuncId := 10
noncomputable abbrev F.retain_Drop : Func := Proofs.Try.f10
theorem G.retain_Drop : P0.funcs[10]? = some F.retain_Drop := Proofs.Try.func10
theorem C.retain_Drop : Called P0 10 := ⟨_, G.retain_Drop, by kernel_rfl, by kernel_rfl⟩
def H.retain_Drop : Hint := { nt := 49, vs := [], nh := [], join := [(3, 45)], loops := [(3, [0, 2, 4, 7, 8])] }
noncomputable abbrev B.retain_Drop : Code := (F.retain_Drop.body).getD .skip
theorem Bd.retain_Drop : F.retain_Drop.body = some B.retain_Drop := by kernel_rfl
noncomputable abbrev L.retain_Drop_3 : Code := findL 3 (loopsIn B.retain_Drop)
abbrev V.retain_Drop_3 : List Nat := (lk? H.retain_Drop.loops 3).getD []
abbrev I.cooperageref10_Drop : FuncId := 11
noncomputable abbrev F.cooperageref10_Drop : Func := Proofs.Try.f11
theorem G.cooperageref10_Drop : P0.funcs[11]? = some F.cooperageref10_Drop := Proofs.Try.func11
theorem C.cooperageref10_Drop : Called P0 11 := ⟨_, G.cooperageref10_Drop, by kernel_rfl, by kernel_rfl⟩
def H.cooperageref10_Drop : Hint := { nt := 56, vs := [], nh := [], join := [(2, 20), (3, 8), (4, 9), (5, 51)], loops := [(2, [0, 2, 4, 6, 7])] }
noncomputable abbrev B.cooperageref10_Drop : Code := (F.cooperageref10_Drop.body).getD .skip
theorem Bd.cooperageref10_Drop : F.cooperageref10_Drop.body = some B.cooperageref10_Drop := by kernel_rfl
noncomputable abbrev L.cooperageref10_Drop_2 : Code := findL 2 (loopsIn B.cooperageref10_Drop)
abbrev V.cooperageref10_Drop_2 : List Nat := (lk? H.cooperageref10_Drop.loops 2).getD []
abbrev I.retain_sizes : FuncId := 20
noncomputable abbrev F.retain_sizes : Func := Proofs.Try.f20
theorem G.retain_sizes : P0.funcs[20]? = some F.retain_sizes := Proofs.Try.func20
theorem C.retain_sizes : Called P0 20 := ⟨_, G.retain_sizes, by kernel_rfl, by kernel_rfl⟩
def H.retain_sizes : Hint := { nt := 31, vs := [2], nh := [], join := [], loops := [(4, [0, 3, 4, 5])] }
noncomputable abbrev B.retain_sizes : Code := (F.retain_sizes.body).getD .skip
theorem Bd.retain_sizes : F.retain_sizes.body = some B.retain_sizes := by kernel_rfl
noncomputable abbrev L.retain_sizes_4 : Code := findL 4 (loopsIn B.retain_sizes)
abbrev V.retain_sizes_4 : List Nat := (lk? H.retain_sizes.loops 4).getD []
abbrev I.retain_old : FuncId := 21
noncomputable abbrev F.retain_old : Func := Proofs.Try.f21
theorem G.retain_old : P0.funcs[21]? = some F.retain_old := Proofs.Try.func21
theorem C.retain_old : Called P0 21 := ⟨_, G.retain_old, by kernel_rfl, by kernel_rfl⟩
def H.retain_old : Hint := { nt := 28, vs := [], nh := [], join := [(1, 6)], loops := [] }
noncomputable abbrev B.retain_old : Code := (F.retain_old.body).getD .skip
theorem Bd.retain_old : F.retain_old.body = some B.retain_old := by kernel_rfl
abbrev I.cooperageref10_older : FuncId := 22
noncomputable abbrev F.cooperageref10_older : Func := Proofs.Try.f22
theorem G.cooperageref10_older : P0.funcs[22]? = some F.cooperageref10_older := Proofs.Try.func22
theorem C.cooperageref10_older : Called P0 22 := ⟨_, G.cooperageref10_older, by kernel_rfl, by kernel_rfl⟩
def H.cooperageref10_older : Hint := { nt := 36, vs := [], nh := [], join := [], loops := [] }
noncomputable abbrev B.cooperageref10_older : Code := (F.cooperageref10_older.body).getD .skip
theorem Bd.cooperageref10_older : F.cooperageref10_older.body = some B.cooperageref10_older := by kernel_rfl
abbrev I.cooperageref10_above : FuncId := 23
noncomputable abbrev F.cooperageref10_above : Func := Proofs.Try.f23
theorem G.cooperageref10_above : P0.funcs[23]? = some F.cooperageref10_above := Proofs.Try.func23
theorem C.cooperageref10_above : Called P0 23 := ⟨_, G.cooperageref10_above, by kernel_rfl, by kernel_rfl⟩
def H.cooperageref10_above : Hint := { nt := 34, vs := [], nh := [], join := [], loops := [(3, [0, 4, 5, 6])] }
noncomputable abbrev B.cooperageref10_above : Code := (F.cooperageref10_above.body).getD .skip
theorem Bd.cooperageref10_above : F.cooperageref10_above.body = some B.cooperageref10_above := by kernel_rfl
noncomputable abbrev L.cooperageref10_above_3 : Code := findL 3 (loopsIn B.cooperageref10_above)
abbrev V.cooperageref10_above_3 : List Nat := (lk? H.cooperageref10_above.loops 3).getD []
abbrev I.cooperagelaw14_RetainWhole : FuncId := 4
noncomputable abbrev F.cooperagelaw14_RetainWhole : Func := Proofs.Try.f4
theorem G.cooperagelaw14_RetainWhole : P0.funcs[4]? = some F.cooperagelaw14_RetainWhole := Proofs.Try.func4
theorem C.cooperagelaw14_RetainWhole : Called P0 4 := ⟨_, G.cooperagelaw14_RetainWhole, by kernel_rfl, by kernel_rfl⟩
def H.cooperagelaw14_RetainWhole : Hint := { nt := 161, vs := [], nh := [], join := [(2, 38), (7, 75), (10, 87), (17, 106), (19, 120), (26, 6)], loops := [(5, [0, 2, 4, 6, 8]), (13, [0, 2, 4, 6, 9, 10]), (23, [0, 2, 4, 9, 11, 12])] }
noncomputable abbrev B.cooperagelaw14_RetainWhole : Code := (F.cooperagelaw14_RetainWhole.body).getD .skip
theorem Bd.cooperagelaw14_RetainWhole : F.cooperagelaw14_RetainWhole.body = some B.cooperagelaw14_RetainWhole := by kernel_rfl
noncomputable abbrev L.cooperagelaw14_RetainWhole_5 : Code := findL 5 (loopsIn B.cooperagelaw14_RetainWhole)
noncomputable abbrev L.cooperagelaw14_RetainWhole_13 : Code := findL 13 (loopsIn B.cooperagelaw14_RetainWhole)
noncomputable abbrev L.cooperagelaw14_RetainWhole_23 : Code := findL 23 (loopsIn B.cooperagelaw14_RetainWhole)
abbrev V.cooperagelaw14_RetainWhole_5 : List Nat := (lk? H.cooperagelaw14_RetainWhole.loops 5).getD []
abbrev V.cooperagelaw14_RetainWhole_13 : List Nat := (lk? H.cooperagelaw14_RetainWhole.loops 13).getD []
abbrev V.cooperagelaw14_RetainWhole_23 : List Nat := (lk? H.cooperagelaw14_RetainWhole.loops 23).getD []
abbrev I.cooperagelaw14_RetainAges : FuncId := 5
noncomputable abbrev F.cooperagelaw14_RetainAges : Func := Proofs.Try.f5
theorem G.cooperagelaw14_RetainAges : P0.funcs[5]? = some F.cooperagelaw14_RetainAges := Proofs.Try.func5
theorem C.cooperagelaw14_RetainAges : Called P0 5 := ⟨_, G.cooperagelaw14_RetainAges, by kernel_rfl, by kernel_rfl⟩
def H.cooperagelaw14_RetainAges : Hint := { nt := 82, vs := [75], nh := [(10, 31)], join := [(2, 38), (12, 12)], loops := [(8, [0, 1, 2, 3, 10, 11, 12, 13])] }
noncomputable abbrev B.cooperagelaw14_RetainAges : Code := (F.cooperagelaw14_RetainAges.body).getD .skip
theorem Bd.cooperagelaw14_RetainAges : F.cooperagelaw14_RetainAges.body = some B.cooperagelaw14_RetainAges := by kernel_rfl
noncomputable abbrev L.cooperagelaw14_RetainAges_8 : Code := findL 8 (loopsIn B.cooperagelaw14_RetainAges)
abbrev V.cooperagelaw14_RetainAges_8 : List Nat := (lk? H.cooperagelaw14_RetainAges.loops 8).getD []
end Go.Sim
