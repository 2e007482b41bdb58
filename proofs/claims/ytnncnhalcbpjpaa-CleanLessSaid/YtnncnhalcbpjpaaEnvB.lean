/-
  EnvB: the environment: types, functions, words to the machine. WRITTEN BY PROGRAM (envgen.py).
-/
import Derived.Test.YtnncnhalcbpjpaaChecked
import Derived.Test.YtnncnhalcbpjpaaSimRow
namespace Go.Sim
set_option maxRecDepth 100000
noncomputable abbrev P0 : Program := Proofs.Try.prog
def rows0 : List (TypeId × TRow) := [(3, ⟨(.int .i64), 1, 8, [.int .i64 0]⟩),
  (4, ⟨.bool, 1, 1, [.bool false]⟩),
  (9, ⟨.str, 1, 16, [.str []]⟩),
  (28, ⟨(.slice 38), 1, 24, [.nils]⟩),
  (32, ⟨(.slice 3), 1, 24, [.nils]⟩),
  (38, ⟨(.struct [(0, 1), (1, 1), (2, 1), (3, 1), (4, 1)] [(.int .i64), (.int .i64), .str, .str, .bool]), 5, 56, [.int .i64 0, .int .i64 0, .str [], .str [], .bool false]⟩),
  (46, ⟨(.int .u64), 1, 8, [.int .u64 0]⟩),
  (49, ⟨(.map 9 4), 1, 8, [.undef]⟩)]
def tys0 : List (TypeId × Ty) := [(3, (.int .i64)),
  (4, .bool),
  (9, .str),
  (28, (.sl (.pair (.int .i64) (.pair (.int .i64) (.pair .str (.pair .str .bool)))))),
  (32, (.sl (.int .i64))),
  (38, (.pair (.int .i64) (.pair (.int .i64) (.pair .str (.pair .str .bool))))),
  (46, (.int .u64))]
theorem all0 : allB P0 rows0 tys0 = true := by kernel_rfl
theorem mixed0 : P0.follows .mixedOrders = true := by kernel_rfl
abbrev env (cons : List (FuncId × Con)) : Env := mkEnv rows0 tys0 cons
theorem env_ok {cons : List (FuncId × Con)} (hc : ∀ x ∈ cons, HoldsC P0 x.1 x.2) : EnvOK P0 (env cons) := mkEnv_ok all0 hc
abbrev I.cooperagelaw13_alive : FuncId := 12
noncomputable abbrev F.cooperagelaw13_alive : Func := Proofs.Try.f12
theorem G.cooperagelaw13_alive : P0.funcs[12]? = some F.cooperagelaw13_alive := Proofs.Try.func12
theorem C.cooperagelaw13_alive : Called P0 12 := ⟨_, G.cooperagelaw13_alive, by kernel_rfl, by kernel_rfl⟩
def H.cooperagelaw13_alive : Hint := { nt := 16, vs := [4], nh := [], join := [(2, 0)], loops := [] }
noncomputable abbrev B.cooperagelaw13_alive : Code := (F.cooperagelaw13_alive.body).getD .skip
theorem Bd.cooperagelaw13_alive : F.cooperagelaw13_alive.body = some B.cooperagelaw13_alive := by kernel_rfl
abbrev I.cooperagelaw13_CleanLess : FuncId := 6
noncomputable abbrev F.cooperagelaw13_CleanLess : Func := Proofs.Try.f6
theorem G.cooperagelaw13_CleanLess : P0.funcs[6]? = some F.cooperagelaw13_CleanLess := Proofs.Try.func6
theorem C.cooperagelaw13_CleanLess : Called P0 6 := ⟨_, G.cooperagelaw13_CleanLess, by kernel_rfl, by kernel_rfl⟩
def H.cooperagelaw13_CleanLess : Hint := { nt := 151, vs := [], nh := [], join := [(3, 52), (11, 83), (14, 97), (16, 20), (20, 20), (21, 146)], loops := [(9, [2, 3, 4, 5, 12, 15, 16, 17, 18]), (18, [2, 3, 4, 5, 12, 15, 16, 17, 18, 19, 20, 21])] }
noncomputable abbrev B.cooperagelaw13_CleanLess : Code := (F.cooperagelaw13_CleanLess.body).getD .skip
theorem Bd.cooperagelaw13_CleanLess : F.cooperagelaw13_CleanLess.body = some B.cooperagelaw13_CleanLess := by kernel_rfl
noncomputable abbrev L.cooperagelaw13_CleanLess_9 : Code := findL 9 (loopsIn B.cooperagelaw13_CleanLess)
noncomputable abbrev L.cooperagelaw13_CleanLess_18 : Code := findL 18 (loopsIn B.cooperagelaw13_CleanLess)
abbrev V.cooperagelaw13_CleanLess_9 : List Nat := (lk? H.cooperagelaw13_CleanLess.loops 9).getD []
abbrev V.cooperagelaw13_CleanLess_18 : List Nat := (lk? H.cooperagelaw13_CleanLess.loops 18).getD []
abbrev I.cooperagelaw13_CleanAgain : FuncId := 7
noncomputable abbrev F.cooperagelaw13_CleanAgain : Func := Proofs.Try.f7
theorem G.cooperagelaw13_CleanAgain : P0.funcs[7]? = some F.cooperagelaw13_CleanAgain := Proofs.Try.func7
theorem C.cooperagelaw13_CleanAgain : Called P0 7 := ⟨_, G.cooperagelaw13_CleanAgain, by kernel_rfl, by kernel_rfl⟩
def H.cooperagelaw13_CleanAgain : Hint := { nt := 44, vs := [], nh := [], join := [(3, 21), (6, 10)], loops := [] }
noncomputable abbrev B.cooperagelaw13_CleanAgain : Code := (F.cooperagelaw13_CleanAgain.body).getD .skip
theorem Bd.cooperagelaw13_CleanAgain : F.cooperagelaw13_CleanAgain.body = some B.cooperagelaw13_CleanAgain := by kernel_rfl
abbrev I.cooperagelaw13_rise : FuncId := 14
noncomputable abbrev F.cooperagelaw13_rise : Func := Proofs.Try.f14
theorem G.cooperagelaw13_rise : P0.funcs[14]? = some F.cooperagelaw13_rise := Proofs.Try.func14
theorem C.cooperagelaw13_rise : Called P0 14 := ⟨_, G.cooperagelaw13_rise, by kernel_rfl, by kernel_rfl⟩
def H.cooperagelaw13_rise : Hint := { nt := 34, vs := [4], nh := [(5, 38)], join := [], loops := [(4, [0, 1, 5, 6, 7])] }
noncomputable abbrev B.cooperagelaw13_rise : Code := (F.cooperagelaw13_rise.body).getD .skip
theorem Bd.cooperagelaw13_rise : F.cooperagelaw13_rise.body = some B.cooperagelaw13_rise := by kernel_rfl
noncomputable abbrev L.cooperagelaw13_rise_4 : Code := findL 4 (loopsIn B.cooperagelaw13_rise)
abbrev V.cooperagelaw13_rise_4 : List Nat := (lk? H.cooperagelaw13_rise.loops 4).getD []
abbrev I.cooperagelaw8_Big : FuncId := 13
noncomputable abbrev F.cooperagelaw8_Big : Func := Proofs.Try.f13
theorem G.cooperagelaw8_Big : P0.funcs[13]? = some F.cooperagelaw8_Big := Proofs.Try.func13
theorem C.cooperagelaw8_Big : Called P0 13 := ⟨_, G.cooperagelaw8_Big, by kernel_rfl, by kernel_rfl⟩
def H.cooperagelaw8_Big : Hint := { nt := 29, vs := [], nh := [], join := [(4, 25)], loops := [(2, [0, 2, 3])] }
noncomputable abbrev B.cooperagelaw8_Big : Code := (F.cooperagelaw8_Big.body).getD .skip
theorem Bd.cooperagelaw8_Big : F.cooperagelaw8_Big.body = some B.cooperagelaw8_Big := by kernel_rfl
noncomputable abbrev L.cooperagelaw8_Big_2 : Code := findL 2 (loopsIn B.cooperagelaw8_Big)
abbrev V.cooperagelaw8_Big_2 : List Nat := (lk? H.cooperagelaw8_Big.loops 2).getD []
abbrev I.clean_Keep : FuncId := 15
noncomputable abbrev F.clean_Keep : Func := Proofs.Try.f15
theorem G.clean_Keep : P0.funcs[15]? = some F.clean_Keep := Proofs.Try.func15
theorem C.clean_Keep : Called P0 15 := ⟨_, G.clean_Keep, by kernel_rfl, by kernel_rfl⟩
def H.clean_Keep : Hint := { nt := 65, vs := [10], nh := [(11, 38)], join := [(9, 54)], loops := [(4, [0, 1, 2, 3, 4, 11, 12, 13])] }
noncomputable abbrev B.clean_Keep : Code := (F.clean_Keep.body).getD .skip
theorem Bd.clean_Keep : F.clean_Keep.body = some B.clean_Keep := by kernel_rfl
noncomputable abbrev L.clean_Keep_4 : Code := findL 4 (loopsIn B.clean_Keep)
abbrev V.clean_Keep_4 : List Nat := (lk? H.clean_Keep.loops 4).getD []
abbrev I.clean_behind : FuncId := 24
noncomputable abbrev F.clean_behind : Func := Proofs.Try.f24
theorem G.clean_behind : P0.funcs[24]? = some F.clean_behind := Proofs.Try.func24
theorem C.clean_behind : Called P0 24 := ⟨_, G.clean_behind, by kernel_rfl, by kernel_rfl⟩
def H.clean_behind : Hint := { nt := 37, vs := [], nh := [], join := [(2, 6), (3, 6)], loops := [] }
noncomputable abbrev B.clean_behind : Code := (F.clean_behind.body).getD .skip
theorem Bd.clean_behind : F.clean_behind.body = some B.clean_behind := by kernel_rfl
abbrev I.slices_Reverse_api_Record_api_Record : FuncId := 25
noncomputable abbrev F.slices_Reverse_api_Record_api_Record : Func := Proofs.Try.f25
theorem G.slices_Reverse_api_Record_api_Record : P0.funcs[25]? = some F.slices_Reverse_api_Record_api_Record := Proofs.Try.func25
theorem C.slices_Reverse_api_Record_api_Record : Called P0 25 := ⟨_, G.slices_Reverse_api_Record_api_Record, by kernel_rfl, by kernel_rfl⟩
def H.slices_Reverse_api_Record_api_Record : Hint := { nt := 28, vs := [], nh := [], join := [], loops := [(1, [0, 2, 3])] }
noncomputable abbrev B.slices_Reverse_api_Record_api_Record : Code := (F.slices_Reverse_api_Record_api_Record.body).getD .skip
theorem Bd.slices_Reverse_api_Record_api_Record : F.slices_Reverse_api_Record_api_Record.body = some B.slices_Reverse_api_Record_api_Record := by kernel_rfl
noncomputable abbrev L.slices_Reverse_api_Record_api_Record_1 : Code := findL 1 (loopsIn B.slices_Reverse_api_Record_api_Record)
abbrev V.slices_Reverse_api_Record_api_Record_1 : List Nat := (lk? H.slices_Reverse_api_Record_api_Record.loops 1).getD []
abbrev I.cooperageref1_SameRecords : FuncId := 16
noncomputable abbrev F.cooperageref1_SameRecords : Func := Proofs.Try.f16
theorem G.cooperageref1_SameRecords : P0.funcs[16]? = some F.cooperageref1_SameRecords := Proofs.Try.func16
theorem C.cooperageref1_SameRecords : Called P0 16 := ⟨_, G.cooperageref1_SameRecords, by kernel_rfl, by kernel_rfl⟩
def H.cooperageref1_SameRecords : Hint := { nt := 26, vs := [], nh := [], join := [], loops := [(4, [0, 1, 4, 5])] }
noncomputable abbrev B.cooperageref1_SameRecords : Code := (F.cooperageref1_SameRecords.body).getD .skip
theorem Bd.cooperageref1_SameRecords : F.cooperageref1_SameRecords.body = some B.cooperageref1_SameRecords := by kernel_rfl
noncomputable abbrev L.cooperageref1_SameRecords_4 : Code := findL 4 (loopsIn B.cooperageref1_SameRecords)
abbrev V.cooperageref1_SameRecords_4 : List Nat := (lk? H.cooperageref1_SameRecords.loops 4).getD []
end Go.Sim
