/-
  WkWA: one call, by both logs. · WkWB: rows of calls, by both logs: SegsRight, SegsRetains. · WkWD: the law SegsStored. · WkWE: the law SegsStored: its loops. · WkWF: the law SegsStored.
-/
import Derived.Test.YtjjikahgiffpbaaPartG
namespace Go.Sim
set_option linter.unusedSimpArgs false
set_option linter.unusedVariables false
set_option maxRecDepth 10000
theorem num_ev (n : Int) : evFn (env []) H.cooperagelaw15_num (LPof []) F.cooperagelaw15_num [.int .i64 n] [] (finT [.int .i64]) = some (n, ()) := by kernel_rfl

def caseNum : PCase := ⟨[.ty (.int .i64)], [.int .i64], fun x => (fun (n : Int) => [(true, (n, ()))]) x.1⟩
theorem num_val (n : Int) : evFn (env []) H.cooperagelaw15_num (LPof []) F.cooperagelaw15_num [.int .i64 n] [] (finT [.int .i64]) = some (n, ()) := by
  exact num_ev n
theorem num_ok : caseNum.ok P0 I.cooperagelaw15_num := case_ok2 (H := H.cooperagelaw15_num) (E := env []) (env_ok env_nil) glob0 mixed0 G.cooperagelaw15_num Bd.cooperagelaw15_num (by kernel_rfl) noLoops fun ⟨n, ()⟩ y h hw => by
  obtain ⟨hc, rfl⟩ := pick_pre h
  exact num_val n
noncomputable abbrev consDo : List (FuncId × Con) := [(I.cooperagelaw15_num, .pure (pureOf [caseNum])), (I.segs_Log_Append, .eff (effOf [caseAppend.e])), (I.segs_Log_Seal, .eff (effOf [caseSeal.e])), (I.segs_Log_Clean, .eff (effOf [caseClean.e])), (I.segs_Log_Retain, .eff (effOf [caseRetain.e])), (I.segs_Log_Merge, .eff (effOf [caseMerge.e])), (I.segs_Log_Offload, .eff (effOf [caseOffload.e])), (I.cooperageref10_Log_Append, .eff (effOf [caseRapp.e])), (I.cooperageref10_Log_Seal, .eff (effOf [caseRseal.e])), (I.cooperageref10_Log_Clean, .eff (effOf [caseRclean.e])), (I.cooperageref10_Log_Retain, .eff (effOf [caseRret.e])), (I.cooperageref10_Log_Merge, .eff (effOf [caseRmerge.e])), (I.cooperageref10_Log_Offload, .eff (effOf [caseRoff.e])), (I.cooperageref10_Log_Find, .eff (effOf [caseRfind.e])), (I.cooperageref1_Bytes, .pure (pureOf [caseRbytes])), (I.cooperageref1_Sum, .pure (pureOf [caseRcrcS]))]
theorem consDo_ok : ∀ x ∈ consDo, HoldsC P0 x.1 x.2 := by
  intro x hx
  simp at hx
  rcases hx with rfl | rfl | rfl | rfl | rfl | rfl | rfl | rfl | rfl | rfl | rfl | rfl | rfl | rfl | rfl | rfl
  · exact ⟨pureOf_holds (by simp; exact num_ok), C.cooperagelaw15_num⟩
  · exact ⟨fun args objs r objs2 h _ => effOf_holds (by simp; exact append_ok) args objs r objs2 h, C.segs_Log_Append⟩
  · exact ⟨fun args objs r objs2 h _ => effOf_holds (by simp; exact seal_ok) args objs r objs2 h, C.segs_Log_Seal⟩
  · exact ⟨fun args objs r objs2 h _ => effOf_holds (by simp; exact clean_ok) args objs r objs2 h, C.segs_Log_Clean⟩
  · exact ⟨fun args objs r objs2 h _ => effOf_holds (by simp; exact retain_ok) args objs r objs2 h, C.segs_Log_Retain⟩
  · exact ⟨fun args objs r objs2 h _ => effOf_holds (by simp; exact merge_ok) args objs r objs2 h, C.segs_Log_Merge⟩
  · exact ⟨fun args objs r objs2 h _ => effOf_holds (by simp; exact offload_ok) args objs r objs2 h, C.segs_Log_Offload⟩
  · exact ⟨fun args objs r objs2 h _ => effOf_holds (by simp; exact rapp_ok) args objs r objs2 h, C.cooperageref10_Log_Append⟩
  · exact ⟨fun args objs r objs2 h _ => effOf_holds (by simp; exact rseal_ok) args objs r objs2 h, C.cooperageref10_Log_Seal⟩
  · exact ⟨fun args objs r objs2 h _ => effOf_holds (by simp; exact rclean_ok) args objs r objs2 h, C.cooperageref10_Log_Clean⟩
  · exact ⟨fun args objs r objs2 h _ => effOf_holds (by simp; exact rret_ok) args objs r objs2 h, C.cooperageref10_Log_Retain⟩
  · exact ⟨fun args objs r objs2 h _ => effOf_holds (by simp; exact rmerge_ok) args objs r objs2 h, C.cooperageref10_Log_Merge⟩
  · exact ⟨fun args objs r objs2 h _ => effOf_holds (by simp; exact roff_ok) args objs r objs2 h, C.cooperageref10_Log_Offload⟩
  · exact ⟨fun args objs r objs2 h _ => effOf_holds (by simp; exact rfind_ok) args objs r objs2 h, C.cooperageref10_Log_Find⟩
  · exact ⟨pureOf_holds (by simp; exact rbytes_ok), C.cooperageref1_Bytes⟩
  · exact ⟨pureOf_holds (by simp; exact rcrcs_ok), C.cooperageref1_Sum⟩
def H.do2 : Hint := { H.cooperagelaw15_Do with vs := [19] }
abbrev actW (b n z : Int) (k : Nat) : List AV := [.int .i64 b, .int .i64 n, .int .i64 0, .int .i64 0, .hw k, .bool false, .bool false, .bool false, .int .i64 z, .int .u32 0]
abbrev actWP (k : Nat) : List Pat := [.int .i64, .int .i64, .lit (.int .i64 0), .lit (.int .i64 0), .lit (.hw k), .lit (.bool false), .lit (.bool false), .lit (.bool false), .int .i64, .lit (.int .u32 0)]
abbrev twoP : List OPat := [.box 1 [[.lit (.hw 1)]], .arr 10 segT [actWP 2], .log recT, .box 1 [[.lit (.hw 4)]], .arr 10 segT []]
abbrev twoQ : List OPat := [.box 1 [[.lit (.hw 5)]], .dead, .dead, .box 1 [[.lit (.hw 7)]], .dead, .arr 10 segT [actWP 6], .log recT, .arr 10 segT []]
abbrev actAV (w x y g : Int) (LL : List Rec) (c1 c2 c3 c4 : Int) (mo : Bool) : AV := .agg [.int .i64 w, .int .i64 x, .int .i64 y, .int .i64 g, .vl recT LL, .int .i64 c1, .int .i64 c2, .int .i64 c3, .int .i64 c4, .bool mo]
theorem do_ev (w x y g : Int) (LL : List Rec) (c1 c2 c3 c4 : Int) (mo : Bool) (f : List Seg) (b n z : Int) (rs : List Rec) (l : List Seg) : evFnM 5 (env consDo) H.do2 (LPof []) F.cooperagelaw15_Do [.ptr 0 (.tl 0) 0, .ptr 3 (.tl 0) 0, actAV w x y g LL c1 c2 c3 c4 mo] [.arr 1 .bool [] [[.hw 1]], .arr 10 segT f [actW b n z 2], .log recT rs, .arr 1 .bool [] [[.hw 4]], .arr 10 segT l []] (finVN .bool twoQ [0, 3] 5) = bif w == (0 : Int) then bif decide (LL.length * 56 ≤ 140737488355328) then bif decide (LL.length ≤ 200000000) && okB 500000000 (f, b, n, z, rs) then bif decide (LL.length ≤ 200000000) && appB l then some (n == rhighP l, (((), ()), ()), (), (), (((), ()), ()), (), ((apL x LL (f, b, n, z, rs) LL.length).1, ((apL x LL (f, b, n, z, rs) LL.length).2.1, (apL x LL (f, b, n, z, rs) LL.length).2.2.1, (), (), (), (), (), (), (apL x LL (f, b, n, z, rs) LL.length).2.2.2.1, (), ()), ()), (apL x LL (f, b, n, z, rs) LL.length).2.2.2.2, (segsL (apL x LL (unL l) LL.length), ()), ()) else none else none else none else bif w == (1 : Int) then bif decide (f.length ≤ 1000000000) then bif docB l then some (true, (((), ()), ()), (), (), (((), ()), ()), (), ((sealP (f, b, n, z, rs)).1, ((sealP (f, b, n, z, rs)).2.1, (sealP (f, b, n, z, rs)).2.2.1, (), (), (), (), (), (), (sealP (f, b, n, z, rs)).2.2.2.1, (), ()), ()), (sealP (f, b, n, z, rs)).2.2.2.2, (rsealP l, ()), ()) else none else none else bif w == (2 : Int) then bif decide (f.length ≤ 1000000000) && decide ((catG (segsL (f, b, n, z, rs))).length ≤ 1048576) then bif rclnB l then some (true, (((), ()), ()), (), (), (((), ()), ()), (), ((cleanP x y g (f, b, n, z, rs)).1, ((cleanP x y g (f, b, n, z, rs)).2.1, (cleanP x y g (f, b, n, z, rs)).2.2.1, (), (), (), (), (), (), (cleanP x y g (f, b, n, z, rs)).2.2.2.1, (), ()), ()), (cleanP x y g (f, b, n, z, rs)).2.2.2.2, (rclnP x y g l, ()), ()) else none else none else bif w == (3 : Int) then bif decide (f.length < 1000000000) then bif docB l then some (true, (((), ()), ()), (), (), (((), ()), ()), (), ((retainP (c1, c2, c3, c4) y (f, b, n, z, rs)).1, ((retainP (c1, c2, c3, c4) y (f, b, n, z, rs)).2.1, (retainP (c1, c2, c3, c4) y (f, b, n, z, rs)).2.2.1, (), (), (), (), (), (), (retainP (c1, c2, c3, c4) y (f, b, n, z, rs)).2.2.2.1, (), ()), ()), (retainP (c1, c2, c3, c4) y (f, b, n, z, rs)).2.2.2.2, (rretP (c1, c2, c3, c4) y l, ()), ()) else none else none else bif w == (4 : Int) then bif decide (f.length < 1000000000) && f.all genB then bif decide (l.length < 1000000000) && l.all genB then some ((mgAt x f).isSome == (rmgAt x l).isSome, (((), ()), ()), (), (), (((), ()), ()), (), ((mergeP x (f, b, n, z, rs)).1, ((mergeP x (f, b, n, z, rs)).2.1, (mergeP x (f, b, n, z, rs)).2.2.1, (), (), (), (), (), (), (mergeP x (f, b, n, z, rs)).2.2.2.1, (), ()), ()), (mergeP x (f, b, n, z, rs)).2.2.2.2, (rmergeP x l, ()), ()) else none else none else bif w == (5 : Int) then bif docB l then bif (rfndP x l).2 then bif decide (List.length (segD (rfndP x l).1).2.2.2.2.1 ≤ 1000000000) then bif !mo then bif smallL f then bif smallL l then some ((offloadP (segD (rfndP x l).1).1 (segD (rfndP x l).1).2.2.2.1 (IntKind.i64.wrap ((↑(bytS (segD (rfndP x l).1).2.2.2.2.1).length : Int) + (1 : Int))) (sumI (bytS (segD (rfndP x l).1).2.2.2.2.1)) (f, b, n, z, rs)).2 == (roffP (segD (rfndP x l).1).1 (segD (rfndP x l).1).2.2.2.1 (IntKind.i64.wrap ((↑(bytS (segD (rfndP x l).1).2.2.2.2.1).length : Int) + (1 : Int))) (sumI (bytS (segD (rfndP x l).1).2.2.2.2.1)) l).2, (((), ()), ()), (), (), (((), ()), ()), (), ((offloadP (segD (rfndP x l).1).1 (segD (rfndP x l).1).2.2.2.1 (IntKind.i64.wrap ((↑(bytS (segD (rfndP x l).1).2.2.2.2.1).length : Int) + (1 : Int))) (sumI (bytS (segD (rfndP x l).1).2.2.2.2.1)) (f, b, n, z, rs)).1.1, ((offloadP (segD (rfndP x l).1).1 (segD (rfndP x l).1).2.2.2.1 (IntKind.i64.wrap ((↑(bytS (segD (rfndP x l).1).2.2.2.2.1).length : Int) + (1 : Int))) (sumI (bytS (segD (rfndP x l).1).2.2.2.2.1)) (f, b, n, z, rs)).1.2.1, (offloadP (segD (rfndP x l).1).1 (segD (rfndP x l).1).2.2.2.1 (IntKind.i64.wrap ((↑(bytS (segD (rfndP x l).1).2.2.2.2.1).length : Int) + (1 : Int))) (sumI (bytS (segD (rfndP x l).1).2.2.2.2.1)) (f, b, n, z, rs)).1.2.2.1, (), (), (), (), (), (), (offloadP (segD (rfndP x l).1).1 (segD (rfndP x l).1).2.2.2.1 (IntKind.i64.wrap ((↑(bytS (segD (rfndP x l).1).2.2.2.2.1).length : Int) + (1 : Int))) (sumI (bytS (segD (rfndP x l).1).2.2.2.2.1)) (f, b, n, z, rs)).1.2.2.2.1, (), ()), ()), (offloadP (segD (rfndP x l).1).1 (segD (rfndP x l).1).2.2.2.1 (IntKind.i64.wrap ((↑(bytS (segD (rfndP x l).1).2.2.2.2.1).length : Int) + (1 : Int))) (sumI (bytS (segD (rfndP x l).1).2.2.2.2.1)) (f, b, n, z, rs)).1.2.2.2.2, ((roffP (segD (rfndP x l).1).1 (segD (rfndP x l).1).2.2.2.1 (IntKind.i64.wrap ((↑(bytS (segD (rfndP x l).1).2.2.2.2.1).length : Int) + (1 : Int))) (sumI (bytS (segD (rfndP x l).1).2.2.2.2.1)) l).1, ()), ()) else none else none else bif smallL f then bif smallL l then some ((offloadP (segD (rfndP x l).1).1 (segD (rfndP x l).1).2.2.2.1 (↑(bytS (segD (rfndP x l).1).2.2.2.2.1).length : Int) (sumI (bytS (segD (rfndP x l).1).2.2.2.2.1)) (f, b, n, z, rs)).2 == (roffP (segD (rfndP x l).1).1 (segD (rfndP x l).1).2.2.2.1 (↑(bytS (segD (rfndP x l).1).2.2.2.2.1).length : Int) (sumI (bytS (segD (rfndP x l).1).2.2.2.2.1)) l).2, (((), ()), ()), (), (), (((), ()), ()), (), ((offloadP (segD (rfndP x l).1).1 (segD (rfndP x l).1).2.2.2.1 (↑(bytS (segD (rfndP x l).1).2.2.2.2.1).length : Int) (sumI (bytS (segD (rfndP x l).1).2.2.2.2.1)) (f, b, n, z, rs)).1.1, ((offloadP (segD (rfndP x l).1).1 (segD (rfndP x l).1).2.2.2.1 (↑(bytS (segD (rfndP x l).1).2.2.2.2.1).length : Int) (sumI (bytS (segD (rfndP x l).1).2.2.2.2.1)) (f, b, n, z, rs)).1.2.1, (offloadP (segD (rfndP x l).1).1 (segD (rfndP x l).1).2.2.2.1 (↑(bytS (segD (rfndP x l).1).2.2.2.2.1).length : Int) (sumI (bytS (segD (rfndP x l).1).2.2.2.2.1)) (f, b, n, z, rs)).1.2.2.1, (), (), (), (), (), (), (offloadP (segD (rfndP x l).1).1 (segD (rfndP x l).1).2.2.2.1 (↑(bytS (segD (rfndP x l).1).2.2.2.2.1).length : Int) (sumI (bytS (segD (rfndP x l).1).2.2.2.2.1)) (f, b, n, z, rs)).1.2.2.2.1, (), ()), ()), (offloadP (segD (rfndP x l).1).1 (segD (rfndP x l).1).2.2.2.1 (↑(bytS (segD (rfndP x l).1).2.2.2.2.1).length : Int) (sumI (bytS (segD (rfndP x l).1).2.2.2.2.1)) (f, b, n, z, rs)).1.2.2.2.2, ((roffP (segD (rfndP x l).1).1 (segD (rfndP x l).1).2.2.2.1 (↑(bytS (segD (rfndP x l).1).2.2.2.2.1).length : Int) (sumI (bytS (segD (rfndP x l).1).2.2.2.2.1)) l).1, ()), ()) else none else none else none else some (true, (((), ()), ()), (), (), (((), ()), ()), (), (f, (b, n, (), (), (), (), (), (), z, (), ()), ()), rs, (l, ()), ()) else none else bif w == (6 : Int) then bif smallL f then bif smallL l then some ((offloadP x y g (7 : Int) (f, b, n, z, rs)).2 == (roffP x y g (7 : Int) l).2, (((), ()), ()), (), (), (((), ()), ()), (), ((offloadP x y g (7 : Int) (f, b, n, z, rs)).1.1, ((offloadP x y g (7 : Int) (f, b, n, z, rs)).1.2.1, (offloadP x y g (7 : Int) (f, b, n, z, rs)).1.2.2.1, (), (), (), (), (), (), (offloadP x y g (7 : Int) (f, b, n, z, rs)).1.2.2.2.1, (), ()), ()), (offloadP x y g (7 : Int) (f, b, n, z, rs)).1.2.2.2.2, ((roffP x y g (7 : Int) l).1, ()), ()) else none else none else some (true, (((), ()), ()), (), (), (((), ()), ()), (), (f, (b, n, (), (), (), (), (), (), z, (), ()), ()), rs, (l, ()), ()) := by kernel_rfl
abbrev ActD := Int × Int × Int × Int × List Rec × (Int × Int × Int × Int) × Bool
/-- What a call leaves. -/
def offSz (mo : Bool) (g : Seg) : Int := bif mo then ((bytS g.2.2.2.2.1).length : Int) else ((bytS g.2.2.2.2.1).length : Int) + 1
def doP (a : ActD) (M : LogS) : LogS := bif a.1 == 0 then apL a.2.1 a.2.2.2.2.1 M a.2.2.2.2.1.length else bif a.1 == 1 then sealP M else bif a.1 == 2 then cleanP a.2.1 a.2.2.1 a.2.2.2.1 M else
  bif a.1 == 3 then retainP a.2.2.2.2.2.1 a.2.2.1 M else bif a.1 == 4 then mergeP a.2.1 M else bif a.1 == 5 then (bif (fndP a.2.1 M).2 then (offloadP (fndP a.2.1 M).1.1 (fndP a.2.1 M).1.2.2.2.1 (offSz a.2.2.2.2.2.2 (fndP a.2.1 M).1) (sumI (bytS (fndP a.2.1 M).1.2.2.2.2.1)) M).1 else M) else
  bif a.1 == 6 then (offloadP a.2.1 a.2.2.1 a.2.2.2.1 7 M).1 else M
theorem InvM_small {c : Nat} {v : Int} {M : LogS} (h : InvM c v M) (hc : c ≤ 900000000) : smallL (segsL M) = true ∧ smallL M.1 = true ∧ M.1.length < 1000000000 := by
  obtain ⟨h1, h2, h3, h4, h5, h6, h7, h9⟩ := okB_iff.1 (InvM_ok h (by omega))
  unfold smallL
  refine ⟨?_, ?_, by omega⟩
  · rw [segsL_len, decide_eq_true (by omega), Bool.true_and]
    unfold segsL
    rw [List.all_append, h9, Bool.true_and]
    simp only [List.all_cons, List.all_nil, Bool.and_true]
    exact decide_eq_true (show M.2.2.2.2.length ≤ 1000000000 by omega)
  · rw [decide_eq_true (by omega), h9]
    rfl
theorem fnd_mem {off : Int} {M : LogS} (h : (fndP off M).2 = true) : (fndP off M).1 ∈ segsL M := by
  unfold fndP at h ⊢
  cases hd : decide (off < lowP M) with
  | true => rw [hd] at h; cases h
  | false =>
    rw [hd] at h
    simp only [cond_false] at h ⊢
    cases hf : (segsL M).find? (nextG off) with
    | none => rw [hf] at h; cases h
    | some g => exact List.mem_of_find?_eq_some hf
theorem InvM_fnd {c : Nat} {v : Int} {M : LogS} (h : InvM c v M) (off : Int) (hf : (fndP off M).2 = true) : (fndP off M).1.2.2.2.2.1.length ≤ c := by
  have := catG_mem (fnd_mem hf)
  have := InvM_len h
  omega
theorem lowP_app (most : Int) (LL : List Rec) (M : LogS) : ∀ k, lowP (apL most LL M k) = lowP M
  | 0 => rfl
  | k + 1 => by
    show lowP (apR most (apL most LL M k) (LL.getD k recTy.zero)) = _
    rw [← lowP_app most LL M k]
    unfold apR
    cases recR (0, (LL.getD k recTy.zero).2) with
    | false => rfl
    | true =>
      rw [cond_true]
      cases decide ((apL most LL M k).2.2.1 + 1 - (apL most LL M k).2.1 ≥ mxI most) with
      | true => rw [cond_true, lowP_seal]; rfl
      | false => rfl
theorem app_high (most : Int) (LL : List Rec) (M : LogS) : ∀ k, M.2.2.1 ≤ (apL most LL M k).2.2.1
  | 0 => Int.le_refl _
  | k + 1 => by
    have ih := app_high most LL M k
    show _ ≤ (apR most (apL most LL M k) (LL.getD k recTy.zero)).2.2.1
    unfold apR
    cases recR (0, (LL.getD k recTy.zero).2) with
    | false => exact ih
    | true =>
      rw [cond_true]
      have e : (pushP (apL most LL M k) (LL.getD k recTy.zero)).2.2.1 = (apL most LL M k).2.2.1 + 1 := rfl
      cases decide ((apL most LL M k).2.2.1 + 1 - (apL most LL M k).2.1 ≥ mxI most) with
      | true => rw [cond_true, sealP_next, e]; omega
      | false => rw [cond_false, e]; omega
theorem off_high (bs gn by2 su : Int) (M : LogS) : (offloadP bs gn by2 su M).1.2.2.1 = M.2.2.1 := by
  unfold offloadP
  cases odAt bs gn M with
  | none => rfl
  | some k => simp only; cases ofBad by2 su M.1 k <;> rfl
theorem InvM_do {c : Nat} {v : Int} {M : LogS} (a : ActD) (h : InvM c v M) (hv : 0 ≤ v) (hv2 : v ≤ 1000000) (hc : c + a.2.2.2.2.1.length ≤ 1000000) : InvM (c + a.2.2.2.2.1.length : Nat) (v + 1) (doP a M) ∧ lowP M ≤ lowP (doP a M) ∧ M.2.2.1 ≤ (doP a M).2.2.1 := by
  have hm : InvM (c + a.2.2.2.2.1.length : Nat) (v + 1) M := InvM_mono h (by omega) (by omega)
  unfold doP
  cases a.1 == 0 with
  | true =>
    rw [cond_true]
    have h1 := InvM_app a.2.1 a.2.2.2.2.1 h hv (by omega) a.2.2.2.2.1.length (by omega)
    exact ⟨InvM_mono h1 (by omega) (by omega), Int.le_of_eq (lowP_app _ _ _ _).symm, app_high _ _ _ _⟩
  | false =>
    rw [cond_false]
    cases a.1 == 1 with
    | true => exact ⟨InvM_mono (InvM_seal h hv) (by omega) (by omega), Int.le_of_eq (lowP_seal _).symm, Int.le_of_eq (sealP_next _).symm⟩
    | false =>
      rw [cond_false]
      cases a.1 == 2 with
      | true =>
        obtain ⟨h1, h2⟩ := InvM_clean a.2.1 a.2.2.1 a.2.2.2.1 h hv2
        exact ⟨InvM_mono h1 (by omega) (by omega), Int.le_of_eq h2.symm, Int.le_refl _⟩
      | false =>
        rw [cond_false]
        cases a.1 == 3 with
        | true =>
          obtain ⟨h1, h2⟩ := InvM_retain a.2.2.2.2.2.1 a.2.2.1 h
          exact ⟨InvM_mono h1 (by omega) (by omega), h2, Int.le_refl _⟩
        | false =>
          rw [cond_false]
          cases a.1 == 4 with
          | true =>
            obtain ⟨h1, h2⟩ := InvM_merge a.2.1 h
            exact ⟨InvM_mono h1 (by omega) (by omega), Int.le_of_eq h2.symm, Int.le_refl _⟩
          | false =>
            rw [cond_false]
            cases a.1 == 5 with
            | true =>
              rw [cond_true]
              cases (fndP a.2.1 M).2 with
              | false => exact ⟨hm, Int.le_refl _, Int.le_refl _⟩
              | true =>
                rw [cond_true]
                obtain ⟨h1, h2⟩ := InvM_off (fndP a.2.1 M).1.1 (fndP a.2.1 M).1.2.2.2.1 (offSz a.2.2.2.2.2.2 (fndP a.2.1 M).1) (sumI (bytS (fndP a.2.1 M).1.2.2.2.2.1)) h
                exact ⟨InvM_mono h1 (by omega) (by omega), Int.le_of_eq h2.symm, Int.le_of_eq (off_high _ _ _ _ _).symm⟩
            | false =>
              rw [cond_false]
              cases a.1 == 6 with
              | true =>
                obtain ⟨h1, h2⟩ := InvM_off a.2.1 a.2.2.1 a.2.2.2.1 7 h
                exact ⟨InvM_mono h1 (by omega) (by omega), Int.le_of_eq h2.symm, Int.le_of_eq (off_high _ _ _ _ _).symm⟩
              | false => exact ⟨hm, Int.le_refl _, Int.le_refl _⟩
abbrev twoD (M : LogS) : opatsDen twoQ := ((((), ()), ()), (), (), (((), ()), ()), (), (M.1, (M.2.1, M.2.2.1, (), (), (), (), (), (), M.2.2.2.1, (), ()), ()), M.2.2.2.2, (segsL M, ()), ())
theorem do_val (a : ActD) (M : LogS) {c : Nat} {v : Int} (h : InvM c v M) (hv : 0 ≤ v) (hv2 : v ≤ 1000000) (hc : c ≤ 1000000) (hL : a.2.2.2.2.1.length ≤ 1000000) :
    evFnM 5 (env consDo) H.do2 (LPof []) F.cooperagelaw15_Do [.ptr 0 (.tl 0) 0, .ptr 3 (.tl 0) 0, actAV a.1 a.2.1 a.2.2.1 a.2.2.2.1 a.2.2.2.2.1 a.2.2.2.2.2.1.1 a.2.2.2.2.2.1.2.1 a.2.2.2.2.2.1.2.2.1 a.2.2.2.2.2.1.2.2.2 a.2.2.2.2.2.2] [.arr 1 .bool [] [[.hw 1]], .arr 10 segT M.1 [actW M.2.1 M.2.2.1 M.2.2.2.1 2], .log recT M.2.2.2.2, .arr 1 .bool [] [[.hw 4]], .arr 10 segT (segsL M) []] (finVN .bool twoQ [0, 3] 5) =
      some (true, twoD (doP a M)) := by
  have hM : (M.1, M.2.1, M.2.2.1, M.2.2.2.1, M.2.2.2.2) = M := rfl
  have hok := InvM_ok h (by omega)
  obtain ⟨sm1, sm2, sm3⟩ := InvM_small h (by omega)
  have hlen := InvM_len h
  have hdoc := docB_segs hok (by omega)
  have happ : appB (segsL M) = true := by
    unfold appB
    rw [isL_segs, unL_segs, okB_mono hok (show c ≤ 400000000 by omega), h.size]
    rfl
  have hro : ∀ bs gn by2 su : Int, roffP bs gn by2 su (segsL M) = (segsL (offloadP bs gn by2 su M).1, (offloadP bs gn by2 su M).2) := fun bs gn by2 su => roff_segs bs gn by2 su h.chain
  rw [do_ev, hM]
  unfold doP
  cases a.1 == 0 with
  | true =>
    have p1 : decide (a.2.2.2.2.1.length * 56 ≤ 140737488355328) = true := decide_eq_true (by omega)
    have p2 : decide (a.2.2.2.2.1.length ≤ 200000000) = true := decide_eq_true (by omega)
    rw [p1, p2, okB_mono hok (show c ≤ 500000000 by omega), happ, rhigh_segs, unL_segs]
    simp only [Bool.and_self, cond_true, beq_self_eq_true]
  | false =>
    rw [cond_false, cond_false]
    cases a.1 == 1 with
    | true =>
      rw [decide_eq_true (show M.1.length ≤ 1000000000 by omega), hdoc, rseal_segs]
      rfl
    | false =>
      rw [cond_false, cond_false]
      cases a.1 == 2 with
      | true =>
        have p3 : rclnB (segsL M) = true := by unfold rclnB; rw [hdoc, decide_eq_true (by omega)]; rfl
        rw [decide_eq_true (show M.1.length ≤ 1000000000 by omega), decide_eq_true (show (catG (segsL M)).length ≤ 1048576 by omega), p3, rclean_segs _ _ _ h]
        rfl
      | false =>
        rw [cond_false, cond_false]
        cases a.1 == 3 with
        | true =>
          rw [decide_eq_true sm3, hdoc, rret_segs]
          rfl
        | false =>
          rw [cond_false, cond_false]
          cases a.1 == 4 with
          | true =>
            have g1 := InvM_gen h (by omega) hv2
            have g2 : M.1.all genB = true := by unfold segsL at g1; rw [List.all_append, Bool.and_eq_true] at g1; exact g1.1
            have p4 : decide ((segsL M).length < 1000000000) = true := decide_eq_true (by rw [segsL_len]; have := InvM_num h; omega)
            rw [decide_eq_true sm3, g2, p4, g1, rmg_at _ h.chain, rmerge_segs _ h.chain]
            simp only [Bool.and_self, cond_true, beq_self_eq_true]
          | false =>
            rw [cond_false, cond_false]
            cases a.1 == 5 with
            | true =>
              rw [hdoc, rfnd_segs, sm1, sm2]
              cases hf : (fndP a.2.1 M).2 with
              | false => rfl
              | true =>
                have hl := InvM_fnd h _ hf
                have p5 : decide (List.length (segD (fndP a.2.1 M).1).2.2.2.2.1 ≤ 1000000000) = true := decide_eq_true (by show (fndP a.2.1 M).1.2.2.2.2.1.length ≤ _; omega)
                have hb := bytS_len (fndP a.2.1 M).1.2.2.2.2.1
                have hw : IntKind.i64.wrap (((bytS (fndP a.2.1 M).1.2.2.2.2.1).length : Int) + 1) = ((bytS (fndP a.2.1 M).1.2.2.2.2.1).length : Int) + 1 := wrap64 (by omega) (by omega)
                have q1 : (segD (fndP a.2.1 M).1).2.2.2.2.1 = (fndP a.2.1 M).1.2.2.2.2.1 := rfl
                have q2 : (segD (fndP a.2.1 M).1).1 = (fndP a.2.1 M).1.1 := rfl
                have q3 : (segD (fndP a.2.1 M).1).2.2.2.1 = (fndP a.2.1 M).1.2.2.2.1 := rfl
                rw [p5, q1, q2, q3, hw]
                unfold offSz
                cases a.2.2.2.2.2.2 with
                | true =>
                  simp only [hro, Bool.not_true, cond_false, cond_true, beq_self_eq_true]
                | false =>
                  simp only [hro, Bool.not_false, cond_false, cond_true, beq_self_eq_true]
            | false =>
              rw [cond_false, cond_false]
              cases a.1 == 6 with
              | true =>
                rw [sm1, sm2]
                simp only [hro, cond_true, beq_self_eq_true]
              | false => rfl
end Go.Sim
namespace Go.Sim
set_option linter.unusedSimpArgs false
set_option linter.unusedVariables false
set_option maxRecDepth 10000
noncomputable def doB (LL : List Rec) (M : LogS) (l : List Seg) : Bool := @decide (l = segsL M ∧ InvM 1000000 1000000 M ∧ LL.length ≤ 1000000) (Classical.propDecidable _)
theorem doB_at {LL : List Rec} {M : LogS} {l : List Seg} (h : doB LL M l = true) : l = segsL M ∧ InvM 1000000 1000000 M ∧ LL.length ≤ 1000000 := @of_decide_eq_true _ (Classical.propDecidable _) h
theorem doB_of {LL : List Rec} {M : LogS} {l : List Seg} (h1 : l = segsL M) (h2 : InvM 1000000 1000000 M) (h3 : LL.length ≤ 1000000) : doB LL M l = true := @decide_eq_true _ (Classical.propDecidable _) ⟨h1, h2, h3⟩
noncomputable def caseDo : VCase := ⟨[.lit (.ptr 0 (.tl 0) 0), .lit (.ptr 3 (.tl 0) 0), .agg [.int .i64, .int .i64, .int .i64, .int .i64, .vl recT, .int .i64, .int .i64, .int .i64, .int .i64, .bool]], twoP, .bool, twoQ, fun ⟨_, _, ⟨w, x, y, g, LL, c1, c2, c3, c4, mo, _⟩, _⟩ ⟨_, ⟨f, ⟨b, n, _, _, _, _, _, _, z, _, _⟩, _⟩, rs, _, ⟨l, _⟩, _⟩ =>
  [(doB LL (f, b, n, z, rs) l, (true, ((((), ()), ()), (), (), (((), ()), ()), (), ((doP (w, x, y, g, LL, (c1, c2, c3, c4), mo) (f, b, n, z, rs)).1, ((doP (w, x, y, g, LL, (c1, c2, c3, c4), mo) (f, b, n, z, rs)).2.1, (doP (w, x, y, g, LL, (c1, c2, c3, c4), mo) (f, b, n, z, rs)).2.2.1, (), (), (), (), (), (), (doP (w, x, y, g, LL, (c1, c2, c3, c4), mo) (f, b, n, z, rs)).2.2.2.1, (), ()), ()), (doP (w, x, y, g, LL, (c1, c2, c3, c4), mo) (f, b, n, z, rs)).2.2.2.2, (segsL (doP (w, x, y, g, LL, (c1, c2, c3, c4), mo) (f, b, n, z, rs)), ()), ())))]⟩
theorem do_go (a : ActD) (M : LogS) (l : List Seg) (h : doB a.2.2.2.2.1 M l = true) :
    evFnM 5 (env consDo) H.do2 (LPof []) F.cooperagelaw15_Do [.ptr 0 (.tl 0) 0, .ptr 3 (.tl 0) 0, actAV a.1 a.2.1 a.2.2.1 a.2.2.2.1 a.2.2.2.2.1 a.2.2.2.2.2.1.1 a.2.2.2.2.2.1.2.1 a.2.2.2.2.2.1.2.2.1 a.2.2.2.2.2.1.2.2.2 a.2.2.2.2.2.2] [.arr 1 .bool [] [[.hw 1]], .arr 10 segT M.1 [actW M.2.1 M.2.2.1 M.2.2.2.1 2], .log recT M.2.2.2.2, .arr 1 .bool [] [[.hw 4]], .arr 10 segT l []] (finVN .bool twoQ [0, 3] 5) =
      some (true, twoD (doP a M)) := by
  obtain ⟨rfl, h2, h3⟩ := doB_at h
  exact do_val a M (c := 1000000) h2 (by decide) (by decide) (by decide) h3
theorem do_ok : caseDo.e.ok P0 I.cooperagelaw15_Do := vcase_okN (c := caseDo) (H := H.do2) (E := env consDo) (env_ok consDo_ok) glob0 mixed0 G.cooperagelaw15_Do Bd.cooperagelaw15_Do [0, 3] (by kernel_rfl) noLoops fun ⟨_, _, ⟨w, x, y, g, LL, c1, c2, c3, c4, mo, _⟩, _⟩ ⟨_, ⟨f, ⟨b, n, _, _, _, _, _, _, z, _, _⟩, _⟩, rs, _, ⟨l, _⟩, _⟩ r h hw1 hw2 => by
  obtain ⟨hc, rfl⟩ := pick_pre h
  exact do_go (w, x, y, g, LL, (c1, c2, c3, c4), mo) (f, b, n, z, rs) l hc
/-- What the first i calls leave. -/
def runD (l : List ractT.den) : Nat → LogS
  | 0 => ([], 0, 0, 0, [])
  | i + 1 => doP (l.getD i ractT.zero) (runD l i)
theorem act_small {l : List ractT.den} (hb : (firstFrom (bigA l) 0 l.length).isSome = false) {i : Nat} (hi : i < l.length) : (l.getD i ractT.zero).2.2.2.2.1.length ≤ 12 := by
  have hn : firstFrom (bigA l) 0 l.length = none := by
    cases hf : firstFrom (bigA l) 0 l.length with
    | none => rfl
    | some k => rw [hf] at hb; cases hb
  have hbi := firstFrom_none hn i (Nat.zero_le _) (by omega)
  unfold bigA at hbi
  rw [Bool.or_eq_false_iff] at hbi
  have := of_decide_eq_false hbi.2
  omega
theorem runD_inv {l : List ractT.den} (hl : l.length ≤ 40) (hb : (firstFrom (bigA l) 0 l.length).isSome = false) : ∀ i, i ≤ l.length → InvM ((12 * i : Nat) : Int) ((i : Nat) : Int) (runD l i)
  | 0, _ => InvM_zero
  | i + 1, h => by
    have h1 := runD_inv hl hb i (by omega)
    have h12 := act_small hb (i := i) (by omega)
    have h2 := (InvM_do (c := 12 * i) (v := i) (l.getD i ractT.zero) h1 (by omega) (by omega) (by omega)).1
    exact InvM_mono h2 (by omega) (by omega)
theorem runD_big {l : List ractT.den} (hl : l.length ≤ 40) (hb : (firstFrom (bigA l) 0 l.length).isSome = false) {i : Nat} (h : i ≤ l.length) : InvM 1000000 1000000 (runD l i) := InvM_mono (runD_inv hl hb i h) (by omega) (by omega)
noncomputable abbrev consWB : List (FuncId × Con) := [(I.cooperagelaw15_Do, .eff (effOf [caseDo.e])), (I.cooperageref10_NewLog, .eff (effOf [caseRnew.e])), (I.cooperagelaw15_Big, .pure (pureOf [caseBigA])), (I.segs_Log_Retain, .eff (effOf [caseRetain.e])), (I.cooperageref10_Drop, .pure (pureOf [caseRDrop])), (I.cooperageref10_RightLog, .pure (pureOf [caseRlog])), (I.cooperageref10_SameSegments, .pure (pureOf [caseSsame]))] ++ consD3
theorem consWB_ok : ∀ x ∈ consWB, HoldsC P0 x.1 x.2 := by
  intro x hx
  rcases List.mem_append.1 hx with hx | hx
  · simp at hx
    rcases hx with rfl | rfl | rfl | rfl | rfl | rfl | rfl
    · exact ⟨fun args objs r objs2 h _ => effOf_holds (by simp; exact do_ok) args objs r objs2 h, C.cooperagelaw15_Do⟩
    · exact ⟨fun args objs r objs2 h _ => effOf_holds (by simp; exact rnew_ok) args objs r objs2 h, C.cooperageref10_NewLog⟩
    · exact ⟨pureOf_holds (by simp; exact biga_ok), C.cooperagelaw15_Big⟩
    · exact ⟨fun args objs r objs2 h _ => effOf_holds (by simp; exact retain_ok) args objs r objs2 h, C.segs_Log_Retain⟩
    · exact ⟨pureOf_holds (by simp; exact rdrop_ok), C.cooperageref10_Drop⟩
    · exact ⟨pureOf_holds (by simp; exact rlog_ok), C.cooperageref10_RightLog⟩
    · exact ⟨pureOf_holds (by simp; exact ssame_ok), C.cooperageref10_SameSegments⟩
  · exact consD3_ok x hx
abbrev twoO (M : LogS) : List (Nat × AObj) := [(0, .arr 1 .bool [] [[.hw 1]]), (1, .arr 10 segT M.1 [actW M.2.1 M.2.2.1 M.2.2.2.1 2]), (2, .log recT M.2.2.2.2), (3, .arr 1 .bool [] [[.hw 4]]), (4, .arr 10 segT (segsL M) [])]
theorem bigAct_no {l : List ractT.den} (h : bigAct l = false) : l.length ≤ 40 ∧ (firstFrom (bigA l) 0 l.length).isSome = false := by
  unfold bigAct at h
  rw [Bool.or_eq_false_iff, Bool.or_eq_false_iff] at h
  obtain ⟨b1, b2, b3⟩ := h
  have := of_decide_eq_false b2
  exact ⟨by omega, b1⟩
end Go.Sim
namespace Go.Sim
set_option linter.unusedSimpArgs false
set_option linter.unusedVariables false
set_option maxRecDepth 10000
noncomputable abbrev consWD : List (FuncId × Con) := [(I.cooperageref1_Bytes, .pure (pureOf [caseRbytes])), (I.cooperageref1_Sum, .pure (pureOf [caseRcrcS])), (I.cooperagelaw15_num, .pure (pureOf [caseNum])), (I.segs_Log_Find, .eff (effOf [caseFind.e])), (I.segs_Log_Offload, .eff (effOf [caseOffload.e]))] ++ consWB
theorem consWD_ok : ∀ x ∈ consWD, HoldsC P0 x.1 x.2 := by
  intro x hx
  rcases List.mem_append.1 hx with hx | hx
  · simp at hx
    rcases hx with rfl | rfl | rfl | rfl | rfl
    · exact ⟨pureOf_holds (by simp; exact rbytes_ok), C.cooperageref1_Bytes⟩
    · exact ⟨pureOf_holds (by simp; exact rcrcs_ok), C.cooperageref1_Sum⟩
    · exact ⟨pureOf_holds (by simp; exact num_ok), C.cooperagelaw15_num⟩
    · exact ⟨fun args objs r objs2 h _ => effOf_holds (by simp; exact find_ok) args objs r objs2 h, C.segs_Log_Find⟩
    · exact ⟨fun args objs r objs2 h _ => effOf_holds (by simp; exact offload_ok) args objs r objs2 h, C.segs_Log_Offload⟩
  · exact consWB_ok x hx
def H.stored2 : Hint := { H.cooperagelaw15_SegsStored with join := [(3, 25), (27, 165), (29, 16)], loops := [(8, [0, 1, 7, 8, 9]), (24, [10, 11, 13, 15, 16, 17])] }
theorem so_rd8 {R : Type} (l : List ractT.den) (off i : Int) (f : List Seg) (b n z : Int) (rs : List Rec) (d : List Seg) (K : Ex → St → Option R) : roundK (env consWD) H.stored2 0 (LPof []) V.cooperagelaw15_SegsStored_8 L.cooperagelaw15_SegsStored_8 ⟨[(0, .vl ractT l), (1, .int .i64 off), (7, .ptr 0 (.tl 0) 0), (8, .ptr 3 (.tl 0) 0), (9, .int .i64 i)], [(0, .arr 1 .bool [] [[.hw 1]]), (1, .arr 10 segT f [actW b n z 2]), (2, .log recT rs), (3, .arr 1 .bool [] [[.hw 4]]), (4, .arr 10 segT d [])], 5⟩ K = bif decide (i < (↑l.length : Int)) then bif decide ((0 : Int) ≤ i) && decide (i < (↑l.length : Int)) then bif doB (l.getD i.toNat ractT.zero).2.2.2.2.1 (f, b, n, z, rs) d then K .normal { slots := [(0, .vl ractT l), (1, .int .i64 off), (7, .ptr 0 (.tl 0) 0), (8, .ptr 3 (.tl 0) 0), (9, .int .i64 (IntKind.i64.wrap (i + (1 : Int))))], objs := [(0, .arr 1 .bool [] [[.hw 1]]), (1, .arr 10 segTy (doP (l.getD i.toNat ractT.zero) (f, b, n, z, rs)).1 [[.int .i64 (doP (l.getD i.toNat ractT.zero) (f, b, n, z, rs)).2.1, .int .i64 (doP (l.getD i.toNat ractT.zero) (f, b, n, z, rs)).2.2.1, .int .i64 (0 : Int), .int .i64 (0 : Int), .hw 2, .bool false, .bool false, .bool false, .int .i64 (doP (l.getD i.toNat ractT.zero) (f, b, n, z, rs)).2.2.2.1, .int .u32 (0 : Int)]]), (2, .log recTy (doP (l.getD i.toNat ractT.zero) (f, b, n, z, rs)).2.2.2.2), (3, .arr 1 .bool [] [[.hw 4]]), (4, .arr 10 segTy (segsL (doP (l.getD i.toNat ractT.zero) (f, b, n, z, rs))) [])], nx := 5 } else none else none else K (.exit 0) { slots := [(0, .vl ractT l), (1, .int .i64 off), (7, .ptr 0 (.tl 0) 0), (8, .ptr 3 (.tl 0) 0), (9, .int .i64 i)], objs := [(0, .arr 1 .bool [] [[.hw 1]]), (1, .arr 10 segTy f [[.int .i64 b, .int .i64 n, .int .i64 (0 : Int), .int .i64 (0 : Int), .hw 2, .bool false, .bool false, .bool false, .int .i64 z, .int .u32 (0 : Int)]]), (2, .log recTy rs), (3, .arr 1 .bool [] [[.hw 4]]), (4, .arr 10 segTy d [])], nx := 5 } := by kernel_rfl

theorem so_rd24 {R : Type} (ah : Bool) (was now : List Seg) (by1 : List Int) (i : Int) (g : Seg) (K : Ex → St → Option R) : roundK (env consWD) H.stored2 0 (LPof []) [10, 11, 13, 15, 16, 17] L.cooperagelaw15_SegsStored_24 ⟨[(10, .vl segT was), (11, .ptr 0 (.tl 0) 0), (13, .vl u8T by1), (15, .vl segT now), (16, .bool ah), (17, .int .i64 i)], [(0, .arr 10 .bool [] [enc segT g])], 1⟩ K = bif decide (i < (↑now.length : Int)) then bif decide ((0 : Int) ≤ i) && decide (i < (↑now.length : Int)) then bif (now.getD i.toNat segTy.zero).1 == g.1 then Option.bind (bif !ah then some true else bif decide ((0 : Int) ≤ i) && decide (i < (↑was.length : Int)) then bif (was.getD i.toNat segTy.zero).2.2.2.2.2.2.2.1 then some true else bif decide ((0 : Int) ≤ i) && decide (i < (↑was.length : Int)) then bif !(was.getD i.toNat segTy.zero).2.2.2.2.2.1 then some true else bif decide ((0 : Int) ≤ i) && decide (i < (↑now.length : Int)) then bif !(now.getD i.toNat segTy.zero).2.2.2.2.2.2.2.1 then some true else bif decide ((0 : Int) ≤ i) && decide (i < (↑now.length : Int)) then bif decide ((↑(List.length (now.getD i.toNat segTy.zero).2.2.2.2.1) : Int) > (0 : Int)) then some true else bif decide ((0 : Int) ≤ i) && decide (i < (↑now.length : Int)) then bif (now.getD i.toNat segTy.zero).2.2.2.2.2.2.2.2.1 != (↑by1.length : Int) then some true else bif decide ((0 : Int) ≤ i) && decide (i < (↑now.length : Int)) then bif (now.getD i.toNat segTy.zero).2.2.2.2.2.2.2.2.2 != sumI by1 then some true else bif decide ((0 : Int) ≤ i) && decide (i < (↑now.length : Int)) then bif (now.getD i.toNat segTy.zero).2.1 != g.2.1 then some true else bif decide ((0 : Int) ≤ i) && decide (i < (↑now.length : Int)) then some ((now.getD i.toNat segTy.zero).2.2.1 != g.2.2.1) else none else none else none else none else none else none else none else none) fun v => bif v then K .ret { slots := [(10, .vl segTy was), (11, .ptr 0 (.tl 0) 0), (13, .vl (Ty.int IntKind.u8) by1), (15, .vl segTy now), (16, .bool ah), (17, .int .i64 i)], objs := [(0, .arr 10 .bool [] [[.int .i64 g.1, .int .i64 g.2.1, .int .i64 g.2.2.1, .int .i64 g.2.2.2.1, .vl recTy g.2.2.2.2.1, .bool g.2.2.2.2.2.1, .bool g.2.2.2.2.2.2.1, .bool g.2.2.2.2.2.2.2.1, .int .i64 g.2.2.2.2.2.2.2.2.1, .int .u32 g.2.2.2.2.2.2.2.2.2]])], nx := 1 } else K .normal { slots := [(10, .vl segTy was), (11, .ptr 0 (.tl 0) 0), (13, .vl (Ty.int IntKind.u8) by1), (15, .vl segTy now), (16, .bool ah), (17, .int .i64 (IntKind.i64.wrap (i + (1 : Int))))], objs := [(0, .arr 10 .bool [] [[.int .i64 g.1, .int .i64 g.2.1, .int .i64 g.2.2.1, .int .i64 g.2.2.2.1, .vl recTy g.2.2.2.2.1, .bool g.2.2.2.2.2.1, .bool g.2.2.2.2.2.2.1, .bool g.2.2.2.2.2.2.2.1, .int .i64 g.2.2.2.2.2.2.2.2.1, .int .u32 g.2.2.2.2.2.2.2.2.2]])], nx := 1 } else Option.bind (bif ah then bif decide ((0 : Int) ≤ i) && decide (i < (↑now.length : Int)) then some (now.getD i.toNat segTy.zero).2.2.2.2.2.2.2.1 else none else some false) fun v => bif decide ((0 : Int) ≤ IntKind.i64.wrap (i + (1 : Int))) && decide (IntKind.i64.wrap (i + (1 : Int)) ≤ (↑was.length : Int)) then bif decide ((0 : Int) ≤ i) && decide (i ≤ IntKind.i64.wrap (i + (1 : Int))) then bif decide ((0 : Int) ≤ IntKind.i64.wrap (i + (1 : Int))) && decide (IntKind.i64.wrap (i + (1 : Int)) ≤ (↑now.length : Int)) then bif decide ((0 : Int) ≤ i) && decide (i ≤ IntKind.i64.wrap (i + (1 : Int))) then bif !decide (List.drop i.toNat (List.take (IntKind.i64.wrap (i + (1 : Int))).toNat was) = List.drop i.toNat (List.take (IntKind.i64.wrap (i + (1 : Int))).toNat now)) then K .ret { slots := [(10, .vl segTy was), (11, .ptr 0 (.tl 0) 0), (13, .vl (Ty.int IntKind.u8) by1), (15, .vl segTy now), (16, .bool v), (17, .int .i64 i)], objs := [(0, .arr 10 .bool [] [[.int .i64 g.1, .int .i64 g.2.1, .int .i64 g.2.2.1, .int .i64 g.2.2.2.1, .vl recTy g.2.2.2.2.1, .bool g.2.2.2.2.2.1, .bool g.2.2.2.2.2.2.1, .bool g.2.2.2.2.2.2.2.1, .int .i64 g.2.2.2.2.2.2.2.2.1, .int .u32 g.2.2.2.2.2.2.2.2.2]])], nx := 1 } else K .normal { slots := [(10, .vl segTy was), (11, .ptr 0 (.tl 0) 0), (13, .vl (Ty.int IntKind.u8) by1), (15, .vl segTy now), (16, .bool v), (17, .int .i64 (IntKind.i64.wrap (i + (1 : Int))))], objs := [(0, .arr 10 .bool [] [[.int .i64 g.1, .int .i64 g.2.1, .int .i64 g.2.2.1, .int .i64 g.2.2.2.1, .vl recTy g.2.2.2.2.1, .bool g.2.2.2.2.2.1, .bool g.2.2.2.2.2.2.1, .bool g.2.2.2.2.2.2.2.1, .int .i64 g.2.2.2.2.2.2.2.2.1, .int .u32 g.2.2.2.2.2.2.2.2.2]])], nx := 1 } else none else none else none else none else none else K (.exit 2) { slots := [(10, .vl segTy was), (11, .ptr 0 (.tl 0) 0), (13, .vl (Ty.int IntKind.u8) by1), (15, .vl segTy now), (16, .bool ah), (17, .int .i64 i)], objs := [(0, .arr 10 .bool [] [[.int .i64 g.1, .int .i64 g.2.1, .int .i64 g.2.2.1, .int .i64 g.2.2.2.1, .vl recTy g.2.2.2.2.1, .bool g.2.2.2.2.2.1, .bool g.2.2.2.2.2.2.1, .bool g.2.2.2.2.2.2.2.1, .int .i64 g.2.2.2.2.2.2.2.2.1, .int .u32 g.2.2.2.2.2.2.2.2.2]])], nx := 1 } := by kernel_rfl

end Go.Sim
namespace Go.Sim
set_option linter.unusedSimpArgs false
set_option linter.unusedVariables false
set_option maxRecDepth 10000
def soSt8 (l : List ractT.den) (off : Int) (i : Nat) : St := ⟨[(0, .vl ractT l), (1, .int .i64 off), (7, .ptr 0 (.tl 0) 0), (8, .ptr 3 (.tl 0) 0), (9, .int .i64 i)], twoO (runD l i), 5⟩
theorem so8_rounds {R : Type} (l : List ractT.den) (off : Int) (hl : l.length ≤ 40) (hb : (firstFrom (bigA l) 0 l.length).isSome = false) (K : Ex → St → Option R) : ∀ (m i : Nat), i + m = l.length →
    rounds (env consWD) H.stored2 0 (LPof []) V.cooperagelaw15_SegsStored_8 L.cooperagelaw15_SegsStored_8 (m + 1) (soSt8 l off i) K = K (.exit 0) (soSt8 l off l.length)
  | 0, i, h => by
    obtain rfl : i = l.length := by omega
    rw [rounds_succ']
    refine (so_rd8 _ _ _ _ _ _ _ _ _ _).trans ?_
    rw [cond_neg (by omega)]
    rfl
  | m + 1, i, h => by
    have ih := so8_rounds l off hl hb K m (i + 1) (by omega)
    have hM : ((runD l i).1, (runD l i).2.1, (runD l i).2.2.1, (runD l i).2.2.2.1, (runD l i).2.2.2.2) = runD l i := rfl
    have h12 := act_small hb (i := i) (by omega)
    have e1 : IntKind.i64.wrap ((i : Int) + 1) = ((i + 1 : Nat) : Int) := by rw [wrap64 (by omega) (by omega)]; omega
    have hstep : doP (l.getD i ractT.zero) (runD l i) = runD l (i + 1) := rfl
    rw [rounds_succ']
    refine (so_rd8 _ _ _ _ _ _ _ _ _ _).trans ?_
    rw [cond_pos (by omega), cond_pos2 (by omega) (by omega), Int.toNat_natCast, hM, doB_of rfl (runD_big hl hb (by omega)) (by omega), hstep, e1]
    exact ih
abbrev so8LC : LoopC := LoopC.of ⟨[(0, .vl ractT), (1, .int .i64), (7, .lit (.ptr 0 (.tl 0) 0)), (8, .lit (.ptr 3 (.tl 0) 0)), (9, .int .i64)], twoP⟩
  (fun ⟨⟨l, off, _, _, i, _⟩, ⟨_, ⟨f, ⟨b, n, _, _, _, _, _, _, z, _, _⟩, _⟩, rs, _, ⟨d, _⟩, _⟩⟩ => decide (i = (0 : Int)) && decide (List.length l ≤ 40) && !(firstFrom (bigA l) 0 (List.length l)).isSome && decide ((f, b, n, z, rs) = (([], 0, 0, 0, []) : LogS)) && decide (d = [segTy.zero]))
  fun ⟨⟨l, off, _, _, i, _⟩, ⟨_, ⟨f, ⟨b, n, _, _, _, _, _, _, z, _, _⟩, _⟩, rs, _, ⟨d, _⟩, _⟩⟩ => [(true, .exit 0, soSt8 l off (List.length l))]
theorem so8_go (l : List ractT.den) (off i : Int) (M : LogS) (d : List Seg) (h1 : i = 0) (h4 : l.length ≤ 40) (h5 : (firstFrom (bigA l) 0 l.length).isSome = false) (h6 : M = ([], 0, 0, 0, [])) (h7 : d = [segTy.zero]) :
    ∃ m, rounds (env consWD) H.stored2 0 (LPof []) V.cooperagelaw15_SegsStored_8 L.cooperagelaw15_SegsStored_8 m ⟨[(0, .vl ractT l), (1, .int .i64 off), (7, .ptr 0 (.tl 0) 0), (8, .ptr 3 (.tl 0) 0), (9, .int .i64 i)], [(0, .arr 1 .bool [] [[.hw 1]]), (1, .arr 10 segT M.1 [actW M.2.1 M.2.2.1 M.2.2.2.1 2]), (2, .log recT M.2.2.2.2), (3, .arr 1 .bool [] [[.hw 4]]), (4, .arr 10 segT d [])], 5⟩ (fun e s => some (e, s)) = some (.exit 0, soSt8 l off l.length) := by
  subst h1 h6 h7
  exact ⟨_, so8_rounds l off h4 h5 _ l.length 0 (Nat.zero_add _)⟩
theorem so8_lok : LoopOK P0 H.stored2 0 L.cooperagelaw15_SegsStored_8 so8LC :=
  loop_ok_of (env_ok consWD_ok) glob0 mixed0 noLoops V.cooperagelaw15_SegsStored_8 (by decide) fun ⟨⟨l, off, _, _, i, _⟩, ⟨_, ⟨f, ⟨b, n, _, _, _, _, _, _, z, _, _⟩, _⟩, rs, _, ⟨d, _⟩, _⟩⟩ h hw => by
    simp only [Bool.and_eq_true, decide_eq_true_eq, Bool.not_eq_true'] at h
    obtain ⟨⟨⟨⟨h1, h4⟩, h5⟩, h6⟩, h7⟩ := h
    exact so8_go l off i (f, b, n, z, rs) d h1 h4 h5 h6 h7
/-- What was put in a store, and nothing else. -/
structure StoredOK (was now : List Seg) (by1 : List Int) (g : Seg) (k : Nat) : Prop where
  len : now.length = was.length
  small : was.length ≤ 1000000000
  lt : k < was.length
  ne : ∀ i, i < was.length → i ≠ k → (now.getD i segTy.zero).1 ≠ g.1 ∧ was.getD i segTy.zero = now.getD i segTy.zero
  bk : (now.getD k segTy.zero).1 = g.1
  pre : ∀ i, i < k → (now.getD i segTy.zero).2.2.2.2.2.2.2.1 = true
  a1 : (was.getD k segTy.zero).2.2.2.2.2.2.2.1 = false
  a2 : (was.getD k segTy.zero).2.2.2.2.2.1 = true
  a3 : (now.getD k segTy.zero).2.2.2.2.2.2.2.1 = true
  a4 : (now.getD k segTy.zero).2.2.2.2.1 = []
  a5 : (now.getD k segTy.zero).2.2.2.2.2.2.2.2.1 = (by1.length : Int)
  a6 : (now.getD k segTy.zero).2.2.2.2.2.2.2.2.2 = sumI by1
  a7 : (now.getD k segTy.zero).2.1 = g.2.1
  a8 : (now.getD k segTy.zero).2.2.1 = g.2.2.1
def ahI (now : List Seg) (k : Nat) : Nat → Bool
  | 0 => true
  | i + 1 => if i = k then ahI now k i else ahI now k i && (now.getD i segTy.zero).2.2.2.2.2.2.2.1
theorem ahI_true {was now : List Seg} {by1 : List Int} {g : Seg} {k : Nat} (h : StoredOK was now by1 g k) : ∀ i, i ≤ k → ahI now k i = true
  | 0, _ => rfl
  | i + 1, hi => by
    unfold ahI
    rw [if_neg (by omega), ahI_true h i (by omega), h.pre i (by omega)]
    rfl
theorem one_slice {l : List Seg} {i : Nat} (h : i < l.length) : List.drop i (List.take (i + 1) l) = [l.getD i segTy.zero] := by
  rw [stake_snoc h]
  have : (List.take i l).length = i := by simp; omega
  rw [List.drop_left' this]
def soSt24 (was now : List Seg) (by1 : List Int) (g : Seg) (k i : Nat) : St := ⟨[(10, .vl segT was), (11, .ptr 0 (.tl 0) 0), (13, .vl u8T by1), (15, .vl segT now), (16, .bool (ahI now k i)), (17, .int .i64 i)], [(0, .arr 10 .bool [] [enc segT g])], 1⟩
theorem so24_rounds {R : Type} {was now : List Seg} {by1 : List Int} {g : Seg} {k : Nat} (h : StoredOK was now by1 g k) (K : Ex → St → Option R) : ∀ (m i : Nat), i + m = was.length →
    rounds (env consWD) H.stored2 0 (LPof []) [10, 11, 13, 15, 16, 17] L.cooperagelaw15_SegsStored_24 (m + 1) (soSt24 was now by1 g k i) K = K (.exit 2) (soSt24 was now by1 g k was.length)
  | 0, i, hi => by
    obtain rfl : i = was.length := by omega
    have := h.len
    rw [rounds_succ']
    refine (so_rd24 _ _ _ _ _ _ _).trans ?_
    rw [cond_neg (by omega)]
    rfl
  | m + 1, i, hi => by
    have ih := so24_rounds h K m (i + 1) (by omega)
    have hl := h.len
    have hs := h.small
    have e1 : IntKind.i64.wrap ((i : Int) + 1) = ((i + 1 : Nat) : Int) := by rw [wrap64 (by omega) (by omega)]; omega
    rw [rounds_succ']
    refine (so_rd24 _ _ _ _ _ _ _).trans ?_
    have b1 : (decide ((0 : Int) ≤ (i : Int)) && decide ((i : Int) < (was.length : Int))) = true := by
      rw [decide_eq_true (show (0 : Int) ≤ (i : Int) by omega), decide_eq_true (show (i : Int) < (was.length : Int) by omega)]
      rfl
    rw [cond_pos (by omega), e1, Int.toNat_natCast, Int.toNat_natCast, hl, b1, cond_true]
    by_cases hk : i = k
    · subst hk
      have hah : ahI now i (i + 1) = ahI now i i := if_pos rfl
      have ht := ahI_true h i (Nat.le_refl _)
      unfold soSt24 at ih
      rw [hah] at ih
      rw [h.bk, h.a1, h.a2, h.a3, h.a4, h.a5, h.a6, h.a7, h.a8, ht]
      rw [ht] at ih
      simp only [beq_self_eq_true, bne_self_eq_false, Bool.not_true, cond_true, cond_false, Option.bind_some, List.length_nil]
      exact ih
    · obtain ⟨n1, n2⟩ := h.ne i (by omega) hk
      have hah : ahI now k (i + 1) = (ahI now k i && (now.getD i segTy.zero).2.2.2.2.2.2.2.1) := if_neg hk
      unfold soSt24 at ih
      rw [hah] at ih
      have e2 : ((now.getD i segTy.zero).1 == g.1) = false := by simpa using n1
      have e3 : (bif ahI now k i then some (now.getD i segTy.zero).2.2.2.2.2.2.2.1 else some false) = some (ahI now k i && (now.getD i segTy.zero).2.2.2.2.2.2.2.1) := by cases ahI now k i <;> rfl
      rw [e2, cond_false, cond_true, e3, Option.bind_some, cond_pos2 (by omega) (by omega), cond_pos2 (by omega) (by omega), cond_pos2 (by omega) (by omega), cond_pos2 (by omega) (by omega), one_slice (by omega), one_slice (by omega), n2, decide_eq_true rfl]
      exact ih
noncomputable def stOkB (was now : List Seg) (by1 : List Int) (g : Seg) : Bool := @decide (∃ k, StoredOK was now by1 g k) (Classical.propDecidable _)
noncomputable def stK (was now : List Seg) (by1 : List Int) (g : Seg) : Nat := @dite _ (∃ k, StoredOK was now by1 g k) (Classical.propDecidable _) (fun h => Classical.choose h) fun _ => 0
theorem stOkB_at {was now : List Seg} {by1 : List Int} {g : Seg} (h : stOkB was now by1 g = true) : StoredOK was now by1 g (stK was now by1 g) := by
  have h := @of_decide_eq_true _ (Classical.propDecidable _) h
  unfold stK
  rw [dif_pos h]
  exact Classical.choose_spec h
noncomputable abbrev so24LC : LoopC := LoopC.of ⟨[(10, .vl segT), (11, .lit (.ptr 0 (.tl 0) 0)), (13, .vl u8T), (15, .vl segT), (16, .bool), (17, .int .i64)], [.box 10 [segP]]⟩
  (fun ⟨⟨was, _, by1, now, ah, i, _⟩, ⟨⟨g1, g2, g3, g4, g5, g6, g7, g8, g9, g10, _⟩, _⟩, _⟩ => decide (i = (0 : Int)) && ah && stOkB was now by1 (g1, g2, g3, g4, g5, g6, g7, g8, g9, g10))
  fun ⟨⟨was, _, by1, now, ah, i, _⟩, ⟨⟨g1, g2, g3, g4, g5, g6, g7, g8, g9, g10, _⟩, _⟩, _⟩ => [(true, .exit 2, soSt24 was now by1 (g1, g2, g3, g4, g5, g6, g7, g8, g9, g10) (stK was now by1 (g1, g2, g3, g4, g5, g6, g7, g8, g9, g10)) (List.length was))]
theorem so24_go (was now : List Seg) (by1 : List Int) (ah : Bool) (i : Int) (g : Seg) (h1 : i = 0) (h2 : ah = true) (h3 : stOkB was now by1 g = true) : ∃ m, rounds (env consWD) H.stored2 0 (LPof []) [10, 11, 13, 15, 16, 17] L.cooperagelaw15_SegsStored_24 m
    ⟨[(10, .vl segT was), (11, .ptr 0 (.tl 0) 0), (13, .vl u8T by1), (15, .vl segT now), (16, .bool ah), (17, .int .i64 i)], [(0, .arr 10 .bool [] [enc segT g])], 1⟩ (fun e s => some (e, s)) = some (.exit 2, soSt24 was now by1 g (stK was now by1 g) was.length) := by
  subst h1 h2
  exact ⟨_, so24_rounds (stOkB_at h3) _ was.length 0 (Nat.zero_add _)⟩
theorem so24_lok : LoopOK P0 H.stored2 0 L.cooperagelaw15_SegsStored_24 so24LC :=
  loop_ok_of (env_ok consWD_ok) glob0 mixed0 noLoops [10, 11, 13, 15, 16, 17] (by decide) fun ⟨⟨was, _, by1, now, ah, i, _⟩, ⟨⟨g1, g2, g3, g4, g5, g6, g7, g8, g9, g10, _⟩, _⟩, _⟩ h hw => by
    simp only [Bool.and_eq_true, decide_eq_true_eq] at h
    obtain ⟨⟨h1, h2⟩, h3⟩ := h
    exact so24_go was now by1 ah i (g1, g2, g3, g4, g5, g6, g7, g8, g9, g10) h1 h2 h3
theorem stored_ev (l : List ractT.den) (off : Int) : evFn (env consWD) H.stored2 (LPof [(8, so8LC), (24, so24LC)]) F.cooperagelaw15_SegsStored [.vl ractT l, .int .i64 off] [] (finT [.bool]) = bif bigAct l then some (true, ()) else bif decide (l.length ≤ 40) && !(firstFrom (bigA l) 0 l.length).isSome && true && true && true then bif smallL (runD l l.length).1 && decide ((runD l l.length).2.2.2.2.length ≤ 1000000000) then bif smallL (runD l l.length).1 && decide ((runD l l.length).2.2.2.2.length ≤ 1000000000) then bif !(fndP off (runD l l.length)).2 then some (true, ()) else bif decide (List.length (segD (fndP off (runD l l.length)).1).2.2.2.2.1 ≤ 1000000000) then bif smallL (runD l l.length).1 then bif smallL (offloadP (segD (fndP off (runD l l.length)).1).1 (segD (fndP off (runD l l.length)).1).2.2.2.1 (↑(bytS (segD (fndP off (runD l l.length)).1).2.2.2.2.1).length : Int) (sumI (bytS (segD (fndP off (runD l l.length)).1).2.2.2.2.1)) (runD l l.length)).1.1 && decide ((offloadP (segD (fndP off (runD l l.length)).1).1 (segD (fndP off (runD l l.length)).1).2.2.2.1 (↑(bytS (segD (fndP off (runD l l.length)).1).2.2.2.2.1).length : Int) (sumI (bytS (segD (fndP off (runD l l.length)).1).2.2.2.2.1)) (runD l l.length)).1.2.2.2.2.length ≤ 1000000000) then bif (offloadP (segD (fndP off (runD l l.length)).1).1 (segD (fndP off (runD l l.length)).1).2.2.2.1 (↑(bytS (segD (fndP off (runD l l.length)).1).2.2.2.2.1).length : Int) (sumI (bytS (segD (fndP off (runD l l.length)).1).2.2.2.2.1)) (runD l l.length)).2 != (0 : Int) then some (decide (segsL (runD l l.length) = segsL (offloadP (segD (fndP off (runD l l.length)).1).1 (segD (fndP off (runD l l.length)).1).2.2.2.1 (↑(bytS (segD (fndP off (runD l l.length)).1).2.2.2.2.1).length : Int) (sumI (bytS (segD (fndP off (runD l l.length)).1).2.2.2.2.1)) (runD l l.length)).1), ()) else bif (↑(segsL (runD l l.length)).length : Int) != (↑(segsL (offloadP (segD (fndP off (runD l l.length)).1).1 (segD (fndP off (runD l l.length)).1).2.2.2.1 (↑(bytS (segD (fndP off (runD l l.length)).1).2.2.2.2.1).length : Int) (sumI (bytS (segD (fndP off (runD l l.length)).1).2.2.2.2.1)) (runD l l.length)).1).length : Int) then some (false, ()) else bif stOkB (segsL (runD l l.length)) (segsL (offloadP (segD (fndP off (runD l l.length)).1).1 (segD (fndP off (runD l l.length)).1).2.2.2.1 (↑(bytS (segD (fndP off (runD l l.length)).1).2.2.2.2.1).length : Int) (sumI (bytS (segD (fndP off (runD l l.length)).1).2.2.2.2.1)) (runD l l.length)).1) (bytS (segD (fndP off (runD l l.length)).1).2.2.2.2.1) ((segD (fndP off (runD l l.length)).1).1, (segD (fndP off (runD l l.length)).1).2.1, (segD (fndP off (runD l l.length)).1).2.2.1, (segD (fndP off (runD l l.length)).1).2.2.2.1, (segD (fndP off (runD l l.length)).1).2.2.2.2.1, (segD (fndP off (runD l l.length)).1).2.2.2.2.2.1, (segD (fndP off (runD l l.length)).1).2.2.2.2.2.2.1, (segD (fndP off (runD l l.length)).1).2.2.2.2.2.2.2.1, (segD (fndP off (runD l l.length)).1).2.2.2.2.2.2.2.2.1, (segD (fndP off (runD l l.length)).1).2.2.2.2.2.2.2.2.2.1) && true then some (true, ()) else none else none else none else none else none else none else none := by kernel_rfl

end Go.Sim
namespace Go.Sim
set_option linter.unusedSimpArgs false
set_option linter.unusedVariables false
set_option maxRecDepth 10000
theorem getD_memS {f : List Seg} {i : Nat} (h : i < f.length) : f.getD i segTy.zero ∈ f := by
  rw [List.getD_eq_getElem?_getD, List.getElem?_eq_getElem h]
  exact List.getElem_mem h
theorem chainS_lt {v : Int} : ∀ {f : List Seg} {a e : Int}, chainS v a f e → ∀ i j, i < j → j < f.length → (f.getD i segTy.zero).1 < (f.getD j segTy.zero).1
  | [], a, e, h, i, j, hi, hj => by simp at hj
  | g :: f, a, e, h, i, 0, hi, hj => by omega
  | g :: f, a, e, h, 0, j + 1, hi, hj => by
    have hm := getD_memS (f := f) (i := j) (by simpa using hj)
    have := (chainS_mem h.2.2 _ hm).2.1
    have := h.2.1.lt
    show g.1 < (f.getD j segTy.zero).1
    omega
  | g :: f, a, e, h, i + 1, j + 1, hi, hj => chainS_lt h.2.2 i j (by omega) (by simpa using hj)
theorem base_lt {c v : Int} {M : LogS} (h : InvM c v M) {i j : Nat} (hij : i < j) (hj : j < M.1.length + 1) : ((segsL M).getD i segTy.zero).1 < ((segsL M).getD j segTy.zero).1 := by
  by_cases hjl : j < M.1.length
  · rw [segsL_lt (by omega), segsL_lt hjl]
    exact chainS_lt h.chain i j hij hjl
  · obtain rfl : j = M.1.length := by omega
    rw [segsL_lt hij, segsL_last]
    obtain ⟨s1, s2, s3⟩ := chainS_mem h.chain _ (getD_memS hij)
    have := s1.lt
    show _ < M.2.1
    omega
theorem base_inj {c v : Int} {M : LogS} (h : InvM c v M) {i j : Nat} (hi : i < M.1.length + 1) (hj : j < M.1.length + 1) (he : ((segsL M).getD i segTy.zero).1 = ((segsL M).getD j segTy.zero).1) : i = j := by
  rcases Nat.lt_trichotomy i j with hlt | rfl | hlt
  · have := base_lt h hlt hj
    omega
  · rfl
  · have := base_lt h hlt hi
    omega
theorem mem_getDS {f : List Seg} {g : Seg} (h : g ∈ f) : ∃ i, i < f.length ∧ f.getD i segTy.zero = g := by
  obtain ⟨i, hi, e⟩ := List.mem_iff_getElem.1 h
  refine ⟨i, hi, ?_⟩
  rw [List.getD_eq_getElem?_getD, List.getElem?_eq_getElem hi]
  exact e
theorem set_getDS {f : List Seg} {k i : Nat} (hk : k < f.length) (X : Seg) : (f.set k X).getD i segTy.zero = if i = k then X else f.getD i segTy.zero := by
  rw [List.getD_eq_getElem?_getD, List.getElem?_set]
  by_cases h : k = i
  · subst h
    rw [if_pos rfl, if_pos hk, if_pos rfl]
    rfl
  · rw [if_neg h, if_neg (fun e => h e.symm), List.getD_eq_getElem?_getD]
theorem stored_law {c : Nat} {v : Int} {M : LogS} (h : InvM c v M) (hc : c ≤ 900000000) (off : Int) (hf : (fndP off M).2 = true) :
    ((offloadP (fndP off M).1.1 (fndP off M).1.2.2.2.1 ((bytS (fndP off M).1.2.2.2.2.1).length : Int) (sumI (bytS (fndP off M).1.2.2.2.2.1)) M).2 ≠ 0 → segsL M = segsL (offloadP (fndP off M).1.1 (fndP off M).1.2.2.2.1 ((bytS (fndP off M).1.2.2.2.2.1).length : Int) (sumI (bytS (fndP off M).1.2.2.2.2.1)) M).1) ∧
    ((offloadP (fndP off M).1.1 (fndP off M).1.2.2.2.1 ((bytS (fndP off M).1.2.2.2.2.1).length : Int) (sumI (bytS (fndP off M).1.2.2.2.2.1)) M).2 = 0 → stOkB (segsL M) (segsL (offloadP (fndP off M).1.1 (fndP off M).1.2.2.2.1 ((bytS (fndP off M).1.2.2.2.2.1).length : Int) (sumI (bytS (fndP off M).1.2.2.2.2.1)) M).1) (bytS (fndP off M).1.2.2.2.2.1) (fndP off M).1 = true) ∧
    (segsL (offloadP (fndP off M).1.1 (fndP off M).1.2.2.2.1 ((bytS (fndP off M).1.2.2.2.2.1).length : Int) (sumI (bytS (fndP off M).1.2.2.2.2.1)) M).1).length = (segsL M).length := by
  have hmem := fnd_mem hf
  obtain ⟨g, hg⟩ : ∃ g, g = (fndP off M).1 := ⟨_, rfl⟩
  rw [← hg] at hmem ⊢
  unfold offloadP
  cases hk : odAt g.1 g.2.2.2.1 M with
  | none => exact ⟨fun _ => rfl, fun h => by have h : (8 : Int) = 0 := h; omega, rfl⟩
  | some k =>
    obtain ⟨hlt, g1, g2, g3⟩ := odAt_seg (v := v) (a := 0) (e := 0) hk
    simp only
    cases hb : ofBad ((bytS g.2.2.2.2.1).length : Int) (sumI (bytS g.2.2.2.2.1)) M.1 k with
    | true => exact ⟨fun _ => rfl, fun h => by have h : (1 : Int) = 0 := h; omega, rfl⟩
    | false =>
      rw [cond_false]
      simp only
      obtain ⟨f1, f2, f3⟩ := ofBad_no hb
      have hgk : M.1.getD k segTy.zero = g := by
        obtain ⟨m, m1, m2⟩ := mem_getDS hmem
        rw [segsL_len] at m1
        have : m = k := base_inj h m1 (by omega) (by rw [m2, segsL_lt hlt, g2])
        rw [← m2, this, segsL_lt hlt]
      have hsm := InvM_small h hc
      have hseg := sealed_at h.chain hlt
      rw [hgk] at g1 hseg f2 f3 ⊢
      have hat : ∀ i, i < M.1.length + 1 → (segsL (M.1.set k (ofG g (sumI (bytS g.2.2.2.2.1))), M.2)).getD i segTy.zero = if i = k then ofG g (sumI (bytS g.2.2.2.2.1)) else (segsL M).getD i segTy.zero := fun i hi => by
        by_cases hil : i < M.1.length
        · rw [segsL_lt (by simp only [List.length_set]; exact hil), segsL_lt hil]
          exact set_getDS hlt _
        · obtain rfl : i = M.1.length := by omega
          rw [if_neg (by omega), segsL_last]
          have := segsL_last (M.1.set k (ofG g (sumI (bytS g.2.2.2.2.1))), M.2)
          simp only [List.length_set] at this
          exact this
      have hk0 := hat k (by omega)
      rw [if_pos rfl] at hk0
      refine ⟨fun h => absurd rfl h, fun _ => ?_, by rw [segsL_len, segsL_len]; simp⟩
      refine @decide_eq_true _ (Classical.propDecidable _) ⟨k, ?_⟩
      refine ⟨by rw [segsL_len, segsL_len]; simp, by rw [segsL_len]; omega, by rw [segsL_len]; omega, fun i hi hik => ?_, by rw [hk0]; rfl, fun i hi => ?_, by rw [segsL_lt hlt, hgk]; exact g1, by rw [segsL_lt hlt, hgk]; exact hseg.sealed, by rw [hk0]; rfl, by rw [hk0]; rfl, ?_, by rw [hk0]; rfl, by rw [hk0]; rfl, by rw [hk0]; rfl⟩
      · rw [segsL_len] at hi
        rw [hat i hi, if_neg hik]
        refine ⟨fun e => hik (base_inj h hi (by omega) ?_), rfl⟩
        rw [e, segsL_lt hlt, hgk]
      · rw [hat i (by omega), if_neg (by omega), segsL_lt (by omega)]
        have := take_remote h.rem hlt f1
        refine this _ ?_
        have hm : M.1.getD i segTy.zero = (M.1.take k).getD i segTy.zero := by
          rw [List.getD_eq_getElem?_getD, List.getD_eq_getElem?_getD, List.getElem?_take, if_pos hi]
        rw [hm]
        exact getD_memS (by simp; omega)
      · rw [hk0]
        show g.2.2.2.2.2.2.2.2.1 = _
        exact f2.symm
def caseStored : PCase := ⟨[.ty (.sl ractT), .ty (.int .i64)], [.bool], fun x => [(true, (true, ()))]⟩
theorem stored_val (l : List ractT.den) (off : Int) : evFn (env consWD) H.stored2 (LPof [(8, so8LC), (24, so24LC)]) F.cooperagelaw15_SegsStored [.vl ractT l, .int .i64 off] [] (finT [.bool]) = some (true, ()) := by
  rw [stored_ev]
  cases hb : bigAct l with
  | true => rfl
  | false =>
    obtain ⟨b1, b2⟩ := bigAct_no hb
    have hinv := runD_inv b1 b2 l.length (Nat.le_refl _)
    obtain ⟨M, hM⟩ : ∃ M, M = runD l l.length := ⟨_, rfl⟩
    rw [← hM] at hinv ⊢
    obtain ⟨s1, s2, s3⟩ := InvM_small hinv (by omega)
    have hok := okB_iff.1 (InvM_ok hinv (by omega))
    have p1 : decide (M.2.2.2.2.length ≤ 1000000000) = true := decide_eq_true (by omega)
    rw [b2, s2, p1, decide_eq_true b1]
    cases hf : (fndP off M).2 with
    | false => rfl
    | true =>
      have hl := InvM_fnd hinv off hf
      obtain ⟨t1, t2, t3⟩ := stored_law hinv (by omega) off hf
      obtain ⟨o1, o2⟩ := InvM_off (fndP off M).1.1 (fndP off M).1.2.2.2.1 ((bytS (fndP off M).1.2.2.2.2.1).length : Int) (sumI (bytS (fndP off M).1.2.2.2.2.1)) hinv
      obtain ⟨r1, r2, r3⟩ := InvM_small o1 (by omega)
      have hok2 := okB_iff.1 (InvM_ok o1 (by omega))
      have p5 : decide (List.length (segD (fndP off M).1).2.2.2.2.1 ≤ 1000000000) = true := decide_eq_true (by show (fndP off M).1.2.2.2.2.1.length ≤ _; omega)
      have p6 : decide ((offloadP (fndP off M).1.1 (fndP off M).1.2.2.2.1 ((bytS (fndP off M).1.2.2.2.2.1).length : Int) (sumI (bytS (fndP off M).1.2.2.2.2.1)) M).1.2.2.2.2.length ≤ 1000000000) = true := decide_eq_true (by omega)
      have q1 : (segD (fndP off M).1).2.2.2.2.1 = (fndP off M).1.2.2.2.2.1 := rfl
      have q2 : (segD (fndP off M).1).1 = (fndP off M).1.1 := rfl
      have q3 : (segD (fndP off M).1).2.2.2.1 = (fndP off M).1.2.2.2.1 := rfl
      have q4 : ((segD (fndP off M).1).1, (segD (fndP off M).1).2.1, (segD (fndP off M).1).2.2.1, (segD (fndP off M).1).2.2.2.1, (segD (fndP off M).1).2.2.2.2.1, (segD (fndP off M).1).2.2.2.2.2.1, (segD (fndP off M).1).2.2.2.2.2.2.1, (segD (fndP off M).1).2.2.2.2.2.2.2.1, (segD (fndP off M).1).2.2.2.2.2.2.2.2.1, (segD (fndP off M).1).2.2.2.2.2.2.2.2.2.1) = (fndP off M).1 := rfl
      rw [p5, q4, q1, q2, q3, r2, p6]
      simp only [Bool.not_false, Bool.not_true, Bool.and_self, Bool.and_true, cond_true, cond_false]
      by_cases he : (offloadP (fndP off M).1.1 (fndP off M).1.2.2.2.1 ((bytS (fndP off M).1.2.2.2.2.1).length : Int) (sumI (bytS (fndP off M).1.2.2.2.2.1)) M).2 = 0
      · have e1 : ((offloadP (fndP off M).1.1 (fndP off M).1.2.2.2.1 ((bytS (fndP off M).1.2.2.2.2.1).length : Int) (sumI (bytS (fndP off M).1.2.2.2.2.1)) M).2 != 0) = false := by simpa using he
        rw [e1, t3, t2 he]
        simp
      · have e1 : ((offloadP (fndP off M).1.1 (fndP off M).1.2.2.2.1 ((bytS (fndP off M).1.2.2.2.2.1).length : Int) (sumI (bytS (fndP off M).1.2.2.2.2.1)) M).2 != 0) = true := by simpa using he
        rw [e1, cond_true, decide_eq_true (t1 he)]
theorem stored_ok : caseStored.ok P0 I.cooperagelaw15_SegsStored := case_ok2 (H := H.stored2) (E := env consWD) (env_ok consWD_ok) glob0 mixed0 G.cooperagelaw15_SegsStored Bd.cooperagelaw15_SegsStored (by kernel_rfl) (loops_good (tab := [(8, so8LC), (24, so24LC)]) (by kernel_rfl) (fun x hx => by simp at hx; rcases hx with rfl | rfl; exact so8_lok; exact so24_lok)) fun ⟨l, off, ()⟩ y h hw => by
  obtain ⟨hc, rfl⟩ := pick_pre h
  exact stored_val l off
theorem stored_good (x : tysDen [.sl ractT, .int .i64]) (hw : tysWf [.sl ractT, .int .i64] x) : ∃ o, EffGood P0 I.cooperagelaw15_SegsStored (valsOf [.sl ractT, .int .i64] x) [] (.bool true) o := stored_ok x (true, ()) rfl hw
end Go.Sim
