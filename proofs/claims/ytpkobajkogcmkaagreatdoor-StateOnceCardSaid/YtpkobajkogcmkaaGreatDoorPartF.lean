/-
  WkU5: walks of a log of segments: Append, all. · WkU6: walks of a log of segments: Clone, all, Segments; segments alike. · WkU7: the law SegsSeals. · PlDed: tables of producers: the plain side. · SimCut: code in parts. · WkD1: walks of slices.BinarySearchFunc and slices.Insert. · WkD2: slices.Insert, in parts (states written by a tool). · WkD3: slices.Insert, in parts (states written by a tool). · WkD4: slices.Insert: what it leaves. · WkD5: contracts of slices.Insert and slices.BinarySearchFunc. · WkD6: walks of dedup's table. · WkX1: walks of a state: New, Apply. · WkX2: walks of a state: since. · WkX3: walks of the law StateSince. · SimLps: loops with several contracts each: the first one that is written as the state is. · WkX4: walks of the law StateOnce.
-/
import Derived.Lib.Overlaps
import Derived.Test.YtpkobajkogcmkaaGreatDoorPartE
namespace Go.Sim.XU
set_option linter.unusedSimpArgs false
set_option linter.unusedVariables false
set_option maxRecDepth 10000
def mxI (most : Int) : Int := bif decide (most > 1) then most else 1
/-- One record more. -/
def pushP (L : LogS) (r : Rec) : LogS := (L.1, L.2.1, L.2.2.1 + 1, L.2.2.2.1 + ((bytS [(L.2.2.1, r.2)]).length : Nat), L.2.2.2.2 ++ [(L.2.2.1, r.2)])
def apR (most : Int) (L : LogS) (r : Rec) : LogS := bif recR (0, r.2) then (bif decide (L.2.2.1 + 1 - L.2.1 ≥ mxI most) then sealP (pushP L r) else pushP L r) else L
def apL (most : Int) (l : List Rec) (L : LogS) : Nat → LogS
  | 0 => L
  | i + 1 => apR most (apL most l L i) (l.getD i recTy.zero)
def someI (l : List Rec) : Nat → Bool
  | 0 => false
  | i + 1 => someI l i || recR (0, (l.getD i recTy.zero).2)
theorem pushP_ok {c : Nat} {L : LogS} (r : Rec) (h : okB c L = true) : okB (c + 1) (pushP L r) = true := by
  obtain ⟨h1, h2, h3, h4, h5, h6, h7, h9⟩ := okB_iff.1 h
  have h8 := bytS_len [(L.2.2.1, r.2)]
  simp only [List.length_singleton] at h8
  exact okB_iff.2 ⟨h1, by simp [pushP]; omega, by simp [pushP]; omega, by simp [pushP]; omega, by simp [pushP]; omega, by simp [pushP]; omega, by simp [pushP]; omega, h9⟩
theorem apR_ok {c : Nat} {L : LogS} (most : Int) (r : Rec) (h : okB c L = true) (hc : c + 1 ≤ 1000000000) : okB (c + 2) (apR most L r) = true := by
  unfold apR
  cases recR (0, r.2) with
  | false => exact okB_mono h (by omega)
  | true =>
    have := pushP_ok r h
    cases decide (L.2.2.1 + 1 - L.2.1 ≥ mxI most) with
    | true => exact sealP_ok this hc
    | false => exact okB_mono this (by omega)
theorem apL_ok {c : Nat} {L : LogS} (most : Int) (l : List Rec) (h : okB c L = true) : ∀ i, c + 2 * i ≤ 1000000000 → okB (c + 2 * i) (apL most l L i) = true
  | 0, _ => h
  | i + 1, hi => apR_ok (c := c + 2 * i) most _ (apL_ok most l h i (by omega)) (by omega)
theorem sealP_next (L : LogS) : (sealP L).2.2.1 = L.2.2.1 := by
  unfold sealP
  cases L.2.1 == L.2.2.1 <;> rfl
theorem someI_next {most : Int} {l : List Rec} {L : LogS} : ∀ {i : Nat}, someI l i = false → apL most l L i = L
  | 0, _ => rfl
  | i + 1, h => by
    simp only [someI, Bool.or_eq_false_iff] at h
    show apR most (apL most l L i) _ = L
    unfold apR
    rw [h.2, cond_false]
    exact someI_next h.1
def logO (L : LogS) : List (Nat × AObj) := [(0, .arr 1 .bool [] [[.hw 1]]), (1, .arr 10 segT L.1 [actC L.2.1 L.2.2.1 L.2.2.2.1]), (2, .log recT L.2.2.2.2)]
def apSt (most fi : Int) (so : Bool) (l : List Rec) (i : Nat) (L : LogS) : St := ⟨[(0, .ptr 0 (.tl 0) 0), (2, .int .i64 most), (7, .int .i64 fi), (8, .bool so), (14, .vl recT l), (15, .int .i64 l.length), (16, .int .i64 i)], logO L, 3⟩
theorem ap_round {R : Type} (most fi : Int) (so : Bool) (l : List Rec) (hl : l.length ≤ 400000000) (i : Nat) (hi : i < l.length) (M : LogS) {c : Nat} (h : okB c M = true) (hc : c ≤ 2000000000) (hf : M.1.length ≤ 1000000000) (hso : so = false → M.2.2.1 = fi) (K : Ex → St → Option R) :
    roundK (env consS2) H.segs_Log_Append 1 (LPof []) V.segs_Log_Append_3 L.segs_Log_Append_3 (apSt most fi so l i M) K = K .normal (apSt most fi (so || recR (0, (l.getD i recTy.zero).2)) l (i + 1) (apR most M (l.getD i recTy.zero))) := by
  obtain ⟨f, b, n, z, rs⟩ := M
  obtain ⟨h1, h2, h3, h4, h5, h6, h7, h9⟩ := okB_iff.1 h
  simp only at h1 h2 h3 h4 h5 h6 h7 hf hso
  refine (append_rd _ _ _ _ _ _ _ _ _ _ _ _).trans ?_
  have e3 : IntKind.i64.wrap ((i : Int) + 1) = ((i + 1 : Nat) : Int) := by rw [wrap64 (by omega) (by omega)]; omega
  have h8 := bytS_len [(n, (l.getD i recTy.zero).2)]
  simp only [List.length_singleton] at h8
  have e4 : IntKind.i64.wrap (n + 1) = n + 1 := wrap64 (by omega) (by omega)
  have e5 : IntKind.i64.wrap (n + 1 - b) = n + 1 - b := wrap64 (by omega) (by omega)
  have e6 : IntKind.i64.wrap (z + ((bytS [(n, (l.getD i recTy.zero).2)]).length : Int)) = z + ((bytS [(n, (l.getD i recTy.zero).2)]).length : Int) := wrap64 (by omega) (by omega)
  have b1 : decide ((rs ++ [(n, (l.getD i recTy.zero).2)]).length * 56 ≤ 140737488355328) = true := by simp; omega
  have b2 : decide (f.length ≤ 1000000000) = true := decide_eq_true hf
  rw [cond_pos (by omega), cond_pos2 (by omega) (by omega), Int.toNat_natCast, e3, e4, e5, e6, b1, b2]
  unfold apR
  cases hr : recR (0, (l.getD i recTy.zero).2) with
  | false =>
    simp only [Bool.not_false, cond_true, cond_false, Bool.or_false]
    rfl
  | true =>
    simp only [Bool.not_true, cond_true, cond_false, Bool.or_true]
    show (bif !so then bif decide (n + 1 - b ≥ mxI most) then _ else _ else bif decide (n + 1 - b ≥ mxI most) then _ else _) = K .normal (apSt most fi true l (i + 1) (bif decide (n + 1 - b ≥ mxI most) then _ else _))
    cases so with
    | false =>
      obtain rfl := hso rfl
      cases decide (n + 1 - b ≥ mxI most) <;> rfl
    | true => cases decide (n + 1 - b ≥ mxI most) <;> rfl
theorem ap_rounds {R : Type} (most : Int) (l : List Rec) (hl : l.length ≤ 200000000) (M : LogS) (h : okB 500000000 M = true) (K : Ex → St → Option R) : ∀ (m i : Nat), i + m = l.length →
    rounds (env consS2) H.segs_Log_Append 1 (LPof []) V.segs_Log_Append_3 L.segs_Log_Append_3 (m + 1) (apSt most M.2.2.1 (someI l i) l i (apL most l M i)) K = K (.exit 0) (apSt most M.2.2.1 (someI l l.length) l l.length (apL most l M l.length))
  | 0, i, hi => by
    obtain rfl : i = l.length := by omega
    rw [rounds_succ']
    refine (append_rd _ _ _ _ _ _ _ _ _ _ _ _).trans ?_
    rw [cond_neg (by omega)]
    rfl
  | m + 1, i, hi => by
    have ih := ap_rounds most l hl M h K m (i + 1) (by omega)
    have hk := apL_ok most l h i (by omega)
    have h6 := (okB_iff.1 hk).2.2.2.2.2.1
    rw [rounds_succ']
    refine (ap_round most M.2.2.1 (someI l i) l (by omega) i (by omega) _ hk (by omega) (by omega) (fun hs => by rw [someI_next hs]) _).trans ?_
    exact ih
abbrev apLC : LoopC := LoopC.of ⟨[(0, .lit (.ptr 0 (.tl 0) 0)), (2, .int .i64), (7, .int .i64), (8, .bool), (14, .vl recT), (15, .int .i64), (16, .int .i64)], logP⟩
  (fun ⟨⟨_, most, fi, so, l, m, i, _⟩, ⟨_, ⟨f, ⟨b, n, _, _, _, _, _, _, z, _, _⟩, _⟩, rs, _⟩⟩ => decide (i = (0 : Int)) && decide (m = (List.length l : Int)) && !so && decide (fi = n) && decide (List.length l ≤ 200000000) && okB 500000000 (f, b, n, z, rs))
  fun ⟨⟨_, most, fi, so, l, m, i, _⟩, ⟨_, ⟨f, ⟨b, n, _, _, _, _, _, _, z, _, _⟩, _⟩, rs, _⟩⟩ => [(true, .exit 0, apSt most fi (someI l (List.length l)) l (List.length l) (apL most l (f, b, n, z, rs) (List.length l)))]
theorem ap_lok : LoopOK P0 H.segs_Log_Append 1 L.segs_Log_Append_3 apLC :=
  loop_ok_of (env_ok consS2_ok) glob0 mixed0 noLoops V.segs_Log_Append_3 (by decide) fun ⟨⟨_, most, fi, so, l, m, i, _⟩, ⟨_, ⟨f, ⟨b, n, _, _, _, _, _, _, z, _, _⟩, _⟩, rs, _⟩⟩ h hw => by
    simp only [Bool.and_eq_true, decide_eq_true_eq, Bool.not_eq_true'] at h
    obtain ⟨⟨⟨⟨⟨rfl, rfl⟩, rfl⟩, rfl⟩, h5⟩, h6⟩ := h
    exact ⟨_, ap_rounds most l h5 (f, b, fi, z, rs) h6 _ (List.length l) 0 (Nat.zero_add _)⟩
theorem append_ev (most : Int) (l : List Rec) (f : List Seg) (b n z : Int) (rs : List Rec) : evFnM 1 (env consS2) H.segs_Log_Append (LPof [(3, apLC)]) F.segs_Log_Append [.ptr 0 (.tl 0) 0, .vl recT l, .int .i64 most] [.arr 1 .bool [] [[.hw 1]], .arr 10 segT f [actC b n z], .log recT rs] (finVM (.int .i64) logQ 1 3) = bif decide (f.length ≤ 1000000000) then bif decide ((↑l.length : Int) = (↑l.length : Int)) && true && decide (n = n) && decide (l.length ≤ 200000000) && okB 500000000 (f, b, n, z, rs) && true then some (n, (((), ()), ()), (), (), ((apL most l (f, b, n, z, rs) l.length).fst, ((apL most l (f, b, n, z, rs) l.length).snd.fst, (apL most l (f, b, n, z, rs) l.length).snd.snd.fst, (), (), (), (), (), (), (apL most l (f, b, n, z, rs) l.length).snd.snd.snd.fst, (), ()), ()), (apL most l (f, b, n, z, rs) l.length).snd.snd.snd.snd, ()) else none else none := by kernel_rfl

end Go.Sim.XU
namespace Go.Sim.XU
set_option linter.unusedSimpArgs false
set_option linter.unusedVariables false
set_option maxRecDepth 10000
def caseAppend : VCase := ⟨[.lit (.ptr 0 (.tl 0) 0), .vl recT, .int .i64], logP, .int .i64, logQ, fun ⟨_, l, most, _⟩ ⟨_, ⟨f, ⟨b, n, _, _, _, _, _, _, z, _, _⟩, _⟩, rs, _⟩ => [(decide (List.length l ≤ 200000000) && okB 500000000 (f, b, n, z, rs), (n, ((((), ()), ()), (), (), ((apL most l (f, b, n, z, rs) (List.length l)).1, ((apL most l (f, b, n, z, rs) (List.length l)).2.1, (apL most l (f, b, n, z, rs) (List.length l)).2.2.1, (), (), (), (), (), (), (apL most l (f, b, n, z, rs) (List.length l)).2.2.2.1, (), ()), ()), (apL most l (f, b, n, z, rs) (List.length l)).2.2.2.2, ())))]⟩
theorem append_ok : caseAppend.e.ok P0 I.segs_Log_Append := vcase_okM (c := caseAppend) (H := H.segs_Log_Append) (E := env consS2) (env_ok consS2_ok) glob0 mixed0 G.segs_Log_Append Bd.segs_Log_Append 1 rfl (by kernel_rfl) (loops_good (tab := [(3, apLC)]) (by kernel_rfl) (fun x hx => by simp at hx; subst hx; exact ap_lok)) fun ⟨_, l, most, _⟩ ⟨_, ⟨f, ⟨b, n, _, _, _, _, _, _, z, _, _⟩, _⟩, rs, _⟩ r h hw1 hw2 => by
  obtain ⟨hc, rfl⟩ := pick_pre h
  simp only [Bool.and_eq_true] at hc
  refine (append_ev most l f b n z rs).trans ?_
  have h6 : List.length f ≤ 500000000 := (okB_iff.1 hc.2).2.2.2.2.2.1
  rw [cond_pos (by omega), hc.1, hc.2]
  simp only [decide_true, Bool.and_self, cond_true]
  rfl
theorem rclone_ev (xs : List Rec) : evFn (env []) H.slices_Clone_api_Record_api_Record (LPof []) F.slices_Clone_api_Record_api_Record [.vl recT xs] [] (finT [.sl recT]) = bif decide (0 < xs.length) then bif decide (([] ++ xs).length * 56 ≤ 140737488355328) then some ([] ++ xs, ()) else none else none := by kernel_rfl

theorem rclone0_ev (b : Bool) : evFn (env []) H.slices_Clone_api_Record_api_Record (LPof []) F.slices_Clone_api_Record_api_Record [.ve b] [] (finV (.vl recT) [] 0) = bif b then some ([], ()) else some ([] ++ [], ()) := by kernel_rfl

def caseRcloneA : PCase := ⟨[.ty (.sl recT)], [.sl recT], fun x => [(decide (0 < List.length x.1) && decide (List.length x.1 ≤ 1000000000), (x.1, ()))]⟩
theorem rcloneA_ok : caseRcloneA.ok P0 I.slices_Clone_api_Record_api_Record := case_ok2 (H := H.slices_Clone_api_Record_api_Record) (E := env []) (env_ok env_nil) glob0 mixed0 G.slices_Clone_api_Record_api_Record Bd.slices_Clone_api_Record_api_Record (by kernel_rfl) noLoops fun ⟨xs, ()⟩ y h hw => by
  obtain ⟨hc, rfl⟩ := pick_pre h
  simp only [Bool.and_eq_true, decide_eq_true_eq] at hc
  refine (rclone_ev xs).trans ?_
  rw [cond_pos hc.1, cond_pos (by simp only [List.nil_append]; omega), List.nil_append]
  rfl
def caseRclone : PCase := ⟨[.ty (.sl recT)], [.sl recT], fun x => [(decide (List.length x.1 ≤ 1000000000), (x.1, ()))]⟩
theorem rclone_zero (b : Bool) : EffGood P0 I.slices_Clone_api_Record_api_Record [.ve b] [] (.vl recT []) [] :=
  eff_of_ev (H := H.slices_Clone_api_Record_api_Record) (E := env []) (env_ok env_nil) glob0 mixed0 G.slices_Clone_api_Record_api_Record Bd.slices_Clone_api_Record_api_Record (args := [.ve b]) (objs := []) (by kernel_rfl) (out := .vl recT) (outs := []) (LP := LPof []) noLoops (a := ([] : List Rec)) (b := ()) ((rclone0_ev b).trans (by cases b <;> rfl))
theorem rclone_ok : caseRclone.ok P0 I.slices_Clone_api_Record_api_Record := fun ⟨xs, ()⟩ y h hw => by
  obtain ⟨hc, rfl⟩ := pick_pre h
  by_cases h0 : 0 < List.length xs
  · have hp : pick (caseRcloneA.f (xs, ())) = some (xs, ()) := by
      show pick [(decide (0 < List.length xs) && decide (List.length xs ≤ 1000000000), _)] = _
      rw [decide_eq_true h0, hc]
      rfl
    exact rcloneA_ok (xs, ()) _ hp hw
  · obtain rfl : xs = [] := List.eq_nil_of_length_eq_zero (by omega)
    refine ⟨[], fun own φ β w vs hV hW ht => ?_⟩
    obtain ⟨u, us, rfl, hu, hus⟩ : ∃ u us, vs = u :: us ∧ V φ β w (.vl recT []) u ∧ VL φ β w [] us := hV
    simp only [VL] at hus
    subst hus
    simp only [V, Vt] at hu
    obtain ⟨_, A, cap, hu, _⟩ := hu
    simp at hu
    subst hu
    exact rclone_zero A.isNone own φ β w _ ⟨_, [], rfl, ⟨A, cap, rfl, rfl⟩, rfl⟩ hW ht
noncomputable abbrev consC1 : List (FuncId × Con) := [(I.slices_Clone_api_Record_api_Record, .pure (pureOf [caseRclone]))]
theorem consC1_ok : ∀ x ∈ consC1, HoldsC P0 x.1 x.2 := by
  intro x hx
  simp at hx
  subst hx
  exact ⟨pureOf_holds (by simp; exact rclone_ok), C.slices_Clone_api_Record_api_Record⟩
theorem copied_ev (g : Seg) : evFn (env consC1) H.segs_copied (LPof []) F.segs_copied [valOf segT g] [] (finT [segT]) = bif decide (List.length g.snd.snd.snd.snd.fst ≤ 1000000000) then some (g, ()) else none := by kernel_rfl

def caseCopied : PCase := ⟨[.ty segT], [segT], fun x => (fun (g : Seg) => [(decide (List.length g.2.2.2.2.1 ≤ 1000000000), (g, ()))]) x.1⟩
theorem copied_val (g : Seg) (hc : (decide (List.length g.2.2.2.2.1 ≤ 1000000000)) = true) : evFn (env consC1) H.segs_copied (LPof []) F.segs_copied [valOf segT g] [] (finT [segT]) = some (g, ()) := by
  rw [copied_ev, hc]; rfl
theorem copied_ok : caseCopied.ok P0 I.segs_copied := case_ok2 (H := H.segs_copied) (E := env consC1) (env_ok consC1_ok) glob0 mixed0 G.segs_copied Bd.segs_copied (by kernel_rfl) noLoops fun ⟨g, ()⟩ y h hw => by
  obtain ⟨hc, rfl⟩ := pick_pre h
  exact copied_val g hc
noncomputable abbrev consC2 : List (FuncId × Con) := [(I.segs_copied, .pure (pureOf [caseCopied]))]
theorem consC2_ok : ∀ x ∈ consC2, HoldsC P0 x.1 x.2 := by
  intro x hx
  simp at hx
  subst hx
  exact ⟨pureOf_holds (by simp; exact copied_ok), C.segs_copied⟩
abbrev actR (b n z : Int) : List AV := [.int .i64 b, .int .i64 n, .int .i64 0, .int .i64 0, .hw 1, .bool false, .bool false, .bool false, .int .i64 z, .int .u32 0]
theorem all_rd {R : Type} (m i : Int) (f o : List Seg) (b n z : Int) (rs : List Rec) (K : Ex → St → Option R) : roundK (env consC2) H.segs_all 2 (LPof []) V.segs_all_3 L.segs_all_3 ⟨[(3, .hw 2), (6, .hw 0), (7, .int .i64 m), (8, .int .i64 i)], [(0, .arr 10 segT f [actR b n z]), (1, .log recT rs), (2, .arr 10 segT o [])], 3⟩ K = bif decide (i < m) then bif decide ((0 : Int) ≤ i) && decide (i < (↑(f.length + 1) : Int)) then bif decide (i.toNat < f.length) then bif decide ((f.getD i.toNat segTy.zero).snd.snd.snd.snd.fst.length ≤ 1000000000) then bif decide ((o ++ [f.getD i.toNat segTy.zero]).length * 80 ≤ 140737488355328) then K Ex.normal { slots := [(3, AV.hw 2), (6, AV.hw 0), (7, AV.int IntKind.i64 m), (8, AV.int IntKind.i64 (IntKind.i64.wrap (i + (1 : Int))))], objs := [(0, AObj.arr 10 segTy f [[AV.int IntKind.i64 b, AV.int IntKind.i64 n, AV.int IntKind.i64 (0 : Int), AV.int IntKind.i64 (0 : Int), AV.hw 1, AV.bool false, AV.bool false, AV.bool false, AV.int IntKind.i64 z, AV.int IntKind.u32 (0 : Int)]]), (1, AObj.log recTy rs), (2, AObj.arr 10 segTy (o ++ [f.getD i.toNat segTy.zero]) [])], nx := 3 } else none else none else bif decide (i.toNat - f.length = 0) then bif decide (rs.length ≤ 1000000000) then bif decide ((o ++ [(b, n, (0 : Int), (0 : Int), rs, false, false, false, z, (0 : Int))]).length * 80 ≤ 140737488355328) then K Ex.normal { slots := [(3, AV.hw 2), (6, AV.hw 0), (7, AV.int IntKind.i64 m), (8, AV.int IntKind.i64 (IntKind.i64.wrap (i + (1 : Int))))], objs := [(0, AObj.arr 10 segTy f [[AV.int IntKind.i64 b, AV.int IntKind.i64 n, AV.int IntKind.i64 (0 : Int), AV.int IntKind.i64 (0 : Int), AV.hw 1, AV.bool false, AV.bool false, AV.bool false, AV.int IntKind.i64 z, AV.int IntKind.u32 (0 : Int)]]), (1, AObj.log recTy rs), (2, AObj.arr 10 segTy (o ++ [(b, n, (0 : Int), (0 : Int), rs, false, false, false, z, (0 : Int))]) [])], nx := 3 } else none else none else none else none else K (Ex.exit 0) { slots := [(3, AV.hw 2), (6, AV.hw 0), (7, AV.int IntKind.i64 m), (8, AV.int IntKind.i64 i)], objs := [(0, AObj.arr 10 segTy f [[AV.int IntKind.i64 b, AV.int IntKind.i64 n, AV.int IntKind.i64 (0 : Int), AV.int IntKind.i64 (0 : Int), AV.hw 1, AV.bool false, AV.bool false, AV.bool false, AV.int IntKind.i64 z, AV.int IntKind.u32 (0 : Int)]]), (1, AObj.log recTy rs), (2, AObj.arr 10 segTy o [])], nx := 3 } := by kernel_rfl

def smallL (l : List Seg) : Bool := decide (List.length l ≤ 1000000000) && List.all l smallS
theorem small_at {l : List Seg} (h : l.all smallS = true) {i : Nat} (hi : i < l.length) : (l.getD i segTy.zero).2.2.2.2.1.length ≤ 1000000000 := by
  have : l.getD i segTy.zero ∈ l := by
    rw [List.getD_eq_getElem?_getD, List.getElem?_eq_getElem hi]
    exact List.getElem_mem hi
  exact of_decide_eq_true (List.all_eq_true.1 h _ this)
theorem stake_snoc {l : List Seg} {i : Nat} (h : i < l.length) : l.take (i + 1) = l.take i ++ [l.getD i segTy.zero] := by
  rw [List.getD_eq_getElem?_getD, List.getElem?_eq_getElem h, List.take_add_one, List.getElem?_eq_getElem h]
  rfl
def alSt (L : LogS) (i : Nat) : St := ⟨[(3, .hw 2), (6, .hw 0), (7, .int .i64 (L.1.length + 1 : Nat)), (8, .int .i64 i)], [(0, .arr 10 segT L.1 [actR L.2.1 L.2.2.1 L.2.2.2.1]), (1, .log recT L.2.2.2.2), (2, .arr 10 segT ((segsL L).take i) [])], 3⟩
theorem segsL_len (L : LogS) : (segsL L).length = L.1.length + 1 := by simp [segsL]
theorem segsL_lt {L : LogS} {i : Nat} (h : i < L.1.length) : (segsL L).getD i segTy.zero = L.1.getD i segTy.zero := by
  unfold segsL
  rw [List.getD_eq_getElem?_getD, List.getElem?_append_left h, List.getD_eq_getElem?_getD]
theorem segsL_last (L : LogS) : (segsL L).getD L.1.length segTy.zero = actS L := by
  unfold segsL
  rw [List.getD_eq_getElem?_getD, List.getElem?_append_right (Nat.le_refl _)]
  simp
theorem all_rounds {R : Type} (M : LogS) (h1 : M.1.length ≤ 1000000000) (h2 : M.1.all smallS = true) (h3 : M.2.2.2.2.length ≤ 1000000000) (K : Ex → St → Option R) : ∀ (m i : Nat), i + m = M.1.length + 1 → rounds (env consC2) H.segs_all 2 (LPof []) V.segs_all_3 L.segs_all_3 (m + 1) (alSt M i) K = K (.exit 0) (alSt M (M.1.length + 1))
  | 0, i, h => by
    obtain rfl : i = M.1.length + 1 := by omega
    rw [rounds_succ']
    refine (all_rd _ _ _ _ _ _ _ _ _).trans ?_
    rw [cond_neg (by omega)]
    rfl
  | m + 1, i, h => by
    have ih := all_rounds M h1 h2 h3 K m (i + 1) (by omega)
    have e1 := stake_snoc (l := segsL M) (i := i) (by rw [segsL_len]; omega)
    have e3 : IntKind.i64.wrap ((i : Int) + 1) = ((i + 1 : Nat) : Int) := by rw [wrap64 (by omega) (by omega)]; omega
    have e4 : ((segsL M).take i ++ [(segsL M).getD i segTy.zero]).length = i + 1 := by rw [← e1, List.length_take, segsL_len]; omega
    rw [rounds_succ']
    refine (all_rd _ _ _ _ _ _ _ _ _).trans ?_
    rw [cond_pos (by omega), cond_pos2 (by omega) (by omega), Int.toNat_natCast, e3]
    unfold alSt at ih
    rw [e1] at ih
    by_cases hi : i < M.1.length
    · rw [segsL_lt hi] at ih e4
      have h5 := small_at h2 hi
      rw [cond_pos hi, cond_pos h5, cond_pos (by omega)]
      exact ih
    · obtain rfl : i = M.1.length := by omega
      rw [segsL_last] at ih e4
      rw [cond_neg hi, cond_pos (by omega), cond_pos h3]
      have e5 : ((segsL M).take M.1.length ++ [(M.2.1, M.2.2.1, (0 : Int), (0 : Int), M.2.2.2.2, false, false, false, M.2.2.2.1, (0 : Int))]).length = M.1.length + 1 := e4
      rw [cond_pos (by rw [e5]; omega)]
      exact ih
abbrev actRP : List Pat := [.int .i64, .int .i64, .lit (.int .i64 0), .lit (.int .i64 0), .lit (.hw 1), .lit (.bool false), .lit (.bool false), .lit (.bool false), .int .i64, .lit (.int .u32 0)]
abbrev rowP : List OPat := [.arr 10 segT [actRP], .log recT]
abbrev alLC : LoopC := LoopC.of ⟨[(3, .lit (.hw 2)), (6, .lit (.hw 0)), (7, .int .i64), (8, .int .i64)], [.arr 10 segT [actRP], .log recT, .arr 10 segT []]⟩
  (fun ⟨⟨_, _, m, i, _⟩, ⟨⟨f, ⟨b, n, _, _, _, _, _, _, z, _, _⟩, _⟩, rs, ⟨o, _⟩, _⟩⟩ => decide (i = (0 : Int)) && decide (m = ((List.length f + 1 : Nat) : Int)) && List.isEmpty o && smallL f && decide (List.length rs ≤ 1000000000))
  fun ⟨⟨_, _, m, i, _⟩, ⟨⟨f, ⟨b, n, _, _, _, _, _, _, z, _, _⟩, _⟩, rs, ⟨o, _⟩, _⟩⟩ => [(true, .exit 0, alSt (f, b, n, z, rs) (List.length f + 1))]
theorem al_lok : LoopOK P0 H.segs_all 2 L.segs_all_3 alLC :=
  loop_ok_of (env_ok consC2_ok) glob0 mixed0 noLoops V.segs_all_3 (by decide) fun ⟨⟨_, _, m, i, _⟩, ⟨⟨f, ⟨b, n, _, _, _, _, _, _, z, _, _⟩, _⟩, rs, ⟨o, _⟩, _⟩⟩ h hw => by
    simp only [Bool.and_eq_true, decide_eq_true_eq, smallL] at h
    obtain ⟨⟨⟨⟨rfl, rfl⟩, h3⟩, h4, h5⟩, h6⟩ := h
    obtain rfl : o = [] := List.isEmpty_iff.1 h3
    exact ⟨_, all_rounds (f, b, n, z, rs) h4 h5 h6 _ (List.length f + 1) 0 (Nat.zero_add _)⟩
theorem all_ev (f : List Seg) (b n z : Int) (rs : List Rec) : evFn (env consC2) H.segs_all (LPof [(3, alLC)]) F.segs_all [.hw 0] [.arr 10 segT f [actR b n z], .log recT rs] (finV (.vl segT) rowP 2) = bif decide ((↑(f.length + 1) : Int) = (↑(f.length + 1) : Int)) && true && smallL f && decide (rs.length ≤ 1000000000) && true then some (List.take (f.length + 1) (segsL (f, b, n, z, rs)), (f, (b, n, (), (), (), (), (), (), z, (), ()), ()), rs, ()) else none := by kernel_rfl

end Go.Sim.XU
namespace Go.Sim.XU
set_option linter.unusedSimpArgs false
set_option linter.unusedVariables false
set_option maxRecDepth 10000
def caseAll : VCase := ⟨[.lit (.hw 0)], rowP, .vl segT, rowP, fun _ ⟨⟨f, ⟨b, n, _, _, _, _, _, _, z, _, _⟩, _⟩, rs, _⟩ => [(smallL f && decide (List.length rs ≤ 1000000000), (segsL (f, b, n, z, rs), (f, (b, n, (), (), (), (), (), (), z, (), ()), ()), rs, ()))]⟩
theorem all_ok : caseAll.e.ok P0 I.segs_all := vcase_ok (c := caseAll) (H := H.segs_all) (E := env consC2) (env_ok consC2_ok) glob0 mixed0 G.segs_all Bd.segs_all (by kernel_rfl) (loops_good (tab := [(3, alLC)]) (by kernel_rfl) (fun x hx => by simp at hx; subst hx; exact al_lok)) fun _ ⟨⟨f, ⟨b, n, _, _, _, _, _, _, z, _, _⟩, _⟩, rs, _⟩ r h hw1 hw2 => by
  obtain ⟨hc, rfl⟩ := pick_pre h
  simp only [Bool.and_eq_true] at hc
  refine (all_ev f b n z rs).trans ?_
  have e : List.take (List.length f + 1) (segsL (f, b, n, z, rs)) = segsL (f, b, n, z, rs) := List.take_of_length_le (by rw [segsL_len]; exact Nat.le_refl _)
  rw [hc.1, hc.2, e]
  simp only [decide_true, Bool.and_self, cond_true]
  rfl
noncomputable abbrev consD1 : List (FuncId × Con) := [(I.segs_all, .eff (effOf [caseAll.e]))]
theorem consD1_ok : ∀ x ∈ consD1, HoldsC P0 x.1 x.2 := by
  intro x hx
  simp at hx
  subst hx
  exact ⟨fun args objs r objs2 h _ => effOf_holds (by simp; exact all_ok) args objs r objs2 h, C.segs_all⟩
theorem segments_ev (f : List Seg) (b n z : Int) (rs : List Rec) : evFn (env consD1) H.segs_Log_Segments (LPof []) F.segs_Log_Segments [.ptr 0 (.tl 0) 0] [.arr 1 .bool [] [[.hw 1]], .arr 10 segT f [actC b n z], .log recT rs] (finV (.vl segT) logP 3) = bif smallL f && decide (rs.length ≤ 1000000000) then some (segsL (f, b, n, z, rs), (((), ()), ()), (f, (b, n, (), (), (), (), (), (), z, (), ()), ()), rs, ()) else none := by kernel_rfl

def caseSegments : VCase := ⟨[.lit (.ptr 0 (.tl 0) 0)], logP, .vl segT, logP, fun _ ⟨_, ⟨f, ⟨b, n, _, _, _, _, _, _, z, _, _⟩, _⟩, rs, _⟩ => [(smallL f && decide (List.length rs ≤ 1000000000), (segsL (f, b, n, z, rs), ((((), ()), ()), (f, (b, n, (), (), (), (), (), (), z, (), ()), ()), rs, ())))]⟩
theorem segments_ok : caseSegments.e.ok P0 I.segs_Log_Segments := vcase_ok (c := caseSegments) (H := H.segs_Log_Segments) (E := env consD1) (env_ok consD1_ok) glob0 mixed0 G.segs_Log_Segments Bd.segs_Log_Segments (by kernel_rfl) noLoops fun _ ⟨_, ⟨f, ⟨b, n, _, _, _, _, _, _, z, _, _⟩, _⟩, rs, _⟩ r h hw1 hw2 => by
  obtain ⟨hc, rfl⟩ := pick_pre h
  refine (segments_ev f b n z rs).trans ?_
  have hc : (smallL f && decide (List.length rs ≤ 1000000000)) = true := hc
  rw [hc]
  rfl
def recK (j : Int) : Rec := (j, j, [107], [], false)
def recsK (b : Int) (c : Nat) : List Rec := (List.range c).map fun j => recK (b + (j : Nat))
def goodF (most : Int) (g : Seg) : Bool := g.2.2.2.2.2.1 && decide (IntKind.i64.wrap (g.2.1 - g.1) ≤ most) && decide (g.2.2.1 = IntKind.i64.wrap (g.2.1 - 1))
structure InvK (most : Int) (i : Nat) (L : LogS) : Prop where
  next : L.2.2.1 = (i : Int)
  base : 0 ≤ L.2.1 ∧ L.2.1 ≤ (i : Int) ∧ (i : Int) - L.2.1 < most
  recs : L.2.2.2.2 = recsK L.2.1 ((i : Int) - L.2.1).toNat
  good : L.1.all (goodF most) = true
  low : lowP L = 0
  ok : okB (4 * i) L = true
theorem lowP_seal (L : LogS) : lowP (sealP L) = lowP L := by
  unfold sealP
  cases L.2.1 == L.2.2.1 with
  | true => rfl
  | false =>
    obtain ⟨f, b, n, z, rs⟩ := L
    cases f <;> rfl
/-- What is left of a step before it is known whether the log is sealed. -/
structure MidK (most : Int) (i : Nat) (L : LogS) : Prop where
  next : L.2.2.1 = (i : Int)
  base : 0 ≤ L.2.1 ∧ L.2.1 ≤ (i : Int) ∧ (i : Int) - L.2.1 ≤ most
  recs : L.2.2.2.2 = recsK L.2.1 ((i : Int) - L.2.1).toNat
  good : L.1.all (goodF most) = true
  low : lowP L = 0
end Go.Sim.XU
namespace Go.Sim
set_option linter.unusedSimpArgs false
set_option linter.unusedVariables false
abbrev Row3 := Int × Int × Int
/-- Where a producer's row stands, or would. -/
def posL : List Row3 → Int → Nat
  | [], _ => 0
  | r :: l, p => bif decide (r.1 < p) then posL l p + 1 else 0
def atL (l : List Row3) (i : Nat) : Row3 := l.getD i (0, 0, 0)
def hasL (l : List Row3) (p : Int) : Bool := decide (posL l p < l.length) && (atL l (posL l p)).1 == p
def sortedL : List Row3 → Bool
  | [] => true
  | r :: l => l.all (fun s => decide (r.1 < s.1)) && sortedL l
def putAt (l : List Row3) (k t : Nat) (r : Row3) : List Row3 := l.take k ++ r :: l.drop t
/-- A table in which a row was set; what Set tells. -/
def setL (l : List Row3) (r : Row3) : List Row3 × Int :=
  bif hasL l r.1 then (putAt l (posL l r.1) (posL l r.1 + 1) r, 0) else bif decide ((l.length : Int) ≥ 100) then (l, 7) else (putAt l (posL l r.1) (posL l r.1) r, 0)
def askL (l : List Row3) (p s : Int) : Int × Int :=
  bif hasL l p then (bif (atL l (posL l p)).2.1 == s then (1, (atL l (posL l p)).2.2) else bif decide ((atL l (posL l p)).2.1 < s) && (atL l (posL l p)).2.1 == s - 1 then (0, 0) else (2, 0)) else bif s == 0 then (0, 0) else (2, 0)
theorem pos_le : ∀ (l : List Row3) (p : Int), posL l p ≤ l.length
  | [], _ => Nat.le_refl _
  | r :: l, p => by
    have := pos_le l p
    simp only [posL, List.length_cons]
    cases decide (r.1 < p) <;> simp only [cond_true, cond_false] <;> omega
theorem pos_below : ∀ {l : List Row3} {p : Int} {i : Nat}, i < posL l p → (atL l i).1 < p
  | r :: l, p, i, h => by
    simp only [posL] at h
    by_cases hr : r.1 < p
    · cases i with
      | zero => exact hr
      | succ i =>
        rw [cond_pos hr] at h
        have := pos_below (l := l) (p := p) (i := i) (by omega)
        simpa [atL] using this
    · rw [cond_neg hr] at h; omega
theorem pos_at : ∀ {l : List Row3} {p : Int}, posL l p < l.length → p ≤ (atL l (posL l p)).1
  | r :: l, p, h => by
    simp only [posL] at h ⊢
    by_cases hr : r.1 < p
    · rw [cond_pos hr] at h ⊢
      have := pos_at (l := l) (p := p) (by simpa using h)
      simpa [atL] using this
    · rw [cond_neg hr]
      show p ≤ r.1
      omega
theorem sorted_lt : ∀ {l : List Row3} {i j : Nat}, sortedL l = true → i < j → j < l.length → (atL l i).1 < (atL l j).1
  | r :: l, i, j, hs, hij, hj => by
    simp only [sortedL, Bool.and_eq_true, List.all_eq_true, decide_eq_true_eq] at hs
    cases j with
    | zero => omega
    | succ j =>
      have hj : j < l.length := by simpa using hj
      cases i with
      | zero =>
        have : (atL l j) ∈ l := by unfold atL; rw [List.getD_eq_getElem?_getD, List.getElem?_eq_getElem hj]; exact List.getElem_mem hj
        have := hs.1 _ this
        simpa [atL] using this
      | succ i =>
        have := sorted_lt (l := l) (i := i) (j := j) hs.2 (by omega) hj
        simpa [atL] using this
/-- A place with nothing less behind it and nothing else ahead is the row's. -/
theorem pos_eq {l : List Row3} {p : Int} {k : Nat} (hk : k ≤ l.length) (h1 : ∀ i, i < k → (atL l i).1 < p) (h2 : k < l.length → p ≤ (atL l k).1) : posL l p = k := by
  rcases Nat.lt_trichotomy (posL l p) k with h | h | h
  · have := pos_at (l := l) (p := p) (by omega)
    have := h1 _ h
    omega
  · exact h
  · have := pos_below h
    have := h2 (by have := pos_le l p; omega)
    omega
end Go.Sim
namespace Go.Sim
/-- What is left of code behind its first n parts. -/
def sufC : Nat → Code → Code
  | 0, c => c
  | n + 1, .seq _ b => sufC n b
  | _ + 1, _ => .skip
/-- The first n parts of code. -/
def preC : Nat → Code → Code
  | 0, _ => .skip
  | n + 1, .seq a b => .seq a (preC n b)
  | _ + 1, c => c
theorem cut_skip {E : Env} {H : Hint} {k0 : Nat} {R : Type} {LP : Loops R} (K : Ex → St → Option R) : (fun e s' => match e with
      | .normal => ev E H k0 LP .skip s' K
      | e => K e s') = K := by
  funext e s'
  cases e <;> rfl
theorem ev_cut {E : Env} {H : Hint} {k0 : Nat} (hj : H.jc = []) {R : Type} {LP : Loops R} : ∀ (n : Nat) (c : Code) (s : St) (K : Ex → St → Option R),
    ev E H k0 LP c s K = ev E H k0 LP (preC n c) s fun e s' => match e with
      | .normal => ev E H k0 LP (sufC n c) s' K
      | e => K e s' := by
  intro n
  induction n with
  | zero => intro c s K; rfl
  | succ n ih =>
    intro c s K
    cases c with
    | seq a b =>
      have hn : (cond (loopFree a) (lk? H.jc (firstRegion a)) none) = none := by rw [hj]; cases loopFree a <;> rfl
      simp only [preC, sufC, ev]
      rw [hn]
      simp only
      congr 1
      funext e s'
      cases e with
      | normal => exact ih b s' K
      | exit i => rfl
      | ret => rfl
    | _ => simp only [preC, sufC]; rw [cut_skip]
end Go.Sim
namespace Go.Sim.XD
set_option linter.unusedSimpArgs false
set_option linter.unusedVariables false
set_option maxRecDepth 10000
theorem env_nil : ∀ x ∈ ([] : List (FuncId × Con)), HoldsC P0 x.1 x.2 := fun x h => by cases h
abbrev rowT : Ty := .pair (.int .i64) (.pair (.int .i64) (.int .i64))
theorem isnan_ev (a : Int) : evFn (env []) H.cmp_isNaN_int (LPof []) F.cmp_isNaN_int [.int .i64 a] [] (finT [.bool]) = some (a != a, ()) := by kernel_rfl

def caseIsnan : PCase := ⟨[.ty (.int .i64)], [.bool], fun x => (fun (a : Int) => [(true, (false, ()))]) x.1⟩
theorem isnan_val (a : Int) : evFn (env []) H.cmp_isNaN_int (LPof []) F.cmp_isNaN_int [.int .i64 a] [] (finT [.bool]) = some (false, ()) := by
  rw [isnan_ev]; simp
theorem isnan_ok : caseIsnan.ok P0 I.cmp_isNaN_int := case_ok2 (H := H.cmp_isNaN_int) (E := env []) (env_ok env_nil) glob0 mixed0 G.cmp_isNaN_int Bd.cmp_isNaN_int (by kernel_rfl) noLoops fun ⟨a, ()⟩ y h hw => by
  obtain ⟨hc, rfl⟩ := pick_pre h
  exact isnan_val a
noncomputable abbrev consA1 : List (FuncId × Con) := [(I.cmp_isNaN_int, .pure (pureOf [caseIsnan]))]
theorem consA1_ok : ∀ x ∈ consA1, HoldsC P0 x.1 x.2 := by
  intro x hx
  simp at hx
  subst hx
  exact ⟨pureOf_holds (by simp; exact isnan_ok), C.cmp_isNaN_int⟩
theorem cmp_ev (a b : Int) : evFn (env consA1) H.cmp_Compare_int (LPof []) F.cmp_Compare_int [.int .i64 a, .int .i64 b] [] (finT [.int .i64]) = bif decide (a < b) then some ((-1 : Int), ()) else bif decide (a > b) then some ((1 : Int), ()) else some ((0 : Int), ()) := by kernel_rfl

def cmpI (a b : Int) : Int := bif decide (a < b) then -1 else bif decide (a > b) then 1 else 0
def caseCmp : PCase := ⟨[.ty (.int .i64), .ty (.int .i64)], [.int .i64], fun x => (fun (a b : Int) => [(true, (cmpI a b, ()))]) x.1 x.2.1⟩
theorem cmp_val (a b : Int) : evFn (env consA1) H.cmp_Compare_int (LPof []) F.cmp_Compare_int [.int .i64 a, .int .i64 b] [] (finT [.int .i64]) = some (cmpI a b, ()) := by
  rw [cmp_ev]
  unfold cmpI
  cases decide (a < b) <;> cases decide (a > b) <;> rfl
theorem cmp_ok : caseCmp.ok P0 I.cmp_Compare_int := case_ok2 (H := H.cmp_Compare_int) (E := env consA1) (env_ok consA1_ok) glob0 mixed0 G.cmp_Compare_int Bd.cmp_Compare_int (by kernel_rfl) noLoops fun ⟨a, b, ()⟩ y h hw => by
  obtain ⟨hc, rfl⟩ := pick_pre h
  exact cmp_val a b
noncomputable abbrev consA2 : List (FuncId × Con) := [(I.cmp_Compare_int, .pure (pureOf [caseCmp]))]
theorem consA2_ok : ∀ x ∈ consA2, HoldsC P0 x.1 x.2 := by
  intro x hx
  simp at hx
  subst hx
  exact ⟨pureOf_holds (by simp; exact cmp_ok), C.cmp_Compare_int⟩
theorem find1_ev (r : Row3) (p : Int) : evFn (env consA2) H.dedup_Table_find_1 (LPof []) F.dedup_Table_find_1 [valOf rowT r, .int .i64 p] [] (finT [.int .i64]) = some (cmpI r.fst p, ()) := by kernel_rfl

def H.ins2 : Hint := { H.slices_Insert_dedup_Row_dedup_Row with vs := [51], hw := [83], nh := [(6, 145)] }
noncomputable abbrev consA3 : List (FuncId × Con) := [(182, .apart)]
def insObj (r : Row3) : AObj := .arr 3 .bool [] [[.int .i64 r.1, .int .i64 r.2.1, .int .i64 r.2.2]]
theorem ins1_ev {R : Type} (xs : List Row3) (i : Int) (r : Row3) (c : Nat) (K : Ex → St → Option R) : ev (env consA3) H.ins2 2 (LPof []) (preC 7 B.slices_Insert_dedup_Row_dedup_Row) (initSt [.hc 0 0 xs.length c, .int .i64 i, .hw 1] [.arr 3 rowT xs [], insObj r]) K = bif decide ((0 : Int) ≤ i) && decide (i ≤ (↑xs.length : Int)) then bif i == (↑xs.length : Int) then bif decide ((List.take xs.length xs ++ [r]).length * 24 ≤ 140737488355328) then K Ex.ret { slots := [(6, AV.hw 3), (25, AV.hw 3), (24, AV.hw 1), (23, AV.hc 0 0 xs.length c), (22, AV.bool (i == (↑xs.length : Int))), (21, AV.int IntKind.i64 (↑xs.length : Int)), (20, AV.int IntKind.i64 i), (8, AV.int IntKind.i64 (↑xs.length : Int)), (19, AV.int IntKind.i64 (↑xs.length : Int)), (18, AV.hc 0 0 xs.length c), (16, AV.bool false), (15, AV.int IntKind.i64 (1 : Int)), (7, AV.int IntKind.i64 (1 : Int)), (14, AV.int IntKind.i64 (1 : Int)), (13, AV.hw 1), (12, AV.hc 0 i.toNat (xs.length - i.toNat) (cutCap c (some i.toNat))), (11, AV.int IntKind.i64 i), (10, AV.hc 0 0 xs.length c), (6, AV.hw 2), (0, AV.hc 0 0 xs.length c), (1, AV.int IntKind.i64 i), (2, AV.hw 1)], objs := [(3, AObj.arr 3 ((Ty.int IntKind.i64).pair ((Ty.int IntKind.i64).pair (Ty.int IntKind.i64))) (List.take xs.length xs ++ [r]) []), (0, AObj.dead), (2, AObj.arr 3 ((Ty.int IntKind.i64).pair ((Ty.int IntKind.i64).pair (Ty.int IntKind.i64))) [] []), (0, AObj.arr 3 ((Ty.int IntKind.i64).pair ((Ty.int IntKind.i64).pair (Ty.int IntKind.i64))) xs []), (1, AObj.arr 3 Ty.bool [] [[AV.int IntKind.i64 r.fst, AV.int IntKind.i64 r.snd.fst, AV.int IntKind.i64 r.snd.snd]])], nx := 4 } else none else bif decide (IntKind.i64.wrap ((↑xs.length : Int) + (1 : Int)) > (↑c : Int)) then bif decide ((0 : Int) ≤ i) && decide (i ≤ (↑xs.length : Int)) then bif decide ((0 : Int) < IntKind.i64.wrap (IntKind.i64.wrap ((↑xs.length : Int) + (1 : Int)) - i)) && decide (c < i.toNat + (IntKind.i64.wrap (IntKind.i64.wrap ((↑xs.length : Int) + (1 : Int)) - i)).toNat) && decide (0 + i.toNat ≤ xs.length) && decide ((i.toNat + (IntKind.i64.wrap (IntKind.i64.wrap ((↑xs.length : Int) + (1 : Int)) - i)).toNat) * 24 ≤ 140737488355328) then bif decide ((0 : Int) ≤ i) && decide (i ≤ (↑(List.take i.toNat xs ++ List.replicate (IntKind.i64.wrap (IntKind.i64.wrap ((↑xs.length : Int) + (1 : Int)) - i)).toNat ((Ty.int IntKind.i64).pair ((Ty.int IntKind.i64).pair (Ty.int IntKind.i64))).zero).length : Int)) then bif decide (1 ≤ (List.take i.toNat xs ++ List.replicate (IntKind.i64.wrap (IntKind.i64.wrap ((↑xs.length : Int) + (1 : Int)) - i)).toNat ((Ty.int IntKind.i64).pair ((Ty.int IntKind.i64).pair (Ty.int IntKind.i64))).zero).length - i.toNat) && decide (i.toNat + 1 ≤ (List.take i.toNat xs ++ List.replicate (IntKind.i64.wrap (IntKind.i64.wrap ((↑xs.length : Int) + (1 : Int)) - i)).toNat ((Ty.int IntKind.i64).pair ((Ty.int IntKind.i64).pair (Ty.int IntKind.i64))).zero).length) then bif decide ((0 : Int) ≤ IntKind.i64.wrap (i + (1 : Int))) && decide (IntKind.i64.wrap (i + (1 : Int)) ≤ (↑(List.take i.toNat (List.take i.toNat xs ++ List.replicate (IntKind.i64.wrap (IntKind.i64.wrap ((↑xs.length : Int) + (1 : Int)) - i)).toNat ((Ty.int IntKind.i64).pair ((Ty.int IntKind.i64).pair (Ty.int IntKind.i64))).zero) ++ [r] ++ List.drop (i.toNat + 1) (List.take i.toNat xs ++ List.replicate (IntKind.i64.wrap (IntKind.i64.wrap ((↑xs.length : Int) + (1 : Int)) - i)).toNat ((Ty.int IntKind.i64).pair ((Ty.int IntKind.i64).pair (Ty.int IntKind.i64))).zero)).length : Int)) then bif decide (xs.length = xs.length) && decide (0 < c) then bif decide ((0 : Int) ≤ i) && decide (i ≤ (↑xs.length : Int)) then bif decide ((List.drop i.toNat xs).length ≤ (List.take i.toNat (List.take i.toNat xs ++ List.replicate (IntKind.i64.wrap (IntKind.i64.wrap ((↑xs.length : Int) + (1 : Int)) - i)).toNat ((Ty.int IntKind.i64).pair ((Ty.int IntKind.i64).pair (Ty.int IntKind.i64))).zero) ++ [r] ++ List.drop (i.toNat + 1) (List.take i.toNat xs ++ List.replicate (IntKind.i64.wrap (IntKind.i64.wrap ((↑xs.length : Int) + (1 : Int)) - i)).toNat ((Ty.int IntKind.i64).pair ((Ty.int IntKind.i64).pair (Ty.int IntKind.i64))).zero)).length - (IntKind.i64.wrap (i + (1 : Int))).toNat) && decide ((IntKind.i64.wrap (i + (1 : Int))).toNat + (List.drop i.toNat xs).length ≤ (List.take i.toNat (List.take i.toNat xs ++ List.replicate (IntKind.i64.wrap (IntKind.i64.wrap ((↑xs.length : Int) + (1 : Int)) - i)).toNat ((Ty.int IntKind.i64).pair ((Ty.int IntKind.i64).pair (Ty.int IntKind.i64))).zero) ++ [r] ++ List.drop (i.toNat + 1) (List.take i.toNat xs ++ List.replicate (IntKind.i64.wrap (IntKind.i64.wrap ((↑xs.length : Int) + (1 : Int)) - i)).toNat ((Ty.int IntKind.i64).pair ((Ty.int IntKind.i64).pair (Ty.int IntKind.i64))).zero)).length) then K Ex.ret { slots := [(6, AV.hw 3), (55, AV.hw 3), (54, AV.int IntKind.i64 (↑(List.drop i.toNat xs).length : Int)), (53, AV.vl ((Ty.int IntKind.i64).pair ((Ty.int IntKind.i64).pair (Ty.int IntKind.i64))) (List.drop i.toNat xs)), (52, AV.int IntKind.i64 i), (51, AV.vl ((Ty.int IntKind.i64).pair ((Ty.int IntKind.i64).pair (Ty.int IntKind.i64))) xs), (50, AV.hs 3 (IntKind.i64.wrap (i + (1 : Int))).toNat ((List.take i.toNat (List.take i.toNat xs ++ List.replicate (IntKind.i64.wrap (IntKind.i64.wrap ((↑xs.length : Int) + (1 : Int)) - i)).toNat ((Ty.int IntKind.i64).pair ((Ty.int IntKind.i64).pair (Ty.int IntKind.i64))).zero) ++ [r] ++ List.drop (i.toNat + 1) (List.take i.toNat xs ++ List.replicate (IntKind.i64.wrap (IntKind.i64.wrap ((↑xs.length : Int) + (1 : Int)) - i)).toNat ((Ty.int IntKind.i64).pair ((Ty.int IntKind.i64).pair (Ty.int IntKind.i64))).zero)).length - (IntKind.i64.wrap (i + (1 : Int))).toNat)), (49, AV.int IntKind.i64 (IntKind.i64.wrap (i + (1 : Int)))), (48, AV.int IntKind.i64 (1 : Int)), (47, AV.int IntKind.i64 i), (46, AV.hw 3), (45, AV.int IntKind.i64 (1 : Int)), (44, AV.hw 1), (43, AV.hs 3 i.toNat ((List.take i.toNat xs ++ List.replicate (IntKind.i64.wrap (IntKind.i64.wrap ((↑xs.length : Int) + (1 : Int)) - i)).toNat ((Ty.int IntKind.i64).pair ((Ty.int IntKind.i64).pair (Ty.int IntKind.i64))).zero).length - i.toNat)), (42, AV.int IntKind.i64 i), (41, AV.hw 3), (9, AV.hw 3), (40, AV.hw 3), (39, AV.int IntKind.i64 (IntKind.i64.wrap (IntKind.i64.wrap ((↑xs.length : Int) + (1 : Int)) - i))), (38, AV.int IntKind.i64 i), (37, AV.int IntKind.i64 (IntKind.i64.wrap ((↑xs.length : Int) + (1 : Int)))), (36, AV.int IntKind.i64 (1 : Int)), (35, AV.int IntKind.i64 (↑xs.length : Int)), (34, AV.hc 0 0 i.toNat c), (33, AV.int IntKind.i64 i), (32, AV.hc 0 0 xs.length c), (31, AV.bool (decide (IntKind.i64.wrap ((↑xs.length : Int) + (1 : Int)) > (↑c : Int)))), (30, AV.int IntKind.i64 (↑c : Int)), (29, AV.hc 0 0 xs.length c), (28, AV.int IntKind.i64 (IntKind.i64.wrap ((↑xs.length : Int) + (1 : Int)))), (27, AV.int IntKind.i64 (1 : Int)), (26, AV.int IntKind.i64 (↑xs.length : Int)), (22, AV.bool (i == (↑xs.length : Int))), (21, AV.int IntKind.i64 (↑xs.length : Int)), (20, AV.int IntKind.i64 i), (8, AV.int IntKind.i64 (↑xs.length : Int)), (19, AV.int IntKind.i64 (↑xs.length : Int)), (18, AV.hc 0 0 xs.length c), (16, AV.bool false), (15, AV.int IntKind.i64 (1 : Int)), (7, AV.int IntKind.i64 (1 : Int)), (14, AV.int IntKind.i64 (1 : Int)), (13, AV.hw 1), (12, AV.hc 0 i.toNat (xs.length - i.toNat) (cutCap c (some i.toNat))), (11, AV.int IntKind.i64 i), (10, AV.hc 0 0 xs.length c), (6, AV.hw 2), (0, AV.hc 0 0 xs.length c), (1, AV.int IntKind.i64 i), (2, AV.hw 1)], objs := [(3, AObj.arr 3 ((Ty.int IntKind.i64).pair ((Ty.int IntKind.i64).pair (Ty.int IntKind.i64))) (List.take (IntKind.i64.wrap (i + (1 : Int))).toNat (List.take i.toNat (List.take i.toNat xs ++ List.replicate (IntKind.i64.wrap (IntKind.i64.wrap ((↑xs.length : Int) + (1 : Int)) - i)).toNat ((Ty.int IntKind.i64).pair ((Ty.int IntKind.i64).pair (Ty.int IntKind.i64))).zero) ++ [r] ++ List.drop (i.toNat + 1) (List.take i.toNat xs ++ List.replicate (IntKind.i64.wrap (IntKind.i64.wrap ((↑xs.length : Int) + (1 : Int)) - i)).toNat ((Ty.int IntKind.i64).pair ((Ty.int IntKind.i64).pair (Ty.int IntKind.i64))).zero)) ++ List.drop i.toNat xs ++ List.drop ((IntKind.i64.wrap (i + (1 : Int))).toNat + (List.drop i.toNat xs).length) (List.take i.toNat (List.take i.toNat xs ++ List.replicate (IntKind.i64.wrap (IntKind.i64.wrap ((↑xs.length : Int) + (1 : Int)) - i)).toNat ((Ty.int IntKind.i64).pair ((Ty.int IntKind.i64).pair (Ty.int IntKind.i64))).zero) ++ [r] ++ List.drop (i.toNat + 1) (List.take i.toNat xs ++ List.replicate (IntKind.i64.wrap (IntKind.i64.wrap ((↑xs.length : Int) + (1 : Int)) - i)).toNat ((Ty.int IntKind.i64).pair ((Ty.int IntKind.i64).pair (Ty.int IntKind.i64))).zero))) []), (0, AObj.dead), (3, AObj.arr 3 ((Ty.int IntKind.i64).pair ((Ty.int IntKind.i64).pair (Ty.int IntKind.i64))) (List.take i.toNat (List.take i.toNat xs ++ List.replicate (IntKind.i64.wrap (IntKind.i64.wrap ((↑xs.length : Int) + (1 : Int)) - i)).toNat ((Ty.int IntKind.i64).pair ((Ty.int IntKind.i64).pair (Ty.int IntKind.i64))).zero) ++ [r] ++ List.drop (i.toNat + 1) (List.take i.toNat xs ++ List.replicate (IntKind.i64.wrap (IntKind.i64.wrap ((↑xs.length : Int) + (1 : Int)) - i)).toNat ((Ty.int IntKind.i64).pair ((Ty.int IntKind.i64).pair (Ty.int IntKind.i64))).zero)) []), (3, AObj.arr 3 ((Ty.int IntKind.i64).pair ((Ty.int IntKind.i64).pair (Ty.int IntKind.i64))) (List.take i.toNat xs ++ List.replicate (IntKind.i64.wrap (IntKind.i64.wrap ((↑xs.length : Int) + (1 : Int)) - i)).toNat ((Ty.int IntKind.i64).pair ((Ty.int IntKind.i64).pair (Ty.int IntKind.i64))).zero) []), (2, AObj.arr 3 ((Ty.int IntKind.i64).pair ((Ty.int IntKind.i64).pair (Ty.int IntKind.i64))) [] []), (0, AObj.arr 3 ((Ty.int IntKind.i64).pair ((Ty.int IntKind.i64).pair (Ty.int IntKind.i64))) xs []), (1, AObj.arr 3 Ty.bool [] [[AV.int IntKind.i64 r.fst, AV.int IntKind.i64 r.snd.fst, AV.int IntKind.i64 r.snd.snd]])], nx := 4 } else none else none else none else none else none else none else none else bif decide (i = (↑xs.length : Int) + (1 : Int)) && decide (xs.length + 1 ≤ c) && decide (0 + xs.length = xs.length) && decide (xs.length < 9223372036854775807) && true then none else none else K Ex.normal { slots := [(31, AV.bool (decide (IntKind.i64.wrap ((↑xs.length : Int) + (1 : Int)) > (↑c : Int)))), (30, AV.int IntKind.i64 (↑c : Int)), (29, AV.hc 0 0 xs.length c), (28, AV.int IntKind.i64 (IntKind.i64.wrap ((↑xs.length : Int) + (1 : Int)))), (27, AV.int IntKind.i64 (1 : Int)), (26, AV.int IntKind.i64 (↑xs.length : Int)), (22, AV.bool (i == (↑xs.length : Int))), (21, AV.int IntKind.i64 (↑xs.length : Int)), (20, AV.int IntKind.i64 i), (8, AV.int IntKind.i64 (↑xs.length : Int)), (19, AV.int IntKind.i64 (↑xs.length : Int)), (18, AV.hc 0 0 xs.length c), (16, AV.bool false), (15, AV.int IntKind.i64 (1 : Int)), (7, AV.int IntKind.i64 (1 : Int)), (14, AV.int IntKind.i64 (1 : Int)), (13, AV.hw 1), (12, AV.hc 0 i.toNat (xs.length - i.toNat) (cutCap c (some i.toNat))), (11, AV.int IntKind.i64 i), (10, AV.hc 0 0 xs.length c), (6, AV.hw 2), (0, AV.hc 0 0 xs.length c), (1, AV.int IntKind.i64 i), (2, AV.hw 1)], objs := [(2, AObj.arr 3 ((Ty.int IntKind.i64).pair ((Ty.int IntKind.i64).pair (Ty.int IntKind.i64))) [] []), (0, AObj.arr 3 ((Ty.int IntKind.i64).pair ((Ty.int IntKind.i64).pair (Ty.int IntKind.i64))) xs []), (1, AObj.arr 3 Ty.bool [] [[AV.int IntKind.i64 r.fst, AV.int IntKind.i64 r.snd.fst, AV.int IntKind.i64 r.snd.snd]])], nx := 3 } else none := by kernel_rfl

end Go.Sim.XD
namespace Go.Sim.XD
set_option linter.unusedSimpArgs false
set_option linter.unusedVariables false
set_option maxRecDepth 10000
def insR1 (xs : List Row3) (i : Int) (r : Row3) (c : Nat) : St := { slots := [(6, AV.hw 3), (25, AV.hw 3), (24, AV.hw 1), (23, AV.hc 0 0 xs.length c), (22, AV.bool (i == (↑xs.length : Int))), (21, AV.int IntKind.i64 (↑xs.length : Int)), (20, AV.int IntKind.i64 i), (8, AV.int IntKind.i64 (↑xs.length : Int)), (19, AV.int IntKind.i64 (↑xs.length : Int)), (18, AV.hc 0 0 xs.length c), (16, AV.bool false), (15, AV.int IntKind.i64 (1 : Int)), (7, AV.int IntKind.i64 (1 : Int)), (14, AV.int IntKind.i64 (1 : Int)), (13, AV.hw 1), (12, AV.hc 0 i.toNat (xs.length - i.toNat) (cutCap c (some i.toNat))), (11, AV.int IntKind.i64 i), (10, AV.hc 0 0 xs.length c), (6, AV.hw 2), (0, AV.hc 0 0 xs.length c), (1, AV.int IntKind.i64 i), (2, AV.hw 1)], objs := [(3, AObj.arr 3 ((Ty.int IntKind.i64).pair ((Ty.int IntKind.i64).pair (Ty.int IntKind.i64))) (List.take xs.length xs ++ [r]) []), (0, AObj.dead), (2, AObj.arr 3 ((Ty.int IntKind.i64).pair ((Ty.int IntKind.i64).pair (Ty.int IntKind.i64))) [] []), (0, AObj.arr 3 ((Ty.int IntKind.i64).pair ((Ty.int IntKind.i64).pair (Ty.int IntKind.i64))) xs []), (1, AObj.arr 3 Ty.bool [] [[AV.int IntKind.i64 r.fst, AV.int IntKind.i64 r.snd.fst, AV.int IntKind.i64 r.snd.snd]])], nx := 4 }
def insR2 (xs : List Row3) (i : Int) (r : Row3) (c : Nat) : St := { slots := [(6, AV.hw 3), (55, AV.hw 3), (54, AV.int IntKind.i64 (↑(List.drop i.toNat xs).length : Int)), (53, AV.vl ((Ty.int IntKind.i64).pair ((Ty.int IntKind.i64).pair (Ty.int IntKind.i64))) (List.drop i.toNat xs)), (52, AV.int IntKind.i64 i), (51, AV.vl ((Ty.int IntKind.i64).pair ((Ty.int IntKind.i64).pair (Ty.int IntKind.i64))) xs), (50, AV.hs 3 (IntKind.i64.wrap (i + (1 : Int))).toNat ((List.take i.toNat (List.take i.toNat xs ++ List.replicate (IntKind.i64.wrap (IntKind.i64.wrap ((↑xs.length : Int) + (1 : Int)) - i)).toNat ((Ty.int IntKind.i64).pair ((Ty.int IntKind.i64).pair (Ty.int IntKind.i64))).zero) ++ [r] ++ List.drop (i.toNat + 1) (List.take i.toNat xs ++ List.replicate (IntKind.i64.wrap (IntKind.i64.wrap ((↑xs.length : Int) + (1 : Int)) - i)).toNat ((Ty.int IntKind.i64).pair ((Ty.int IntKind.i64).pair (Ty.int IntKind.i64))).zero)).length - (IntKind.i64.wrap (i + (1 : Int))).toNat)), (49, AV.int IntKind.i64 (IntKind.i64.wrap (i + (1 : Int)))), (48, AV.int IntKind.i64 (1 : Int)), (47, AV.int IntKind.i64 i), (46, AV.hw 3), (45, AV.int IntKind.i64 (1 : Int)), (44, AV.hw 1), (43, AV.hs 3 i.toNat ((List.take i.toNat xs ++ List.replicate (IntKind.i64.wrap (IntKind.i64.wrap ((↑xs.length : Int) + (1 : Int)) - i)).toNat ((Ty.int IntKind.i64).pair ((Ty.int IntKind.i64).pair (Ty.int IntKind.i64))).zero).length - i.toNat)), (42, AV.int IntKind.i64 i), (41, AV.hw 3), (9, AV.hw 3), (40, AV.hw 3), (39, AV.int IntKind.i64 (IntKind.i64.wrap (IntKind.i64.wrap ((↑xs.length : Int) + (1 : Int)) - i))), (38, AV.int IntKind.i64 i), (37, AV.int IntKind.i64 (IntKind.i64.wrap ((↑xs.length : Int) + (1 : Int)))), (36, AV.int IntKind.i64 (1 : Int)), (35, AV.int IntKind.i64 (↑xs.length : Int)), (34, AV.hc 0 0 i.toNat c), (33, AV.int IntKind.i64 i), (32, AV.hc 0 0 xs.length c), (31, AV.bool (decide (IntKind.i64.wrap ((↑xs.length : Int) + (1 : Int)) > (↑c : Int)))), (30, AV.int IntKind.i64 (↑c : Int)), (29, AV.hc 0 0 xs.length c), (28, AV.int IntKind.i64 (IntKind.i64.wrap ((↑xs.length : Int) + (1 : Int)))), (27, AV.int IntKind.i64 (1 : Int)), (26, AV.int IntKind.i64 (↑xs.length : Int)), (22, AV.bool (i == (↑xs.length : Int))), (21, AV.int IntKind.i64 (↑xs.length : Int)), (20, AV.int IntKind.i64 i), (8, AV.int IntKind.i64 (↑xs.length : Int)), (19, AV.int IntKind.i64 (↑xs.length : Int)), (18, AV.hc 0 0 xs.length c), (16, AV.bool false), (15, AV.int IntKind.i64 (1 : Int)), (7, AV.int IntKind.i64 (1 : Int)), (14, AV.int IntKind.i64 (1 : Int)), (13, AV.hw 1), (12, AV.hc 0 i.toNat (xs.length - i.toNat) (cutCap c (some i.toNat))), (11, AV.int IntKind.i64 i), (10, AV.hc 0 0 xs.length c), (6, AV.hw 2), (0, AV.hc 0 0 xs.length c), (1, AV.int IntKind.i64 i), (2, AV.hw 1)], objs := [(3, AObj.arr 3 ((Ty.int IntKind.i64).pair ((Ty.int IntKind.i64).pair (Ty.int IntKind.i64))) (List.take (IntKind.i64.wrap (i + (1 : Int))).toNat (List.take i.toNat (List.take i.toNat xs ++ List.replicate (IntKind.i64.wrap (IntKind.i64.wrap ((↑xs.length : Int) + (1 : Int)) - i)).toNat ((Ty.int IntKind.i64).pair ((Ty.int IntKind.i64).pair (Ty.int IntKind.i64))).zero) ++ [r] ++ List.drop (i.toNat + 1) (List.take i.toNat xs ++ List.replicate (IntKind.i64.wrap (IntKind.i64.wrap ((↑xs.length : Int) + (1 : Int)) - i)).toNat ((Ty.int IntKind.i64).pair ((Ty.int IntKind.i64).pair (Ty.int IntKind.i64))).zero)) ++ List.drop i.toNat xs ++ List.drop ((IntKind.i64.wrap (i + (1 : Int))).toNat + (List.drop i.toNat xs).length) (List.take i.toNat (List.take i.toNat xs ++ List.replicate (IntKind.i64.wrap (IntKind.i64.wrap ((↑xs.length : Int) + (1 : Int)) - i)).toNat ((Ty.int IntKind.i64).pair ((Ty.int IntKind.i64).pair (Ty.int IntKind.i64))).zero) ++ [r] ++ List.drop (i.toNat + 1) (List.take i.toNat xs ++ List.replicate (IntKind.i64.wrap (IntKind.i64.wrap ((↑xs.length : Int) + (1 : Int)) - i)).toNat ((Ty.int IntKind.i64).pair ((Ty.int IntKind.i64).pair (Ty.int IntKind.i64))).zero))) []), (0, AObj.dead), (3, AObj.arr 3 ((Ty.int IntKind.i64).pair ((Ty.int IntKind.i64).pair (Ty.int IntKind.i64))) (List.take i.toNat (List.take i.toNat xs ++ List.replicate (IntKind.i64.wrap (IntKind.i64.wrap ((↑xs.length : Int) + (1 : Int)) - i)).toNat ((Ty.int IntKind.i64).pair ((Ty.int IntKind.i64).pair (Ty.int IntKind.i64))).zero) ++ [r] ++ List.drop (i.toNat + 1) (List.take i.toNat xs ++ List.replicate (IntKind.i64.wrap (IntKind.i64.wrap ((↑xs.length : Int) + (1 : Int)) - i)).toNat ((Ty.int IntKind.i64).pair ((Ty.int IntKind.i64).pair (Ty.int IntKind.i64))).zero)) []), (3, AObj.arr 3 ((Ty.int IntKind.i64).pair ((Ty.int IntKind.i64).pair (Ty.int IntKind.i64))) (List.take i.toNat xs ++ List.replicate (IntKind.i64.wrap (IntKind.i64.wrap ((↑xs.length : Int) + (1 : Int)) - i)).toNat ((Ty.int IntKind.i64).pair ((Ty.int IntKind.i64).pair (Ty.int IntKind.i64))).zero) []), (2, AObj.arr 3 ((Ty.int IntKind.i64).pair ((Ty.int IntKind.i64).pair (Ty.int IntKind.i64))) [] []), (0, AObj.arr 3 ((Ty.int IntKind.i64).pair ((Ty.int IntKind.i64).pair (Ty.int IntKind.i64))) xs []), (1, AObj.arr 3 Ty.bool [] [[AV.int IntKind.i64 r.fst, AV.int IntKind.i64 r.snd.fst, AV.int IntKind.i64 r.snd.snd]])], nx := 4 }
def insN (xs : List Row3) (i : Int) (r : Row3) (c : Nat) : St := { slots := [(31, AV.bool (decide (IntKind.i64.wrap ((↑xs.length : Int) + (1 : Int)) > (↑c : Int)))), (30, AV.int IntKind.i64 (↑c : Int)), (29, AV.hc 0 0 xs.length c), (28, AV.int IntKind.i64 (IntKind.i64.wrap ((↑xs.length : Int) + (1 : Int)))), (27, AV.int IntKind.i64 (1 : Int)), (26, AV.int IntKind.i64 (↑xs.length : Int)), (22, AV.bool (i == (↑xs.length : Int))), (21, AV.int IntKind.i64 (↑xs.length : Int)), (20, AV.int IntKind.i64 i), (8, AV.int IntKind.i64 (↑xs.length : Int)), (19, AV.int IntKind.i64 (↑xs.length : Int)), (18, AV.hc 0 0 xs.length c), (16, AV.bool false), (15, AV.int IntKind.i64 (1 : Int)), (7, AV.int IntKind.i64 (1 : Int)), (14, AV.int IntKind.i64 (1 : Int)), (13, AV.hw 1), (12, AV.hc 0 i.toNat (xs.length - i.toNat) (cutCap c (some i.toNat))), (11, AV.int IntKind.i64 i), (10, AV.hc 0 0 xs.length c), (6, AV.hw 2), (0, AV.hc 0 0 xs.length c), (1, AV.int IntKind.i64 i), (2, AV.hw 1)], objs := [(2, AObj.arr 3 ((Ty.int IntKind.i64).pair ((Ty.int IntKind.i64).pair (Ty.int IntKind.i64))) [] []), (0, AObj.arr 3 ((Ty.int IntKind.i64).pair ((Ty.int IntKind.i64).pair (Ty.int IntKind.i64))) xs []), (1, AObj.arr 3 Ty.bool [] [[AV.int IntKind.i64 r.fst, AV.int IntKind.i64 r.snd.fst, AV.int IntKind.i64 r.snd.snd]])], nx := 3 }
theorem ins2_ev {R : Type} (xs : List Row3) (i : Int) (r : Row3) (c : Nat) (K : Ex → St → Option R) : ev (env consA3) H.ins2 2 (LPof []) (preC 1 (sufC 7 B.slices_Insert_dedup_Row_dedup_Row)) (insN xs i r c) K = bif decide ((0 : Int) ≤ IntKind.i64.wrap ((↑xs.length : Int) + (1 : Int))) && decide (IntKind.i64.wrap ((↑xs.length : Int) + (1 : Int)) ≤ (↑xs.length : Int)) then K Ex.normal { slots := [(0, AV.hc 0 0 (IntKind.i64.wrap ((↑xs.length : Int) + (1 : Int))).toNat c), (60, AV.hc 0 0 (IntKind.i64.wrap ((↑xs.length : Int) + (1 : Int))).toNat c), (59, AV.int IntKind.i64 (IntKind.i64.wrap ((↑xs.length : Int) + (1 : Int)))), (58, AV.int IntKind.i64 (1 : Int)), (57, AV.int IntKind.i64 (↑xs.length : Int)), (56, AV.hc 0 0 xs.length c), (31, AV.bool (decide (IntKind.i64.wrap ((↑xs.length : Int) + (1 : Int)) > (↑c : Int)))), (30, AV.int IntKind.i64 (↑c : Int)), (29, AV.hc 0 0 xs.length c), (28, AV.int IntKind.i64 (IntKind.i64.wrap ((↑xs.length : Int) + (1 : Int)))), (27, AV.int IntKind.i64 (1 : Int)), (26, AV.int IntKind.i64 (↑xs.length : Int)), (22, AV.bool (i == (↑xs.length : Int))), (21, AV.int IntKind.i64 (↑xs.length : Int)), (20, AV.int IntKind.i64 i), (8, AV.int IntKind.i64 (↑xs.length : Int)), (19, AV.int IntKind.i64 (↑xs.length : Int)), (18, AV.hc 0 0 xs.length c), (16, AV.bool false), (15, AV.int IntKind.i64 (1 : Int)), (7, AV.int IntKind.i64 (1 : Int)), (14, AV.int IntKind.i64 (1 : Int)), (13, AV.hw 1), (12, AV.hc 0 i.toNat (xs.length - i.toNat) (cutCap c (some i.toNat))), (11, AV.int IntKind.i64 i), (10, AV.hc 0 0 xs.length c), (6, AV.hw 2), (0, AV.hc 0 0 xs.length c), (1, AV.int IntKind.i64 i), (2, AV.hw 1)], objs := [(2, AObj.arr 3 ((Ty.int IntKind.i64).pair ((Ty.int IntKind.i64).pair (Ty.int IntKind.i64))) [] []), (0, AObj.arr 3 ((Ty.int IntKind.i64).pair ((Ty.int IntKind.i64).pair (Ty.int IntKind.i64))) xs []), (1, AObj.arr 3 Ty.bool [] [[AV.int IntKind.i64 r.fst, AV.int IntKind.i64 r.snd.fst, AV.int IntKind.i64 r.snd.snd]])], nx := 3 } else bif decide (IntKind.i64.wrap ((↑xs.length : Int) + (1 : Int)) = (↑xs.length : Int) + (1 : Int)) && decide (xs.length + 1 ≤ c) && decide (0 + xs.length = xs.length) && decide (xs.length < 9223372036854775807) && true then K Ex.normal { slots := [(0, AV.hc 3 0 (xs.length + 1) c), (60, AV.hc 3 0 (xs.length + 1) c), (59, AV.int IntKind.i64 (IntKind.i64.wrap ((↑xs.length : Int) + (1 : Int)))), (58, AV.int IntKind.i64 (1 : Int)), (57, AV.int IntKind.i64 (↑xs.length : Int)), (56, AV.hc 0 0 xs.length c), (31, AV.bool (decide (IntKind.i64.wrap ((↑xs.length : Int) + (1 : Int)) > (↑c : Int)))), (30, AV.int IntKind.i64 (↑c : Int)), (29, AV.hc 0 0 xs.length c), (28, AV.int IntKind.i64 (IntKind.i64.wrap ((↑xs.length : Int) + (1 : Int)))), (27, AV.int IntKind.i64 (1 : Int)), (26, AV.int IntKind.i64 (↑xs.length : Int)), (22, AV.bool (i == (↑xs.length : Int))), (21, AV.int IntKind.i64 (↑xs.length : Int)), (20, AV.int IntKind.i64 i), (8, AV.int IntKind.i64 (↑xs.length : Int)), (19, AV.int IntKind.i64 (↑xs.length : Int)), (18, AV.hc 0 0 xs.length c), (16, AV.bool false), (15, AV.int IntKind.i64 (1 : Int)), (7, AV.int IntKind.i64 (1 : Int)), (14, AV.int IntKind.i64 (1 : Int)), (13, AV.hw 1), (12, AV.hc 0 i.toNat (xs.length - i.toNat) (cutCap c (some i.toNat))), (11, AV.int IntKind.i64 i), (10, AV.hc 0 0 xs.length c), (6, AV.hw 2), (0, AV.hc 0 0 xs.length c), (1, AV.int IntKind.i64 i), (2, AV.hw 1)], objs := [(3, AObj.arr 3 ((Ty.int IntKind.i64).pair ((Ty.int IntKind.i64).pair (Ty.int IntKind.i64))) xs [[AV.undef, AV.undef, AV.undef]]), (0, AObj.dead), (2, AObj.arr 3 ((Ty.int IntKind.i64).pair ((Ty.int IntKind.i64).pair (Ty.int IntKind.i64))) [] []), (0, AObj.arr 3 ((Ty.int IntKind.i64).pair ((Ty.int IntKind.i64).pair (Ty.int IntKind.i64))) xs []), (1, AObj.arr 3 Ty.bool [] [[AV.int IntKind.i64 r.fst, AV.int IntKind.i64 r.snd.fst, AV.int IntKind.i64 r.snd.snd]])], nx := 4 } else none := by kernel_rfl

end Go.Sim.XD
namespace Go.Sim.XD
set_option linter.unusedSimpArgs false
set_option linter.unusedVariables false
set_option maxRecDepth 10000
def insM (xs : List Row3) (i : Int) (r : Row3) (c : Nat) : St := { slots := [(0, AV.hc 3 0 (xs.length + 1) c), (60, AV.hc 3 0 (xs.length + 1) c), (59, AV.int IntKind.i64 (IntKind.i64.wrap ((↑xs.length : Int) + (1 : Int)))), (58, AV.int IntKind.i64 (1 : Int)), (57, AV.int IntKind.i64 (↑xs.length : Int)), (56, AV.hc 0 0 xs.length c), (31, AV.bool (decide (IntKind.i64.wrap ((↑xs.length : Int) + (1 : Int)) > (↑c : Int)))), (30, AV.int IntKind.i64 (↑c : Int)), (29, AV.hc 0 0 xs.length c), (28, AV.int IntKind.i64 (IntKind.i64.wrap ((↑xs.length : Int) + (1 : Int)))), (27, AV.int IntKind.i64 (1 : Int)), (26, AV.int IntKind.i64 (↑xs.length : Int)), (22, AV.bool (i == (↑xs.length : Int))), (21, AV.int IntKind.i64 (↑xs.length : Int)), (20, AV.int IntKind.i64 i), (8, AV.int IntKind.i64 (↑xs.length : Int)), (19, AV.int IntKind.i64 (↑xs.length : Int)), (18, AV.hc 0 0 xs.length c), (16, AV.bool false), (15, AV.int IntKind.i64 (1 : Int)), (7, AV.int IntKind.i64 (1 : Int)), (14, AV.int IntKind.i64 (1 : Int)), (13, AV.hw 1), (12, AV.hc 0 i.toNat (xs.length - i.toNat) (cutCap c (some i.toNat))), (11, AV.int IntKind.i64 i), (10, AV.hc 0 0 xs.length c), (6, AV.hw 2), (0, AV.hc 0 0 xs.length c), (1, AV.int IntKind.i64 i), (2, AV.hw 1)], objs := [(3, AObj.arr 3 ((Ty.int IntKind.i64).pair ((Ty.int IntKind.i64).pair (Ty.int IntKind.i64))) xs [[AV.undef, AV.undef, AV.undef]]), (0, AObj.dead), (2, AObj.arr 3 ((Ty.int IntKind.i64).pair ((Ty.int IntKind.i64).pair (Ty.int IntKind.i64))) [] []), (0, AObj.arr 3 ((Ty.int IntKind.i64).pair ((Ty.int IntKind.i64).pair (Ty.int IntKind.i64))) xs []), (1, AObj.arr 3 Ty.bool [] [[AV.int IntKind.i64 r.fst, AV.int IntKind.i64 r.snd.fst, AV.int IntKind.i64 r.snd.snd]])], nx := 4 }
theorem ins3_ev {R : Type} (xs : List Row3) (i : Int) (r : Row3) (c : Nat) (K : Ex → St → Option R) : ev (env consA3) H.ins2 2 (LPof []) (sufC 8 B.slices_Insert_dedup_Row_dedup_Row) (insM xs i r c) K = bif decide ((0 : Int) ≤ IntKind.i64.wrap (i + (1 : Int))) && decide (IntKind.i64.wrap (i + (1 : Int)) ≤ (↑(xs.length + 1) : Int)) then bif decide (0 < cutCap c (some (IntKind.i64.wrap (i + (1 : Int))).toNat)) then bif decide ((0 : Int) ≤ IntKind.i64.wrap (i + (1 : Int))) && decide (IntKind.i64.wrap (i + (1 : Int)) ≤ (↑(xs.length + 1) : Int)) then bif decide ((0 : Int) ≤ i) && decide (i ≤ (↑(xs.length + 1) : Int)) then bif decide ((IntKind.i64.wrap (i + (1 : Int))).toNat + (xs.length + 1 - (IntKind.i64.wrap (i + (1 : Int))).toNat) = xs.length + 1) && decide ((IntKind.i64.wrap (i + (1 : Int))).toNat ≤ xs.length) && decide (i.toNat + (xs.length + 1 - (IntKind.i64.wrap (i + (1 : Int))).toNat) ≤ xs.length) && decide (xs.length + 1 - (IntKind.i64.wrap (i + (1 : Int))).toNat ≤ xs.length + 1 - i.toNat) then bif decide ((0 : Int) ≤ i) && decide (i ≤ (↑(xs.length + 1) : Int)) then bif decide (1 ≤ xs.length + 1 - i.toNat) && decide (i.toNat + 1 ≤ (List.take xs.length (List.take (IntKind.i64.wrap (i + (1 : Int))).toNat xs ++ List.take (xs.length + 1 - (IntKind.i64.wrap (i + (1 : Int))).toNat) (List.drop i.toNat xs))).length) then bif decide (xs.length + 1 = (List.take i.toNat (List.take xs.length (List.take (IntKind.i64.wrap (i + (1 : Int))).toNat xs ++ List.take (xs.length + 1 - (IntKind.i64.wrap (i + (1 : Int))).toNat) (List.drop i.toNat xs))) ++ [r] ++ List.drop (i.toNat + 1) (List.take xs.length (List.take (IntKind.i64.wrap (i + (1 : Int))).toNat xs ++ List.take (xs.length + 1 - (IntKind.i64.wrap (i + (1 : Int))).toNat) (List.drop i.toNat xs)))).length + 1) && decide (0 < c) then K Ex.ret { slots := [(6, AV.hw 4), (83, AV.hw 3), (82, AV.int IntKind.i64 (1 : Int)), (81, AV.hw 1), (80, AV.hc 3 i.toNat (xs.length + 1 - i.toNat) (cutCap c (some i.toNat))), (79, AV.int IntKind.i64 i), (78, AV.hc 3 0 (xs.length + 1) c), (77, AV.int IntKind.i64 (↑(xs.length + 1 - (IntKind.i64.wrap (i + (1 : Int))).toNat) : Int)), (76, AV.hc 3 i.toNat (xs.length + 1 - i.toNat) (cutCap c (some i.toNat))), (75, AV.int IntKind.i64 i), (74, AV.hc 3 0 (xs.length + 1) c), (73, AV.hc 3 (IntKind.i64.wrap (i + (1 : Int))).toNat (xs.length + 1 - (IntKind.i64.wrap (i + (1 : Int))).toNat) (cutCap c (some (IntKind.i64.wrap (i + (1 : Int))).toNat))), (72, AV.int IntKind.i64 (IntKind.i64.wrap (i + (1 : Int)))), (71, AV.int IntKind.i64 (1 : Int)), (70, AV.int IntKind.i64 i), (69, AV.hc 3 0 (xs.length + 1) c), (68, AV.bool true), (67, AV.bool false), (66, AV.hc 3 (IntKind.i64.wrap (i + (1 : Int))).toNat (xs.length + 1 - (IntKind.i64.wrap (i + (1 : Int))).toNat) (cutCap c (some (IntKind.i64.wrap (i + (1 : Int))).toNat))), (65, AV.int IntKind.i64 (IntKind.i64.wrap (i + (1 : Int)))), (64, AV.int IntKind.i64 (1 : Int)), (63, AV.int IntKind.i64 i), (62, AV.hc 3 0 (xs.length + 1) c), (61, AV.hw 1), (0, AV.hc 3 0 (xs.length + 1) c), (60, AV.hc 3 0 (xs.length + 1) c), (59, AV.int IntKind.i64 (IntKind.i64.wrap ((↑xs.length : Int) + (1 : Int)))), (58, AV.int IntKind.i64 (1 : Int)), (57, AV.int IntKind.i64 (↑xs.length : Int)), (56, AV.hc 0 0 xs.length c), (31, AV.bool (decide (IntKind.i64.wrap ((↑xs.length : Int) + (1 : Int)) > (↑c : Int)))), (30, AV.int IntKind.i64 (↑c : Int)), (29, AV.hc 0 0 xs.length c), (28, AV.int IntKind.i64 (IntKind.i64.wrap ((↑xs.length : Int) + (1 : Int)))), (27, AV.int IntKind.i64 (1 : Int)), (26, AV.int IntKind.i64 (↑xs.length : Int)), (22, AV.bool (i == (↑xs.length : Int))), (21, AV.int IntKind.i64 (↑xs.length : Int)), (20, AV.int IntKind.i64 i), (8, AV.int IntKind.i64 (↑xs.length : Int)), (19, AV.int IntKind.i64 (↑xs.length : Int)), (18, AV.hc 0 0 xs.length c), (16, AV.bool false), (15, AV.int IntKind.i64 (1 : Int)), (7, AV.int IntKind.i64 (1 : Int)), (14, AV.int IntKind.i64 (1 : Int)), (13, AV.hw 1), (12, AV.hc 0 i.toNat (xs.length - i.toNat) (cutCap c (some i.toNat))), (11, AV.int IntKind.i64 i), (10, AV.hc 0 0 xs.length c), (6, AV.hw 2), (0, AV.hc 0 0 xs.length c), (1, AV.int IntKind.i64 i), (2, AV.hw 1)], objs := [(4, AObj.arr 3 ((Ty.int IntKind.i64).pair ((Ty.int IntKind.i64).pair (Ty.int IntKind.i64))) (List.take i.toNat (List.take xs.length (List.take (IntKind.i64.wrap (i + (1 : Int))).toNat xs ++ List.take (xs.length + 1 - (IntKind.i64.wrap (i + (1 : Int))).toNat) (List.drop i.toNat xs))) ++ [r] ++ List.drop (i.toNat + 1) (List.take xs.length (List.take (IntKind.i64.wrap (i + (1 : Int))).toNat xs ++ List.take (xs.length + 1 - (IntKind.i64.wrap (i + (1 : Int))).toNat) (List.drop i.toNat xs))) ++ [(List.take (IntKind.i64.wrap (i + (1 : Int))).toNat xs ++ List.take (xs.length + 1 - (IntKind.i64.wrap (i + (1 : Int))).toNat) (List.drop i.toNat xs)).getD xs.length ((Ty.int IntKind.i64).pair ((Ty.int IntKind.i64).pair (Ty.int IntKind.i64))).zero]) []), (3, AObj.dead), (3, AObj.arr 3 ((Ty.int IntKind.i64).pair ((Ty.int IntKind.i64).pair (Ty.int IntKind.i64))) (List.take i.toNat (List.take xs.length (List.take (IntKind.i64.wrap (i + (1 : Int))).toNat xs ++ List.take (xs.length + 1 - (IntKind.i64.wrap (i + (1 : Int))).toNat) (List.drop i.toNat xs))) ++ [r] ++ List.drop (i.toNat + 1) (List.take xs.length (List.take (IntKind.i64.wrap (i + (1 : Int))).toNat xs ++ List.take (xs.length + 1 - (IntKind.i64.wrap (i + (1 : Int))).toNat) (List.drop i.toNat xs)))) [[AV.int IntKind.i64 ((List.take (IntKind.i64.wrap (i + (1 : Int))).toNat xs ++ List.take (xs.length + 1 - (IntKind.i64.wrap (i + (1 : Int))).toNat) (List.drop i.toNat xs)).getD xs.length ((Ty.int IntKind.i64).pair ((Ty.int IntKind.i64).pair (Ty.int IntKind.i64))).zero).fst, AV.int IntKind.i64 ((List.take (IntKind.i64.wrap (i + (1 : Int))).toNat xs ++ List.take (xs.length + 1 - (IntKind.i64.wrap (i + (1 : Int))).toNat) (List.drop i.toNat xs)).getD xs.length ((Ty.int IntKind.i64).pair ((Ty.int IntKind.i64).pair (Ty.int IntKind.i64))).zero).snd.fst, AV.int IntKind.i64 ((List.take (IntKind.i64.wrap (i + (1 : Int))).toNat xs ++ List.take (xs.length + 1 - (IntKind.i64.wrap (i + (1 : Int))).toNat) (List.drop i.toNat xs)).getD xs.length ((Ty.int IntKind.i64).pair ((Ty.int IntKind.i64).pair (Ty.int IntKind.i64))).zero).snd.snd]]), (3, AObj.arr 3 ((Ty.int IntKind.i64).pair ((Ty.int IntKind.i64).pair (Ty.int IntKind.i64))) (List.take xs.length (List.take (IntKind.i64.wrap (i + (1 : Int))).toNat xs ++ List.take (xs.length + 1 - (IntKind.i64.wrap (i + (1 : Int))).toNat) (List.drop i.toNat xs))) [[AV.int IntKind.i64 ((List.take (IntKind.i64.wrap (i + (1 : Int))).toNat xs ++ List.take (xs.length + 1 - (IntKind.i64.wrap (i + (1 : Int))).toNat) (List.drop i.toNat xs)).getD xs.length ((Ty.int IntKind.i64).pair ((Ty.int IntKind.i64).pair (Ty.int IntKind.i64))).zero).fst, AV.int IntKind.i64 ((List.take (IntKind.i64.wrap (i + (1 : Int))).toNat xs ++ List.take (xs.length + 1 - (IntKind.i64.wrap (i + (1 : Int))).toNat) (List.drop i.toNat xs)).getD xs.length ((Ty.int IntKind.i64).pair ((Ty.int IntKind.i64).pair (Ty.int IntKind.i64))).zero).snd.fst, AV.int IntKind.i64 ((List.take (IntKind.i64.wrap (i + (1 : Int))).toNat xs ++ List.take (xs.length + 1 - (IntKind.i64.wrap (i + (1 : Int))).toNat) (List.drop i.toNat xs)).getD xs.length ((Ty.int IntKind.i64).pair ((Ty.int IntKind.i64).pair (Ty.int IntKind.i64))).zero).snd.snd]]), (3, AObj.arr 3 ((Ty.int IntKind.i64).pair ((Ty.int IntKind.i64).pair (Ty.int IntKind.i64))) xs [[AV.undef, AV.undef, AV.undef]]), (0, AObj.dead), (2, AObj.arr 3 ((Ty.int IntKind.i64).pair ((Ty.int IntKind.i64).pair (Ty.int IntKind.i64))) [] []), (0, AObj.arr 3 ((Ty.int IntKind.i64).pair ((Ty.int IntKind.i64).pair (Ty.int IntKind.i64))) xs []), (1, AObj.arr 3 Ty.bool [] [[AV.int IntKind.i64 r.fst, AV.int IntKind.i64 r.snd.fst, AV.int IntKind.i64 r.snd.snd]])], nx := 5 } else none else none else none else none else none else none else none else none := by kernel_rfl

end Go.Sim.XD
namespace Go.Sim.XD
set_option linter.unusedSimpArgs false
set_option linter.unusedVariables false
set_option maxRecDepth 10000
def insR3 (xs : List Row3) (i : Int) (r : Row3) (c : Nat) : St := { slots := [(6, AV.hw 4), (83, AV.hw 3), (82, AV.int IntKind.i64 (1 : Int)), (81, AV.hw 1), (80, AV.hc 3 i.toNat (xs.length + 1 - i.toNat) (cutCap c (some i.toNat))), (79, AV.int IntKind.i64 i), (78, AV.hc 3 0 (xs.length + 1) c), (77, AV.int IntKind.i64 (↑(xs.length + 1 - (IntKind.i64.wrap (i + (1 : Int))).toNat) : Int)), (76, AV.hc 3 i.toNat (xs.length + 1 - i.toNat) (cutCap c (some i.toNat))), (75, AV.int IntKind.i64 i), (74, AV.hc 3 0 (xs.length + 1) c), (73, AV.hc 3 (IntKind.i64.wrap (i + (1 : Int))).toNat (xs.length + 1 - (IntKind.i64.wrap (i + (1 : Int))).toNat) (cutCap c (some (IntKind.i64.wrap (i + (1 : Int))).toNat))), (72, AV.int IntKind.i64 (IntKind.i64.wrap (i + (1 : Int)))), (71, AV.int IntKind.i64 (1 : Int)), (70, AV.int IntKind.i64 i), (69, AV.hc 3 0 (xs.length + 1) c), (68, AV.bool true), (67, AV.bool false), (66, AV.hc 3 (IntKind.i64.wrap (i + (1 : Int))).toNat (xs.length + 1 - (IntKind.i64.wrap (i + (1 : Int))).toNat) (cutCap c (some (IntKind.i64.wrap (i + (1 : Int))).toNat))), (65, AV.int IntKind.i64 (IntKind.i64.wrap (i + (1 : Int)))), (64, AV.int IntKind.i64 (1 : Int)), (63, AV.int IntKind.i64 i), (62, AV.hc 3 0 (xs.length + 1) c), (61, AV.hw 1), (0, AV.hc 3 0 (xs.length + 1) c), (60, AV.hc 3 0 (xs.length + 1) c), (59, AV.int IntKind.i64 (IntKind.i64.wrap ((↑xs.length : Int) + (1 : Int)))), (58, AV.int IntKind.i64 (1 : Int)), (57, AV.int IntKind.i64 (↑xs.length : Int)), (56, AV.hc 0 0 xs.length c), (31, AV.bool (decide (IntKind.i64.wrap ((↑xs.length : Int) + (1 : Int)) > (↑c : Int)))), (30, AV.int IntKind.i64 (↑c : Int)), (29, AV.hc 0 0 xs.length c), (28, AV.int IntKind.i64 (IntKind.i64.wrap ((↑xs.length : Int) + (1 : Int)))), (27, AV.int IntKind.i64 (1 : Int)), (26, AV.int IntKind.i64 (↑xs.length : Int)), (22, AV.bool (i == (↑xs.length : Int))), (21, AV.int IntKind.i64 (↑xs.length : Int)), (20, AV.int IntKind.i64 i), (8, AV.int IntKind.i64 (↑xs.length : Int)), (19, AV.int IntKind.i64 (↑xs.length : Int)), (18, AV.hc 0 0 xs.length c), (16, AV.bool false), (15, AV.int IntKind.i64 (1 : Int)), (7, AV.int IntKind.i64 (1 : Int)), (14, AV.int IntKind.i64 (1 : Int)), (13, AV.hw 1), (12, AV.hc 0 i.toNat (xs.length - i.toNat) (cutCap c (some i.toNat))), (11, AV.int IntKind.i64 i), (10, AV.hc 0 0 xs.length c), (6, AV.hw 2), (0, AV.hc 0 0 xs.length c), (1, AV.int IntKind.i64 i), (2, AV.hw 1)], objs := [(4, AObj.arr 3 ((Ty.int IntKind.i64).pair ((Ty.int IntKind.i64).pair (Ty.int IntKind.i64))) (List.take i.toNat (List.take xs.length (List.take (IntKind.i64.wrap (i + (1 : Int))).toNat xs ++ List.take (xs.length + 1 - (IntKind.i64.wrap (i + (1 : Int))).toNat) (List.drop i.toNat xs))) ++ [r] ++ List.drop (i.toNat + 1) (List.take xs.length (List.take (IntKind.i64.wrap (i + (1 : Int))).toNat xs ++ List.take (xs.length + 1 - (IntKind.i64.wrap (i + (1 : Int))).toNat) (List.drop i.toNat xs))) ++ [(List.take (IntKind.i64.wrap (i + (1 : Int))).toNat xs ++ List.take (xs.length + 1 - (IntKind.i64.wrap (i + (1 : Int))).toNat) (List.drop i.toNat xs)).getD xs.length ((Ty.int IntKind.i64).pair ((Ty.int IntKind.i64).pair (Ty.int IntKind.i64))).zero]) []), (3, AObj.dead), (3, AObj.arr 3 ((Ty.int IntKind.i64).pair ((Ty.int IntKind.i64).pair (Ty.int IntKind.i64))) (List.take i.toNat (List.take xs.length (List.take (IntKind.i64.wrap (i + (1 : Int))).toNat xs ++ List.take (xs.length + 1 - (IntKind.i64.wrap (i + (1 : Int))).toNat) (List.drop i.toNat xs))) ++ [r] ++ List.drop (i.toNat + 1) (List.take xs.length (List.take (IntKind.i64.wrap (i + (1 : Int))).toNat xs ++ List.take (xs.length + 1 - (IntKind.i64.wrap (i + (1 : Int))).toNat) (List.drop i.toNat xs)))) [[AV.int IntKind.i64 ((List.take (IntKind.i64.wrap (i + (1 : Int))).toNat xs ++ List.take (xs.length + 1 - (IntKind.i64.wrap (i + (1 : Int))).toNat) (List.drop i.toNat xs)).getD xs.length ((Ty.int IntKind.i64).pair ((Ty.int IntKind.i64).pair (Ty.int IntKind.i64))).zero).fst, AV.int IntKind.i64 ((List.take (IntKind.i64.wrap (i + (1 : Int))).toNat xs ++ List.take (xs.length + 1 - (IntKind.i64.wrap (i + (1 : Int))).toNat) (List.drop i.toNat xs)).getD xs.length ((Ty.int IntKind.i64).pair ((Ty.int IntKind.i64).pair (Ty.int IntKind.i64))).zero).snd.fst, AV.int IntKind.i64 ((List.take (IntKind.i64.wrap (i + (1 : Int))).toNat xs ++ List.take (xs.length + 1 - (IntKind.i64.wrap (i + (1 : Int))).toNat) (List.drop i.toNat xs)).getD xs.length ((Ty.int IntKind.i64).pair ((Ty.int IntKind.i64).pair (Ty.int IntKind.i64))).zero).snd.snd]]), (3, AObj.arr 3 ((Ty.int IntKind.i64).pair ((Ty.int IntKind.i64).pair (Ty.int IntKind.i64))) (List.take xs.length (List.take (IntKind.i64.wrap (i + (1 : Int))).toNat xs ++ List.take (xs.length + 1 - (IntKind.i64.wrap (i + (1 : Int))).toNat) (List.drop i.toNat xs))) [[AV.int IntKind.i64 ((List.take (IntKind.i64.wrap (i + (1 : Int))).toNat xs ++ List.take (xs.length + 1 - (IntKind.i64.wrap (i + (1 : Int))).toNat) (List.drop i.toNat xs)).getD xs.length ((Ty.int IntKind.i64).pair ((Ty.int IntKind.i64).pair (Ty.int IntKind.i64))).zero).fst, AV.int IntKind.i64 ((List.take (IntKind.i64.wrap (i + (1 : Int))).toNat xs ++ List.take (xs.length + 1 - (IntKind.i64.wrap (i + (1 : Int))).toNat) (List.drop i.toNat xs)).getD xs.length ((Ty.int IntKind.i64).pair ((Ty.int IntKind.i64).pair (Ty.int IntKind.i64))).zero).snd.fst, AV.int IntKind.i64 ((List.take (IntKind.i64.wrap (i + (1 : Int))).toNat xs ++ List.take (xs.length + 1 - (IntKind.i64.wrap (i + (1 : Int))).toNat) (List.drop i.toNat xs)).getD xs.length ((Ty.int IntKind.i64).pair ((Ty.int IntKind.i64).pair (Ty.int IntKind.i64))).zero).snd.snd]]), (3, AObj.arr 3 ((Ty.int IntKind.i64).pair ((Ty.int IntKind.i64).pair (Ty.int IntKind.i64))) xs [[AV.undef, AV.undef, AV.undef]]), (0, AObj.dead), (2, AObj.arr 3 ((Ty.int IntKind.i64).pair ((Ty.int IntKind.i64).pair (Ty.int IntKind.i64))) [] []), (0, AObj.arr 3 ((Ty.int IntKind.i64).pair ((Ty.int IntKind.i64).pair (Ty.int IntKind.i64))) xs []), (1, AObj.arr 3 Ty.bool [] [[AV.int IntKind.i64 r.fst, AV.int IntKind.i64 r.snd.fst, AV.int IntKind.i64 r.snd.snd]])], nx := 5 }
abbrev insOut : List OPat := [.dead, .box 3 [[.int .i64, .int .i64, .int .i64]], .arr 3 rowT []]
noncomputable def insFin (e : Ex) (s : St) : Option ((Pat.lit (.hw 2)).den × opatsDen insOut) := match e with
  | .exit _ => none
  | _ => (resultsOf (env consA3) s F.slices_Insert_dedup_Row_dedup_Row.results.toList).bind fun vs => finV (.lit (.hw 2)) insOut 2 (oneOr vs) s
theorem fin1_ev (xs : List Row3) (i : Int) (r : Row3) (c : Nat) : insFin .ret (insR1 xs i r c) = some ((), (), ((r.fst, r.snd.fst, r.snd.snd, ()), ()), (List.take xs.length xs ++ [r], ()), ()) := by kernel_rfl

theorem fin2_ev (xs : List Row3) (i : Int) (r : Row3) (c : Nat) : insFin .ret (insR2 xs i r c) = some ((), (), ((r.fst, r.snd.fst, r.snd.snd, ()), ()), (List.take (IntKind.i64.wrap (i + (1 : Int))).toNat (List.take i.toNat (List.take i.toNat xs ++ List.replicate (IntKind.i64.wrap (IntKind.i64.wrap ((↑xs.length : Int) + (1 : Int)) - i)).toNat ((Ty.int IntKind.i64).pair ((Ty.int IntKind.i64).pair (Ty.int IntKind.i64))).zero) ++ [r] ++ List.drop (i.toNat + 1) (List.take i.toNat xs ++ List.replicate (IntKind.i64.wrap (IntKind.i64.wrap ((↑xs.length : Int) + (1 : Int)) - i)).toNat ((Ty.int IntKind.i64).pair ((Ty.int IntKind.i64).pair (Ty.int IntKind.i64))).zero)) ++ List.drop i.toNat xs ++ List.drop ((IntKind.i64.wrap (i + (1 : Int))).toNat + (List.drop i.toNat xs).length) (List.take i.toNat (List.take i.toNat xs ++ List.replicate (IntKind.i64.wrap (IntKind.i64.wrap ((↑xs.length : Int) + (1 : Int)) - i)).toNat ((Ty.int IntKind.i64).pair ((Ty.int IntKind.i64).pair (Ty.int IntKind.i64))).zero) ++ [r] ++ List.drop (i.toNat + 1) (List.take i.toNat xs ++ List.replicate (IntKind.i64.wrap (IntKind.i64.wrap ((↑xs.length : Int) + (1 : Int)) - i)).toNat ((Ty.int IntKind.i64).pair ((Ty.int IntKind.i64).pair (Ty.int IntKind.i64))).zero)), ()), ()) := by kernel_rfl

theorem fin3_ev (xs : List Row3) (i : Int) (r : Row3) (c : Nat) : insFin .ret (insR3 xs i r c) = some ((), (), ((r.fst, r.snd.fst, r.snd.snd, ()), ()), (List.take i.toNat (List.take xs.length (List.take (IntKind.i64.wrap (i + (1 : Int))).toNat xs ++ List.take (xs.length + 1 - (IntKind.i64.wrap (i + (1 : Int))).toNat) (List.drop i.toNat xs))) ++ [r] ++ List.drop (i.toNat + 1) (List.take xs.length (List.take (IntKind.i64.wrap (i + (1 : Int))).toNat xs ++ List.take (xs.length + 1 - (IntKind.i64.wrap (i + (1 : Int))).toNat) (List.drop i.toNat xs))) ++ [(List.take (IntKind.i64.wrap (i + (1 : Int))).toNat xs ++ List.take (xs.length + 1 - (IntKind.i64.wrap (i + (1 : Int))).toNat) (List.drop i.toNat xs)).getD xs.length ((Ty.int IntKind.i64).pair ((Ty.int IntKind.i64).pair (Ty.int IntKind.i64))).zero], ()), ()) := by kernel_rfl

theorem cond_t {α : Type _} {b : Bool} {x y : α} (h : b = true) : cond b x y = x := by rw [h]; rfl
theorem cond_f {α : Type _} {b : Bool} {x y : α} (h : b = false) : cond b x y = y := by rw [h]; rfl
theorem suf_skip : ∀ m, sufC m .skip = .skip
  | 0 => rfl
  | _ + 1 => rfl
theorem suf_suf : ∀ (n m : Nat) (c : Code), sufC m (sufC n c) = sufC (n + m) c
  | 0, m, c => by rw [Nat.zero_add]; rfl
  | n + 1, m, c => by
    rw [show n + 1 + m = (n + m) + 1 by omega]
    cases c <;> first | exact suf_suf n m _ | exact suf_skip m
theorem ins_grow (xs : List Row3) (z r : Row3) (k : Nat) (hk : k ≤ xs.length) : List.take (k + 1) (List.take k (List.take k xs ++ List.replicate (xs.length + 1 - k) z) ++ [r] ++ List.drop (k + 1) (List.take k xs ++ List.replicate (xs.length + 1 - k) z)) ++ List.drop k xs ++
    List.drop (k + 1 + (List.drop k xs).length) (List.take k (List.take k xs ++ List.replicate (xs.length + 1 - k) z) ++ [r] ++ List.drop (k + 1) (List.take k xs ++ List.replicate (xs.length + 1 - k) z)) = putAt xs k k r := by
  have hl : (List.take k xs).length = k := by simp; omega
  have e1 : List.take k (List.take k xs ++ List.replicate (xs.length + 1 - k) z) = List.take k xs := by
    rw [List.take_append_of_le_length (by omega), List.take_take, Nat.min_self]
  have e2 : List.drop (k + 1) (List.take k xs ++ List.replicate (xs.length + 1 - k) z) = List.replicate (xs.length - k) z := by
    rw [List.drop_append, List.drop_of_length_le (by omega), hl, Nat.add_sub_cancel_left, List.drop_replicate, List.nil_append]
    congr 1
    omega
  rw [e1, e2]
  have hl1 : (List.take k xs ++ [r]).length = k + 1 := by rw [List.length_append, hl]; rfl
  have e3 : List.take (k + 1) (List.take k xs ++ [r] ++ List.replicate (xs.length - k) z) = List.take k xs ++ [r] := by
    rw [List.take_append_of_le_length (by omega), List.take_of_length_le (by omega)]
  have e4 : List.drop (k + 1 + (List.drop k xs).length) (List.take k xs ++ [r] ++ List.replicate (xs.length - k) z) = [] :=
    List.drop_of_length_le (by rw [List.length_append, hl1, List.length_replicate, List.length_drop]; omega)
  rw [e3, e4]
  unfold putAt
  simp
theorem ins_move (xs : List Row3) (z r : Row3) (k : Nat) (hk : k < xs.length) : List.take k (List.take xs.length (List.take (k + 1) xs ++ List.take (xs.length + 1 - (k + 1)) (List.drop k xs))) ++ [r] ++
    List.drop (k + 1) (List.take xs.length (List.take (k + 1) xs ++ List.take (xs.length + 1 - (k + 1)) (List.drop k xs))) ++ [(List.take (k + 1) xs ++ List.take (xs.length + 1 - (k + 1)) (List.drop k xs)).getD xs.length z] = putAt xs k k r := by
  have eA : List.take (xs.length + 1 - (k + 1)) (List.drop k xs) = List.drop k xs := List.take_of_length_le (by simp only [List.length_drop]; omega)
  rw [eA]
  have hl : (List.take (k + 1) xs).length = k + 1 := by simp; omega
  obtain ⟨A, hA⟩ : ∃ A, A = List.take (k + 1) xs ++ List.drop k xs := ⟨_, rfl⟩
  have hAl : A.length = xs.length + 1 := by rw [hA, List.length_append, hl, List.length_drop]; omega
  rw [← hA]
  have h1 : List.take k (List.take xs.length A) = List.take k xs := by
    rw [List.take_take, Nat.min_eq_left (by omega), hA, List.take_append_of_le_length (by omega), List.take_take, Nat.min_eq_left (by omega)]
  have h2 : List.take xs.length A ++ [A.getD xs.length z] = A := by
    have hget : A.getD xs.length z = A[xs.length]'(by omega) := by rw [List.getD_eq_getElem?_getD, List.getElem?_eq_getElem (by omega)]; rfl
    rw [hget, List.take_append_getElem, List.take_of_length_le (by omega)]
  have h3 : List.drop (k + 1) (List.take xs.length A) ++ [A.getD xs.length z] = List.drop k xs := by
    have : List.drop (k + 1) (List.take xs.length A ++ [A.getD xs.length z]) = List.drop (k + 1) (List.take xs.length A) ++ [A.getD xs.length z] := List.drop_append_of_le_length (by rw [List.length_take, hAl]; omega)
    rw [← this, h2, hA, List.drop_append, hl, Nat.sub_self, List.drop_of_length_le (by omega)]
    simp
  rw [h1, List.append_assoc, List.append_assoc, h3]
  unfold putAt
  simp
theorem mv_len (A : List Row3) (r : Row3) (n k : Nat) (hA : A.length = n + 1) (hk : k < n) : (List.take k (List.take n A) ++ [r] ++ List.drop (k + 1) (List.take n A)).length = n := by
  simp only [List.length_append, List.length_take, List.length_drop, List.length_cons, List.length_nil, hA]
  omega
theorem ins_val (xs : List Row3) (r : Row3) (c k : Nat) (hk : k ≤ xs.length) (hn : xs.length ≤ 1000000) (hc : xs.length ≤ c) (hM : c ≤ maxL) :
    evFn (env consA3) H.ins2 (LPof []) F.slices_Insert_dedup_Row_dedup_Row [.hc 0 0 xs.length c, .int .i64 (k : Int), .hw 1] [.arr 3 rowT xs [], insObj r] (finV (.lit (.hw 2)) insOut 2) = some ((), (), ((r.1, r.2.1, r.2.2, ()), ()), (putAt xs k k r, ()), ()) := by
  have h0 : evFn (env consA3) H.ins2 (LPof []) F.slices_Insert_dedup_Row_dedup_Row [.hc 0 0 xs.length c, .int .i64 (k : Int), .hw 1] [.arr 3 rowT xs [], insObj r] (finV (.lit (.hw 2)) insOut 2) =
    ev (env consA3) H.ins2 2 (LPof []) B.slices_Insert_dedup_Row_dedup_Row (initSt [.hc 0 0 xs.length c, .int .i64 (k : Int), .hw 1] [.arr 3 rowT xs [], insObj r]) insFin := by
    unfold evFn
    rw [Bd.slices_Insert_dedup_Row_dedup_Row]
    rfl
  have w1 : IntKind.i64.wrap ((xs.length : Int) + 1) = (xs.length : Int) + 1 := wrap64 (by omega) (by omega)
  have w2 : IntKind.i64.wrap ((xs.length : Int) + 1 - (k : Int)) = (xs.length : Int) + 1 - (k : Int) := wrap64 (by omega) (by omega)
  have w3 : IntKind.i64.wrap ((k : Int) + 1) = (k : Int) + 1 := wrap64 (by omega) (by omega)
  have t1 : ((xs.length : Int) + 1 - (k : Int)).toNat = xs.length + 1 - k := by omega
  have t2 : ((k : Int) + 1).toNat = k + 1 := by omega
  rw [h0, ev_cut (by rfl) 7, ins1_ev]
  rw [cond_pos2 (by omega) (by omega)]
  by_cases he : k = xs.length
  · subst he
    rw [show (((xs.length : Int) == (xs.length : Int))) = true by simp, cond_true, cond_pos (by simp; omega)]
    refine (fin1_ev xs (xs.length : Int) r c).trans ?_
    congr 1
    unfold putAt
    simp
  · have hne : ((k : Int) == (xs.length : Int)) = false := by simp; omega
    rw [cond_f hne]
    by_cases hg : xs.length + 1 > c
    · have hl0 : (List.take k xs ++ List.replicate (xs.length + 1 - k) rowT.zero).length = xs.length + 1 := by simp only [List.length_append, List.length_take, List.length_replicate]; omega
      have hd : (List.drop k xs).length = xs.length - k := List.length_drop
      have hl1 : (List.take k (List.take k xs ++ List.replicate (xs.length + 1 - k) rowT.zero) ++ [r] ++ List.drop (k + 1) (List.take k xs ++ List.replicate (xs.length + 1 - k) rowT.zero)).length = xs.length + 1 := by
        rw [List.length_append, List.length_append, List.length_take, List.length_drop, hl0]
        simp only [List.length_cons, List.length_nil]
        omega
      rw [cond_t (by first | (simp only [w1, w2, w3, t1, t2, Int.toNat_natCast, hl0, hl1, hd, decide_true, Bool.and_true, Bool.true_and, Bool.and_eq_true, decide_eq_true_eq]; done) | (simp only [w1, w2, w3, t1, t2, Int.toNat_natCast, hl0, hl1, hd, decide_true, Bool.and_true, Bool.true_and, Bool.and_eq_true, decide_eq_true_eq]; omega)), cond_t (by first | (simp only [w1, w2, w3, t1, t2, Int.toNat_natCast, hl0, hl1, hd, decide_true, Bool.and_true, Bool.true_and, Bool.and_eq_true, decide_eq_true_eq]; done) | (simp only [w1, w2, w3, t1, t2, Int.toNat_natCast, hl0, hl1, hd, decide_true, Bool.and_true, Bool.true_and, Bool.and_eq_true, decide_eq_true_eq]; omega)), cond_t (by first | (simp only [w1, w2, w3, t1, t2, Int.toNat_natCast, hl0, hl1, hd, decide_true, Bool.and_true, Bool.true_and, Bool.and_eq_true, decide_eq_true_eq]; done) | (simp only [w1, w2, w3, t1, t2, Int.toNat_natCast, hl0, hl1, hd, decide_true, Bool.and_true, Bool.true_and, Bool.and_eq_true, decide_eq_true_eq]; omega)), cond_t (by first | (simp only [w1, w2, w3, t1, t2, Int.toNat_natCast, hl0, hl1, hd, decide_true, Bool.and_true, Bool.true_and, Bool.and_eq_true, decide_eq_true_eq]; done) | (simp only [w1, w2, w3, t1, t2, Int.toNat_natCast, hl0, hl1, hd, decide_true, Bool.and_true, Bool.true_and, Bool.and_eq_true, decide_eq_true_eq]; omega)), cond_t (by first | (simp only [w1, w2, w3, t1, t2, Int.toNat_natCast, hl0, hl1, hd, decide_true, Bool.and_true, Bool.true_and, Bool.and_eq_true, decide_eq_true_eq]; done) | (simp only [w1, w2, w3, t1, t2, Int.toNat_natCast, hl0, hl1, hd, decide_true, Bool.and_true, Bool.true_and, Bool.and_eq_true, decide_eq_true_eq]; omega)), cond_t (by first | (simp only [w1, w2, w3, t1, t2, Int.toNat_natCast, hl0, hl1, hd, decide_true, Bool.and_true, Bool.true_and, Bool.and_eq_true, decide_eq_true_eq]; done) | (simp only [w1, w2, w3, t1, t2, Int.toNat_natCast, hl0, hl1, hd, decide_true, Bool.and_true, Bool.true_and, Bool.and_eq_true, decide_eq_true_eq]; omega)), cond_t (by first | (simp only [w1, w2, w3, t1, t2, Int.toNat_natCast, hl0, hl1, hd, decide_true, Bool.and_true, Bool.true_and, Bool.and_eq_true, decide_eq_true_eq]; done) | (simp only [w1, w2, w3, t1, t2, Int.toNat_natCast, hl0, hl1, hd, decide_true, Bool.and_true, Bool.true_and, Bool.and_eq_true, decide_eq_true_eq]; omega)), cond_t (by first | (simp only [w1, w2, w3, t1, t2, Int.toNat_natCast, hl0, hl1, hd, decide_true, Bool.and_true, Bool.true_and, Bool.and_eq_true, decide_eq_true_eq]; done) | (simp only [w1, w2, w3, t1, t2, Int.toNat_natCast, hl0, hl1, hd, decide_true, Bool.and_true, Bool.true_and, Bool.and_eq_true, decide_eq_true_eq]; omega)), cond_t (by first | (simp only [w1, w2, w3, t1, t2, Int.toNat_natCast, hl0, hl1, hd, decide_true, Bool.and_true, Bool.true_and, Bool.and_eq_true, decide_eq_true_eq]; done) | (simp only [w1, w2, w3, t1, t2, Int.toNat_natCast, hl0, hl1, hd, decide_true, Bool.and_true, Bool.true_and, Bool.and_eq_true, decide_eq_true_eq]; omega))]
      refine (fin2_ev xs (k : Int) r c).trans ?_
      simp only [w1, w2, w3, t1, t2, Int.toNat_natCast]
      rw [ins_grow xs _ r k hk]
    · have hA : List.take (xs.length + 1 - (k + 1)) (List.drop k xs) = List.drop k xs := List.take_of_length_le (by simp only [List.length_drop]; omega)
      have hA2 : (List.take xs.length (List.take (k + 1) xs ++ List.drop k xs)).length = xs.length := by simp only [List.length_take, List.length_append, List.length_drop]; omega
      have hA3 : True := trivial
      rw [cond_f (by simp only [w1, decide_eq_false_iff_not]; omega)]
      show ev (env consA3) H.ins2 2 (LPof []) (sufC 7 B.slices_Insert_dedup_Row_dedup_Row) (insN xs (k : Int) r c) insFin = _
      rw [ev_cut (by rfl) 1, ins2_ev, cond_f (by simp only [w1, Bool.and_eq_false_iff, decide_eq_false_iff_not]; omega), cond_t (by first | (simp only [w1, w3, t2, Int.toNat_natCast, hA, hA2, hA3, cutCap, decide_true, Bool.and_true, Bool.true_and, Bool.and_eq_true, decide_eq_true_eq]; done) | (simp only [w1, w3, t2, Int.toNat_natCast, hA, hA2, hA3, cutCap, decide_true, Bool.and_true, Bool.true_and, Bool.and_eq_true, decide_eq_true_eq]; omega))]
      rw [suf_suf]
      show ev (env consA3) H.ins2 2 (LPof []) (sufC 8 B.slices_Insert_dedup_Row_dedup_Row) (insM xs (k : Int) r c) insFin = _
      rw [ins3_ev, cond_t (by first | (simp only [w1, w3, t2, Int.toNat_natCast, hA, hA2, hA3, cutCap, decide_true, Bool.and_true, Bool.true_and, Bool.and_eq_true, decide_eq_true_eq]; done) | (simp only [w1, w3, t2, Int.toNat_natCast, hA, hA2, hA3, cutCap, decide_true, Bool.and_true, Bool.true_and, Bool.and_eq_true, decide_eq_true_eq]; omega)), cond_t (by first | (simp only [w1, w3, t2, Int.toNat_natCast, hA, hA2, hA3, cutCap, decide_true, Bool.and_true, Bool.true_and, Bool.and_eq_true, decide_eq_true_eq]; done) | (simp only [w1, w3, t2, Int.toNat_natCast, hA, hA2, hA3, cutCap, decide_true, Bool.and_true, Bool.true_and, Bool.and_eq_true, decide_eq_true_eq]; omega)), cond_t (by first | (simp only [w1, w3, t2, Int.toNat_natCast, hA, hA2, hA3, cutCap, decide_true, Bool.and_true, Bool.true_and, Bool.and_eq_true, decide_eq_true_eq]; done) | (simp only [w1, w3, t2, Int.toNat_natCast, hA, hA2, hA3, cutCap, decide_true, Bool.and_true, Bool.true_and, Bool.and_eq_true, decide_eq_true_eq]; omega)), cond_t (by first | (simp only [w1, w3, t2, Int.toNat_natCast, hA, hA2, hA3, cutCap, decide_true, Bool.and_true, Bool.true_and, Bool.and_eq_true, decide_eq_true_eq]; done) | (simp only [w1, w3, t2, Int.toNat_natCast, hA, hA2, hA3, cutCap, decide_true, Bool.and_true, Bool.true_and, Bool.and_eq_true, decide_eq_true_eq]; omega)), cond_t (by first | (simp only [w1, w3, t2, Int.toNat_natCast, hA, hA2, hA3, cutCap, decide_true, Bool.and_true, Bool.true_and, Bool.and_eq_true, decide_eq_true_eq]; done) | (simp only [w1, w3, t2, Int.toNat_natCast, hA, hA2, hA3, cutCap, decide_true, Bool.and_true, Bool.true_and, Bool.and_eq_true, decide_eq_true_eq]; omega)), cond_t (by first | (simp only [w1, w3, t2, Int.toNat_natCast, hA, hA2, hA3, cutCap, decide_true, Bool.and_true, Bool.true_and, Bool.and_eq_true, decide_eq_true_eq]; done) | (simp only [w1, w3, t2, Int.toNat_natCast, hA, hA2, hA3, cutCap, decide_true, Bool.and_true, Bool.true_and, Bool.and_eq_true, decide_eq_true_eq]; omega)), cond_t (by first | (simp only [w1, w3, t2, Int.toNat_natCast, hA, hA2, hA3, cutCap, decide_true, Bool.and_true, Bool.true_and, Bool.and_eq_true, decide_eq_true_eq]; done) | (simp only [w1, w3, t2, Int.toNat_natCast, hA, hA2, hA3, cutCap, decide_true, Bool.and_true, Bool.true_and, Bool.and_eq_true, decide_eq_true_eq]; omega))]
      rw [cond_t (by
        rw [Bool.and_eq_true]
        refine ⟨?_, decide_eq_true (by omega)⟩
        rw [decide_eq_true_eq]
        have hml := mv_len (List.take (k + 1) xs ++ List.drop k xs) r xs.length k (by simp only [List.length_append, List.length_take, List.length_drop]; omega) (by omega)
        rw [w3, t2, Int.toNat_natCast, hA]
        rw [hml])]
      refine (fin3_ev xs (k : Int) r c).trans ?_
      simp only [w3, t2, Int.toNat_natCast]
      rw [ins_move xs _ r k (by omega)]
end Go.Sim.XD
namespace Go.Sim.XD
set_option linter.unusedSimpArgs false
set_option linter.unusedVariables false
set_option maxRecDepth 10000
theorem row36 : P0.underlying 104 = some (.slice 145) := by kernel_rfl
theorem size65 (w : World) : (Go.sizeOf 145).run P0 w = .ok 3 w := by
  have h : (P0.info? 145).map (fun x => x.size) = some 3 := by kernel_rfl
  obtain ⟨i0, hi0, h1⟩ := Option.map_eq_some_iff.1 h
  simp [sizeOf, typeInfo, hi0, h1]
theorem apart28 : ApartOK P0 182 := fun w a b la ca lb cb tA tB kA kB h1 h2 h3 h4 h5 h6 => by
  rw [run_callFunc_extern (P := P0) (f := 182) (fn := Proofs.Tryz.f182) Proofs.Tryz.func182 (by kernel_rfl) (by kernel_rfl) (by kernel_rfl) (e := Extern.SlicesOverlaps.overlaps #[104, 104] #[4]) (by kernel_rfl),
    Lib.run_overlaps_apart w 104 4 145 row36 3 size65 a b la ca lb cb h1 tA tB kA kB h2 h3 h4 h5 h6]
  rfl
theorem consA3_ok : ∀ x ∈ consA3, HoldsC P0 x.1 x.2 := by
  intro x hx
  simp at hx
  subst hx
  exact apart28
def caseIns : VCase := ⟨[.lit (.hw 0), .int .i64, .lit (.hw 1)], [.arr 3 rowT [], .box 3 [[.int .i64, .int .i64, .int .i64]]], .lit (.hw 2), insOut,
  fun ⟨_, i, _⟩ ⟨⟨xs, _⟩, ⟨⟨a, b, c, _⟩, _⟩, _⟩ => [(decide (0 ≤ i) && decide (i ≤ (List.length xs : Int)) && decide (List.length xs ≤ 1000000), ((), ((), ((a, b, c, ()), ()), (putAt xs i.toNat i.toNat (a, b, c), ()), ())))]⟩
theorem ins_ok : caseIns.e.ok P0 I.slices_Insert_dedup_Row_dedup_Row := fun ⟨_, i, _, _⟩ ⟨⟨xs, _⟩, ⟨⟨a, b, c, _⟩, _⟩, _⟩ r objs' hxy hw1 hw2 => by
  obtain ⟨z, hz, e0⟩ := pick_mapAlt hxy
  cases e0
  obtain ⟨hc, rfl⟩ := pick_pre hz
  simp only [Bool.and_eq_true, decide_eq_true_eq] at hc
  obtain ⟨k, rfl⟩ := Int.eq_ofNat_of_zero_le hc.1.1
  refine EffGood.of_cap (n := I.slices_Insert_dedup_Row_dedup_Row) (t := rowT) (xs := xs) fun cp h1 h2 => ?_
  exact eff_of_ev (H := H.ins2) (E := env consA3) (env_ok consA3_ok) glob0 mixed0 G.slices_Insert_dedup_Row_dedup_Row Bd.slices_Insert_dedup_Row_dedup_Row (by kernel_rfl) noLoops (out := .lit (.hw 2)) (outs := insOut) (ins_val xs (a, b, c) cp k (Int.ofNat_le.1 hc.1.2) hc.2 h1 h2)
def caseFind1 : PCase := ⟨[.ty rowT, .ty (.int .i64)], [.int .i64], fun x => (fun (r : Row3) (p : Int) => [(true, (cmpI r.1 p, ()))]) x.1 x.2.1⟩
theorem find1_val (r : Row3) (p : Int) : evFn (env consA2) H.dedup_Table_find_1 (LPof []) F.dedup_Table_find_1 [valOf rowT r, .int .i64 p] [] (finT [.int .i64]) = some (cmpI r.1 p, ()) := by
  rw [find1_ev]
theorem find1_ok : caseFind1.ok P0 I.dedup_Table_find_1 := case_ok2 (H := H.dedup_Table_find_1) (E := env consA2) (env_ok consA2_ok) glob0 mixed0 G.dedup_Table_find_1 Bd.dedup_Table_find_1 (by kernel_rfl) noLoops fun ⟨r, p, ()⟩ y h hw => by
  obtain ⟨hc, rfl⟩ := pick_pre h
  exact find1_val r p
noncomputable abbrev consA4 : List (FuncId × Con) := [(I.dedup_Table_find_1, .pure (pureOf [caseFind1]))]
theorem consA4_ok : ∀ x ∈ consA4, HoldsC P0 x.1 x.2 := by
  intro x hx
  simp at hx
  subst hx
  exact ⟨pureOf_holds (by simp; exact find1_ok), C.dedup_Table_find_1⟩
theorem bs_rd {R : Type} (xs : List Row3) (p n i j : Int) (K : Ex → St → Option R) : roundK (env consA4) H.slices_BinarySearchFunc_dedup_Row_dedup_Row_int 1 (LPof []) V.slices_BinarySearchFunc_dedup_Row_dedup_Row_int_3 L.slices_BinarySearchFunc_dedup_Row_dedup_Row_int_3 ⟨[(0, .hw 0), (1, .int .i64 p), (2, .fn (.func I.dedup_Table_find_1) [] []), (8, .int .i64 n), (9, .int .i64 i), (10, .int .i64 j)], [(0, .arr 3 rowT xs [])], 1⟩ K = bif decide (i < j) then bif decide ((0 : Int) ≤ IntKind.i64.wrap ((IntKind.u64.wrap (IntKind.i64.wrap (i + j))).fdiv (2 : Int))) && decide (IntKind.i64.wrap ((IntKind.u64.wrap (IntKind.i64.wrap (i + j))).fdiv (2 : Int)) < (↑xs.length : Int)) then bif decide (cmpI (xs.getD (IntKind.i64.wrap ((IntKind.u64.wrap (IntKind.i64.wrap (i + j))).fdiv (2 : Int))).toNat rowT.zero).fst p < (0 : Int)) then K Ex.normal { slots := [(0, AV.hw 0), (1, AV.int IntKind.i64 p), (2, AV.fn (Fn.func 180) [] []), (8, AV.int IntKind.i64 n), (9, AV.int IntKind.i64 (IntKind.i64.wrap (IntKind.i64.wrap ((IntKind.u64.wrap (IntKind.i64.wrap (i + j))).fdiv (2 : Int)) + (1 : Int)))), (10, AV.int IntKind.i64 j)], objs := [(0, AObj.arr 3 ((Ty.int IntKind.i64).pair ((Ty.int IntKind.i64).pair (Ty.int IntKind.i64))) xs [])], nx := 1 } else K Ex.normal { slots := [(0, AV.hw 0), (1, AV.int IntKind.i64 p), (2, AV.fn (Fn.func 180) [] []), (8, AV.int IntKind.i64 n), (9, AV.int IntKind.i64 i), (10, AV.int IntKind.i64 (IntKind.i64.wrap ((IntKind.u64.wrap (IntKind.i64.wrap (i + j))).fdiv (2 : Int))))], objs := [(0, AObj.arr 3 ((Ty.int IntKind.i64).pair ((Ty.int IntKind.i64).pair (Ty.int IntKind.i64))) xs [])], nx := 1 } else none else K (Ex.exit 0) { slots := [(0, AV.hw 0), (1, AV.int IntKind.i64 p), (2, AV.fn (Fn.func 180) [] []), (8, AV.int IntKind.i64 n), (9, AV.int IntKind.i64 i), (10, AV.int IntKind.i64 j)], objs := [(0, AObj.arr 3 ((Ty.int IntKind.i64).pair ((Ty.int IntKind.i64).pair (Ty.int IntKind.i64))) xs [])], nx := 1 } := by kernel_rfl

def bsSt (xs : List Row3) (p : Int) (i j : Nat) : St := ⟨[(0, .hw 0), (1, .int .i64 p), (2, .fn (.func I.dedup_Table_find_1) [] []), (8, .int .i64 xs.length), (9, .int .i64 i), (10, .int .i64 j)], [(0, .arr 3 rowT xs [])], 1⟩
theorem cmp_lt (a b : Int) : decide (cmpI a b < 0) = decide (a < b) := by
  unfold cmpI
  by_cases h : a < b
  · simp [h]
  · by_cases g : a > b <;> simp [h, g]
theorem cmp_eq (a b : Int) : (cmpI a b == 0) = (a == b) := by
  unfold cmpI
  by_cases h : a < b
  · have : ¬ a = b := by omega
    simp [h, this]
  · by_cases g : a > b
    · have : ¬ a = b := by omega
      simp [h, g, this]
    · have : a = b := by omega
      simp [h, g, this]
theorem bs_rounds {R : Type} (xs : List Row3) (p : Int) (hs : sortedL xs = true) (hn : xs.length ≤ 1000000) (K : Ex → St → Option R) : ∀ (d i j : Nat), j - i ≤ d → i ≤ j → j ≤ xs.length → (∀ a, a < i → (atL xs a).1 < p) → (∀ a, j ≤ a → a < xs.length → p ≤ (atL xs a).1) →
    ∃ m, rounds (env consA4) H.slices_BinarySearchFunc_dedup_Row_dedup_Row_int 1 (LPof []) V.slices_BinarySearchFunc_dedup_Row_dedup_Row_int_3 L.slices_BinarySearchFunc_dedup_Row_dedup_Row_int_3 m (bsSt xs p i j) K = K (.exit 0) (bsSt xs p (posL xs p) (posL xs p)) := by
  intro d
  induction d with
  | zero =>
    intro i j hd hij hj h1 h2
    obtain rfl : i = j := by omega
    have hp := pos_eq hj h1 (fun h => h2 i (Nat.le_refl _) h)
    refine ⟨1, ?_⟩
    rw [rounds_succ']
    refine (bs_rd _ _ _ _ _ _).trans ?_
    rw [cond_neg (by omega), hp]
    rfl
  | succ d ih =>
    intro i j hd hij hj h1 h2
    by_cases hlt : i < j
    · have e1 : IntKind.i64.wrap ((i : Int) + (j : Int)) = (i : Int) + (j : Int) := wrap64 (by omega) (by omega)
      have e2 : IntKind.u64.wrap ((i : Int) + (j : Int)) = (i : Int) + (j : Int) := wrapu64 (by omega) (by omega)
      have e3 : ((i : Int) + (j : Int)).fdiv 2 = (((i + j) / 2 : Nat) : Int) := by rw [Int.fdiv_eq_ediv_of_nonneg _ (by omega)]; omega
      have e4 : IntKind.i64.wrap ((((i + j) / 2 : Nat)) : Int) = (((i + j) / 2 : Nat) : Int) := wrap64 (by omega) (by omega)
      have e5 : IntKind.i64.wrap ((((i + j) / 2 : Nat) : Int) + 1) = (((i + j) / 2 + 1 : Nat) : Int) := by rw [wrap64 (by omega) (by omega)]; omega
      by_cases hc : (atL xs ((i + j) / 2)).1 < p
      · obtain ⟨m, hm⟩ := ih ((i + j) / 2 + 1) j (by omega) (by omega) hj (fun a ha => by
          rcases Nat.lt_or_ge a ((i + j) / 2) with h | h
          · have := sorted_lt hs h (by omega); omega
          · have : a = (i + j) / 2 := by omega
            subst this; exact hc) h2
        refine ⟨m + 1, ?_⟩
        rw [rounds_succ']
        refine (bs_rd _ _ _ _ _ _).trans ?_
        rw [cond_pos (by omega), e1, e2, e3, e4, cond_pos2 (by omega) (by omega), Int.toNat_natCast, cmp_lt, cond_pos (show (xs.getD ((i + j) / 2) rowT.zero).1 < p from hc), e5]
        exact hm
      · obtain ⟨m, hm⟩ := ih i ((i + j) / 2) (by omega) (by omega) (by omega) h1 (fun a ha hx => by
          rcases Nat.lt_or_ge ((i + j) / 2) a with h | h
          · have := sorted_lt hs h hx; omega
          · have : a = (i + j) / 2 := by omega
            subst this; omega)
        refine ⟨m + 1, ?_⟩
        rw [rounds_succ']
        refine (bs_rd _ _ _ _ _ _).trans ?_
        rw [cond_pos (by omega), e1, e2, e3, e4, cond_pos2 (by omega) (by omega), Int.toNat_natCast, cmp_lt, cond_neg (show ¬ (xs.getD ((i + j) / 2) rowT.zero).1 < p from hc)]
        exact hm
    · obtain ⟨m, hm⟩ := ih i j (by omega) hij hj h1 h2
      exact ⟨m, hm⟩
abbrev bsLC : LoopC := LoopC.of ⟨[(0, .lit (.hw 0)), (1, .int .i64), (2, .fn I.dedup_Table_find_1 []), (8, .int .i64), (9, .int .i64), (10, .int .i64)], [.arr 3 rowT []]⟩
    (fun x => decide (x.1.2.2.2.1 = (List.length x.2.1.1 : Int)) && decide (x.1.2.2.2.2.1 = 0) && decide (x.1.2.2.2.2.2.1 = (List.length x.2.1.1 : Int)) && sortedL x.2.1.1 && decide (List.length x.2.1.1 ≤ 1000000))
    fun x => [(true, .exit 0, bsSt x.2.1.1 x.1.2.1 (posL x.2.1.1 x.1.2.1) (posL x.2.1.1 x.1.2.1))]
theorem bs_lok : LoopOK P0 H.slices_BinarySearchFunc_dedup_Row_dedup_Row_int 1 L.slices_BinarySearchFunc_dedup_Row_dedup_Row_int_3 bsLC :=
  loop_ok_of (env_ok consA4_ok) glob0 mixed0 noLoops V.slices_BinarySearchFunc_dedup_Row_dedup_Row_int_3 (by decide) fun ⟨⟨_, p, _, n, i, j, _⟩, ⟨xs, _⟩, _⟩ h hw => by
    simp only [Bool.and_eq_true, decide_eq_true_eq] at h
    obtain ⟨⟨⟨⟨rfl, rfl⟩, rfl⟩, h4⟩, h5⟩ := h
    exact bs_rounds xs p h4 h5 _ (List.length xs) 0 (List.length xs) (by omega) (by omega) (Nat.le_refl _) (fun a ha => absurd ha (Nat.not_lt_zero _)) (fun a h1 h2 => absurd h2 (Nat.not_lt.2 h1))
theorem bs_ev (xs : List Row3) (p : Int) : evFn (env consA4) H.slices_BinarySearchFunc_dedup_Row_dedup_Row_int (LPof [(3, bsLC)]) F.slices_BinarySearchFunc_dedup_Row_dedup_Row_int [.hw 0, .int .i64 p, .fn (.func I.dedup_Table_find_1) [] []] [.arr 3 rowT xs []] (finV (.tup [.int .i64, .bool]) [.arr 3 rowT []] 1) = bif decide ((↑xs.length : Int) = (↑xs.length : Int)) && true && decide ((↑xs.length : Int) = (↑xs.length : Int)) && sortedL xs && decide (xs.length ≤ 1000000) && true then bif decide ((↑(posL xs p) : Int) < (↑xs.length : Int)) then bif decide ((0 : Int) ≤ (↑(posL xs p) : Int)) && decide ((↑(posL xs p) : Int) < (↑xs.length : Int)) then some (((↑(posL xs p) : Int), cmpI (xs.getD (posL xs p) rowT.zero).fst p == (0 : Int), ()), (xs, ()), ()) else none else some (((↑(posL xs p) : Int), false, ()), (xs, ()), ()) else none := by kernel_rfl

def caseBs : VCase := ⟨[.lit (.hw 0), .int .i64, .fn I.dedup_Table_find_1 []], [.arr 3 rowT []], .tup [.int .i64, .bool], [.arr 3 rowT []], fun ⟨_, p, _, ()⟩ ⟨⟨xs, ()⟩, ()⟩ => [(sortedL xs && decide (List.length xs ≤ 1000000), ((((posL xs p : Nat) : Int), hasL xs p, ()), ((xs, ()), ())))]⟩
theorem bs_val (xs : List Row3) (p : Int) (hc : (sortedL xs && decide (List.length xs ≤ 1000000)) = true) : evFn (env consA4) H.slices_BinarySearchFunc_dedup_Row_dedup_Row_int (LPof [(3, bsLC)]) F.slices_BinarySearchFunc_dedup_Row_dedup_Row_int [.hw 0, .int .i64 p, .fn (.func I.dedup_Table_find_1) [] []] [.arr 3 rowT xs []] (finV (.tup [.int .i64, .bool]) [.arr 3 rowT []] 1) = some ((((posL xs p : Nat) : Int), hasL xs p, ()), ((xs, ()), ())) := by
  simp only [Bool.and_eq_true, decide_eq_true_eq] at hc
  rw [bs_ev, hc.1, decide_eq_true hc.2, decide_eq_true rfl]
  simp only [Bool.and_self, cond_true]
  unfold hasL
  by_cases h : posL xs p < xs.length
  · rw [cond_pos (by omega), cond_pos2 (by omega) (by omega), decide_eq_true h, cmp_eq, Bool.true_and]
    rfl
  · rw [cond_neg (by omega), decide_eq_false h, Bool.false_and]
theorem bs_ok : caseBs.e.ok P0 I.slices_BinarySearchFunc_dedup_Row_dedup_Row_int := vcase_ok (c := caseBs) (H := H.slices_BinarySearchFunc_dedup_Row_dedup_Row_int) (E := env consA4) (env_ok consA4_ok) glob0 mixed0 G.slices_BinarySearchFunc_dedup_Row_dedup_Row_int Bd.slices_BinarySearchFunc_dedup_Row_dedup_Row_int (by kernel_rfl) (loops_good (tab := [(3, bsLC)]) (by kernel_rfl) (fun x hx => by simp at hx; subst hx; exact bs_lok)) fun ⟨_, p, _, ()⟩ ⟨⟨xs, ()⟩, ()⟩ r h hw1 hw2 => by
  obtain ⟨hc, rfl⟩ := pick_pre h
  exact bs_val xs p hc
theorem bs0_ev (p : Int) : evFn (env consA4) H.slices_BinarySearchFunc_dedup_Row_dedup_Row_int (loopsF (env consA4) H.slices_BinarySearchFunc_dedup_Row_dedup_Row_int 0 B.slices_BinarySearchFunc_dedup_Row_dedup_Row_int 3) F.slices_BinarySearchFunc_dedup_Row_dedup_Row_int [.nils, .int .i64 p, .fn (.func I.dedup_Table_find_1) [] []] [] (finV (.tup [.int .i64, .bool]) [] 0) = some (((0 : Int), false, ()), ()) := by kernel_rfl

theorem ins0_ev (r : Row3) : evFn (env consA3) H.ins2 (LPof []) F.slices_Insert_dedup_Row_dedup_Row [.nils, .int .i64 0, .hw 0] [insObj r] (finV (.lit (.hw 1)) [.box 3 [[.int .i64, .int .i64, .int .i64]], .arr 3 rowT []] 1) = some ((), ((r.fst, r.snd.fst, r.snd.snd, ()), ()), ([r], ()), ()) := by kernel_rfl

def caseBs0 : VCase := ⟨[.lit .nils, .int .i64, .fn I.dedup_Table_find_1 []], [], .tup [.int .i64, .bool], [], fun ⟨_, p, _, ()⟩ () => [(true, (((0 : Int), false, ()), ()))]⟩
theorem bs0_val (p : Int) : evFn (env consA4) H.slices_BinarySearchFunc_dedup_Row_dedup_Row_int (loopsF (env consA4) H.slices_BinarySearchFunc_dedup_Row_dedup_Row_int 0 B.slices_BinarySearchFunc_dedup_Row_dedup_Row_int 3) F.slices_BinarySearchFunc_dedup_Row_dedup_Row_int [.nils, .int .i64 p, .fn (.func I.dedup_Table_find_1) [] []] [] (finV (.tup [.int .i64, .bool]) [] 0) = some (((0 : Int), false, ()), ()) := by
  exact bs0_ev p
theorem bs0_ok : caseBs0.e.ok P0 I.slices_BinarySearchFunc_dedup_Row_dedup_Row_int := vcase_ok (c := caseBs0) (H := H.slices_BinarySearchFunc_dedup_Row_dedup_Row_int) (E := env consA4) (env_ok consA4_ok) glob0 mixed0 G.slices_BinarySearchFunc_dedup_Row_dedup_Row_int Bd.slices_BinarySearchFunc_dedup_Row_dedup_Row_int (by kernel_rfl) (loopsF_good (env_ok consA4_ok) glob0 mixed0 (by kernel_rfl) 3) fun ⟨_, p, _, ()⟩ () r h hw1 hw2 => by
  obtain ⟨hc, rfl⟩ := pick_pre h
  exact bs0_val p
def caseIns0 : VCase := ⟨[.lit .nils, .lit (.int .i64 0), .lit (.hw 0)], [.box 3 [[.int .i64, .int .i64, .int .i64]]], .lit (.hw 1), [.box 3 [[.int .i64, .int .i64, .int .i64]], .arr 3 rowT []],
  fun _ ⟨⟨⟨a, b, c, _⟩, _⟩, _⟩ => [(true, ((), (((a, b, c, ()), ()), ([(a, b, c)], ()), ())))]⟩
theorem ins0_ok : caseIns0.e.ok P0 I.slices_Insert_dedup_Row_dedup_Row := vcase_ok (c := caseIns0) (H := H.ins2) (E := env consA3) (env_ok consA3_ok) glob0 mixed0 G.slices_Insert_dedup_Row_dedup_Row Bd.slices_Insert_dedup_Row_dedup_Row (by kernel_rfl) noLoops fun _ ⟨⟨⟨a, b, c, _⟩, _⟩, _⟩ r h hw1 hw2 => by
  obtain ⟨hc, rfl⟩ := pick_pre h
  exact ins0_ev (a, b, c)
noncomputable abbrev consB1 : List (FuncId × Con) := [(I.slices_BinarySearchFunc_dedup_Row_dedup_Row_int, .eff (effOf [caseBs.e, caseBs0.e])), (I.slices_Insert_dedup_Row_dedup_Row, .eff (effOf [caseIns.e, caseIns0.e]))]
theorem consB1_ok : ∀ x ∈ consB1, HoldsC P0 x.1 x.2 := by
  intro x hx
  simp at hx
  rcases hx with rfl | rfl
  · exact ⟨fun args objs r objs2 h _ => effOf_holds (by simp; exact ⟨bs_ok, bs0_ok⟩) args objs r objs2 h, C.slices_BinarySearchFunc_dedup_Row_dedup_Row_int⟩
  · exact ⟨fun args objs r objs2 h _ => effOf_holds (by simp; exact ⟨ins_ok, ins0_ok⟩) args objs r objs2 h, C.slices_Insert_dedup_Row_dedup_Row⟩
noncomputable abbrev consB2 : List (FuncId × Con) := [(I.dedup_Table_find, inl (env consB1) H.dedup_Table_find F.dedup_Table_find (fun R k0 => loopsF (env consB1) H.dedup_Table_find k0 B.dedup_Table_find 1))] ++ consB1
theorem consB2_ok : ∀ x ∈ consB2, HoldsC P0 x.1 x.2 := by
  intro x hx
  rcases List.mem_append.1 hx with hx | hx
  · simp at hx
    subst hx
    exact inl_ok (env_ok consB1_ok) glob0 mixed0 G.dedup_Table_find Bd.dedup_Table_find C.dedup_Table_find (fun R k0 => loopsF_good (env_ok consB1_ok) glob0 mixed0 (by kernel_rfl) 1)
  · exact consB1_ok x hx
end Go.Sim.XD
namespace Go.Sim.XD
set_option linter.unusedSimpArgs false
set_option linter.unusedVariables false
set_option maxRecDepth 10000
def H.set2 : Hint := { H.dedup_Table_Set with vs := [] }
theorem ask_ev (xs : List Row3) (p s : Int) : evFn (env consB2) H.dedup_Table_Ask (LPof []) F.dedup_Table_Ask [.ptr 0 (.tl 0) 0, .int .i64 p, .int .i64 s] [.arr 1 .bool [] [[.hw 1]], .arr 3 rowT xs []] (finV (.tup [.int .i64, .int .i64]) [.box 1 [[.lit (.hw 1)]], .arr 3 rowT []] 2) = bif sortedL xs && decide (xs.length ≤ 1000000) then Option.bind (bif !hasL xs p then some (s == (0 : Int)) else some false) fun v => bif v then some (((0 : Int), (0 : Int), ()), (((), ()), ()), (xs, ()), ()) else bif !hasL xs p then some (((2 : Int), (0 : Int), ()), (((), ()), ()), (xs, ()), ()) else bif decide ((0 : Int) ≤ (↑(posL xs p) : Int)) && decide ((↑(posL xs p) : Int) < (↑xs.length : Int)) then bif (xs.getD (posL xs p) rowT.zero).snd.fst == s then bif decide ((0 : Int) ≤ (↑(posL xs p) : Int)) && decide ((↑(posL xs p) : Int) < (↑xs.length : Int)) then some (((1 : Int), (xs.getD (posL xs p) rowT.zero).snd.snd, ()), (((), ()), ()), (xs, ()), ()) else none else Option.bind (bif decide ((0 : Int) ≤ (↑(posL xs p) : Int)) && decide ((↑(posL xs p) : Int) < (↑xs.length : Int)) then bif decide ((xs.getD (posL xs p) rowT.zero).snd.fst < s) then bif decide ((0 : Int) ≤ (↑(posL xs p) : Int)) && decide ((↑(posL xs p) : Int) < (↑xs.length : Int)) then some (IntKind.i64.wrap ((xs.getD (posL xs p) rowT.zero).snd.fst + (1 : Int)) == s) else none else some false else none) fun v => bif v then some (((0 : Int), (0 : Int), ()), (((), ()), ()), (xs, ()), ()) else some (((2 : Int), (0 : Int), ()), (((), ()), ()), (xs, ()), ()) else none else none := by kernel_rfl

theorem ask0_ev (p s : Int) : evFn (env consB2) H.dedup_Table_Ask (LPof []) F.dedup_Table_Ask [.ptr 0 (.tl 0) 0, .int .i64 p, .int .i64 s] [.arr 1 .bool [] [[.nils]]] (finV (.tup [.int .i64, .int .i64]) [.box 1 [[.lit .nils]]] 1) = bif s == (0 : Int) then some (((0 : Int), (0 : Int), ()), (((), ()), ()), ()) else some (((2 : Int), (0 : Int), ()), (((), ()), ()), ()) := by kernel_rfl

theorem seto_ev (xs : List Row3) (p s o : Int) : evFn (env consB2) H.set2 (LPof []) F.dedup_Table_Set [.ptr 0 (.tl 0) 0, .int .i64 p, .int .i64 s, .int .i64 o] [.arr 1 .bool [] [[.hw 1]], .arr 3 rowT xs []] (finV (.int .i64) [.box 1 [[.lit (.hw 1)]], .arr 3 rowT []] 2) = bif sortedL xs && decide (xs.length ≤ 1000000) then bif hasL xs p then bif decide ((0 : Int) ≤ (↑(posL xs p) : Int)) && decide ((↑(posL xs p) : Int) < (↑xs.length : Int)) then some ((0 : Int), (((), ()), ()), (xs.set (posL xs p) (p, s, o), ()), ()) else none else bif decide ((↑xs.length : Int) ≥ (100 : Int)) then some ((7 : Int), (((), ()), ()), (xs, ()), ()) else bif decide ((0 : (Pat.int IntKind.i64).den) ≤ (↑(posL xs p) : Int)) && decide ((↑(posL xs p) : Int) ≤ (↑xs.length : Int)) && decide (xs.length ≤ 1000000) then none else none else none := by kernel_rfl

theorem setn_ev (xs : List Row3) (p s o : Int) : evFn (env consB2) H.set2 (LPof []) F.dedup_Table_Set [.ptr 0 (.tl 0) 0, .int .i64 p, .int .i64 s, .int .i64 o] [.arr 1 .bool [] [[.hw 1]], .arr 3 rowT xs []] (finV (.int .i64) [.box 1 [[.lit (.hw 2)]], .dead, .arr 3 rowT []] 2) = bif sortedL xs && decide (xs.length ≤ 1000000) then bif hasL xs p then bif decide ((0 : Int) ≤ (↑(posL xs p) : Int)) && decide ((↑(posL xs p) : Int) < (↑xs.length : Int)) then none else none else bif decide ((↑xs.length : Int) ≥ (100 : Int)) then none else bif decide ((0 : (Pat.int IntKind.i64).den) ≤ (↑(posL xs p) : Int)) && decide ((↑(posL xs p) : Int) ≤ (↑xs.length : Int)) && decide (xs.length ≤ 1000000) then some ((0 : Int), (((), ()), ()), (), (putAt xs (posL xs p) (posL xs p) (p, s, o), ()), ()) else none else none := by kernel_rfl

theorem set0_ev (p s o : Int) : evFn (env consB2) H.set2 (LPof []) F.dedup_Table_Set [.ptr 0 (.tl 0) 0, .int .i64 p, .int .i64 s, .int .i64 o] [.arr 1 .bool [] [[.nils]]] (finV (.int .i64) [.box 1 [[.lit (.hw 1)]], .arr 3 rowT []] 1) = some ((0 : Int), (((), ()), ()), ([(p, s, o)], ()), ()) := by kernel_rfl

theorem wrap_next {a b : Int} (ha : In .i64 a) (h : a < b) (hb : In .i64 b) : (IntKind.i64.wrap (a + 1) == b) = (a == b - 1) := by
  have h1 := In.i64.1 ha
  have h2 := In.i64.1 hb
  rw [wrap64 (by omega) (by omega)]
  apply Bool.eq_iff_iff.2
  simp only [beq_iff_eq]
  omega
theorem at_in {xs : List Row3} (h : ∀ r ∈ xs, wfT rowT r) {i : Nat} (hi : i < xs.length) : wfT rowT (xs.getD i rowT.zero) := by
  rw [List.getD_eq_getElem?_getD, List.getElem?_eq_getElem hi]
  exact h _ (List.getElem_mem hi)
theorem has_lt {xs : List Row3} {p : Int} (h : hasL xs p = true) : posL xs p < xs.length := by
  unfold hasL at h
  simp only [Bool.and_eq_true, decide_eq_true_eq] at h
  exact h.1
theorem set_putAt (xs : List Row3) (k : Nat) (r : Row3) (h : k < xs.length) : xs.set k r = putAt xs k (k + 1) r := by
  unfold putAt
  rw [List.set_eq_take_append_cons_drop, if_pos h]
def caseAsk : VCase := ⟨[.lit (.ptr 0 (.tl 0) 0), .int .i64, .int .i64], [.box 1 [[.lit (.hw 1)]], .arr 3 rowT []], .tup [.int .i64, .int .i64], [.box 1 [[.lit (.hw 1)]], .arr 3 rowT []], fun ⟨_, p, s, ()⟩ ⟨_, ⟨xs, ()⟩, ()⟩ => [(sortedL xs && decide (List.length xs ≤ 1000000), (((askL xs p s).1, (askL xs p s).2, ()), ((((), ()), ()), (xs, ()), ())))]⟩
theorem ask_val (xs : List Row3) (p s : Int) (hc : (sortedL xs && decide (List.length xs ≤ 1000000)) = true) (hs : In .i64 s) (hx : ∀ r ∈ xs, wfT rowT r) : evFn (env consB2) H.dedup_Table_Ask (LPof []) F.dedup_Table_Ask [.ptr 0 (.tl 0) 0, .int .i64 p, .int .i64 s] [.arr 1 .bool [] [[.hw 1]], .arr 3 rowT xs []] (finV (.tup [.int .i64, .int .i64]) [.box 1 [[.lit (.hw 1)]], .arr 3 rowT []] 2) = some (((askL xs p s).1, (askL xs p s).2, ()), ((((), ()), ()), (xs, ()), ())) := by
  rw [ask_ev, hc, cond_true]
  unfold askL
  cases hh : hasL xs p with
  | false => cases s == 0 <;> rfl
  | true =>
    have hk := has_lt hh
    have hi := at_in hx hk
    simp only [Bool.not_true, cond_false, cond_true, Option.bind_some]
    rw [cond_pos2 (by omega) (by omega)]
    by_cases h1 : (xs.getD (posL xs p) rowT.zero).2.1 = s
    · have e1 : ((xs.getD (posL xs p) rowT.zero).2.1 == s) = true := by simpa using h1
      have e2 : ((atL xs (posL xs p)).2.1 == s) = true := e1
      rw [e1, e2, cond_true, cond_pos2 (by omega) (by omega)]
      rfl
    · have e1 : ((xs.getD (posL xs p) rowT.zero).2.1 == s) = false := by simpa using h1
      have e2 : ((atL xs (posL xs p)).2.1 == s) = false := e1
      rw [e1, e2, cond_false, cond_false, cond_pos2 (by omega) (by omega)]
      by_cases h2 : (xs.getD (posL xs p) rowT.zero).2.1 < s
      · have h2' : (atL xs (posL xs p)).2.1 < s := h2
        rw [cond_pos h2, cond_pos2 (by omega) (by omega), wrap_next hi.2.1 h2 hs, Option.bind_some, decide_eq_true h2', Bool.true_and]
        show (bif (atL xs (posL xs p)).2.1 == s - 1 then _ else _) = _
        cases (atL xs (posL xs p)).2.1 == s - 1 <;> rfl
      · have h2' : ¬ (atL xs (posL xs p)).2.1 < s := h2
        rw [cond_neg h2, decide_eq_false h2']
        rfl
theorem ask_ok : caseAsk.e.ok P0 I.dedup_Table_Ask := vcase_ok (c := caseAsk) (H := H.dedup_Table_Ask) (E := env consB2) (env_ok consB2_ok) glob0 mixed0 G.dedup_Table_Ask Bd.dedup_Table_Ask (by kernel_rfl) noLoops fun ⟨_, p, s, ()⟩ ⟨_, ⟨xs, ()⟩, ()⟩ r h hw1 hw2 => by
  obtain ⟨hc, rfl⟩ := pick_pre h
  exact ask_val xs p s hc hw1.2.2.1 hw2.2.1.1.2
def caseAsk0 : VCase := ⟨[.lit (.ptr 0 (.tl 0) 0), .int .i64, .int .i64], [.box 1 [[.lit .nils]]], .tup [.int .i64, .int .i64], [.box 1 [[.lit .nils]]], fun ⟨_, p, s, ()⟩ _ => [(true, (((askL [] p s).1, (askL [] p s).2, ()), ((((), ()), ()), ())))]⟩
theorem ask0_val (p s : Int) : evFn (env consB2) H.dedup_Table_Ask (LPof []) F.dedup_Table_Ask [.ptr 0 (.tl 0) 0, .int .i64 p, .int .i64 s] [.arr 1 .bool [] [[.nils]]] (finV (.tup [.int .i64, .int .i64]) [.box 1 [[.lit .nils]]] 1) = some (((askL [] p s).1, (askL [] p s).2, ()), ((((), ()), ()), ())) := by
  rw [ask0_ev]
  have : askL [] p s = bif s == 0 then (0, 0) else (2, 0) := rfl
  rw [this]
  cases s == 0 <;> rfl
theorem ask0_ok : caseAsk0.e.ok P0 I.dedup_Table_Ask := vcase_ok (c := caseAsk0) (H := H.dedup_Table_Ask) (E := env consB2) (env_ok consB2_ok) glob0 mixed0 G.dedup_Table_Ask Bd.dedup_Table_Ask (by kernel_rfl) noLoops fun ⟨_, p, s, ()⟩ _ r h hw1 hw2 => by
  obtain ⟨hc, rfl⟩ := pick_pre h
  exact ask0_val p s
def caseSetO : VCase := ⟨[.lit (.ptr 0 (.tl 0) 0), .int .i64, .int .i64, .int .i64], [.box 1 [[.lit (.hw 1)]], .arr 3 rowT []], .int .i64, [.box 1 [[.lit (.hw 1)]], .arr 3 rowT []], fun ⟨_, p, s, o, _⟩ ⟨_, ⟨xs, _⟩, _⟩ =>
  [(sortedL xs && decide (List.length xs ≤ 1000000) && (hasL xs p || decide ((List.length xs : Int) ≥ 100)), ((setL xs (p, s, o)).2, ((((), ()), ()), ((setL xs (p, s, o)).1, ()), ())))]⟩
theorem seto_ok : caseSetO.e.ok P0 I.dedup_Table_Set := vcase_ok (c := caseSetO) (H := H.set2) (E := env consB2) (env_ok consB2_ok) glob0 mixed0 G.dedup_Table_Set Bd.dedup_Table_Set (by kernel_rfl) noLoops fun ⟨_, p, s, o, _⟩ ⟨_, ⟨xs, _⟩, _⟩ r h hw1 hw2 => by
  obtain ⟨hc, rfl⟩ := pick_pre h
  refine (seto_ev xs p s o).trans ?_
  cases h1 : sortedL xs && decide (List.length xs ≤ 1000000) with
  | false => rw [h1] at hc; cases hc
  | true =>
    rw [h1, Bool.true_and] at hc
    unfold setL
    simp only [cond_true]
    cases hh : hasL xs p with
    | true =>
      have hk := has_lt hh
      rw [cond_true, cond_true, cond_pos2 (by omega) (Int.ofNat_lt.2 hk), set_putAt xs _ _ hk]
      rfl
    | false =>
      rw [hh, Bool.false_or] at hc
      rw [cond_false, cond_false, hc]
      rfl
def caseSetN : VCase := ⟨[.lit (.ptr 0 (.tl 0) 0), .int .i64, .int .i64, .int .i64], [.box 1 [[.lit (.hw 1)]], .arr 3 rowT []], .int .i64, [.box 1 [[.lit (.hw 2)]], .dead, .arr 3 rowT []], fun ⟨_, p, s, o, _⟩ ⟨_, ⟨xs, _⟩, _⟩ =>
  [(sortedL xs && decide (List.length xs ≤ 1000000) && !(hasL xs p || decide ((List.length xs : Int) ≥ 100)), ((setL xs (p, s, o)).2, ((((), ()), ()), (), ((setL xs (p, s, o)).1, ()), ())))]⟩
theorem setn_ok : caseSetN.e.ok P0 I.dedup_Table_Set := vcase_ok (c := caseSetN) (H := H.set2) (E := env consB2) (env_ok consB2_ok) glob0 mixed0 G.dedup_Table_Set Bd.dedup_Table_Set (by kernel_rfl) noLoops fun ⟨_, p, s, o, _⟩ ⟨_, ⟨xs, _⟩, _⟩ r h hw1 hw2 => by
  obtain ⟨hc, rfl⟩ := pick_pre h
  refine (setn_ev xs p s o).trans ?_
  cases h1 : sortedL xs && decide (List.length xs ≤ 1000000) with
  | false => rw [h1] at hc; cases hc
  | true =>
    rw [h1, Bool.true_and] at hc
    have h2 : decide (List.length xs ≤ 1000000) = true := (Bool.and_eq_true_iff.1 h1).2
    unfold setL
    simp only [cond_true]
    cases hh : hasL xs p with
    | true => rw [hh, Bool.true_or] at hc; cases hc
    | false =>
      rw [hh, Bool.false_or] at hc
      have hc : decide ((List.length xs : Int) ≥ 100) = false := by simpa using hc
      have hp := pos_le xs p
      rw [cond_false, cond_false, hc, cond_false, h2, Bool.and_true]
      rw [cond_pos2 (Int.natCast_nonneg _) (Int.ofNat_le.2 hp)]
      rfl
def caseSet0 : VCase := ⟨[.lit (.ptr 0 (.tl 0) 0), .int .i64, .int .i64, .int .i64], [.box 1 [[.lit .nils]]], .int .i64, [.box 1 [[.lit (.hw 1)]], .arr 3 rowT []], fun ⟨_, p, s, o, _⟩ _ => [(true, ((0 : Int), ((((), ()), ()), ([(p, s, o)], ()), ())))]⟩
theorem set0_ok : caseSet0.e.ok P0 I.dedup_Table_Set := vcase_ok (c := caseSet0) (H := H.set2) (E := env consB2) (env_ok consB2_ok) glob0 mixed0 G.dedup_Table_Set Bd.dedup_Table_Set (by kernel_rfl) noLoops fun ⟨_, p, s, o, _⟩ _ r h hw1 hw2 => by
  obtain ⟨hc, rfl⟩ := pick_pre h
  exact set0_ev p s o
theorem pick_or {α : Type} {v : α} : ∀ {a b : List (Bool × α)}, pick (a ++ b) = some v → pick a = some v ∨ pick b = some v
  | [], _, h => .inr h
  | (true, u) :: _, _, h => .inl h
  | (false, u) :: a, b, h => pick_or (a := a) h
def caseSetE : ECase := ⟨caseSetO.ins, caseSetO.objs, fun x y => caseSetO.e.f x y ++ caseSetN.e.f x y⟩
theorem set_ok : caseSetE.ok P0 I.dedup_Table_Set := fun x y r objs' h hw1 hw2 => by
  rcases pick_or h with h | h
  · exact seto_ok x y r objs' h hw1 hw2
  · exact setn_ok x y r objs' h hw1 hw2
noncomputable abbrev consB3 : List (FuncId × Con) := [(I.dedup_Table_Ask, .eff (effOf [caseAsk.e, caseAsk0.e])), (I.dedup_Table_Set, .eff (effOf [caseSetE, caseSet0.e]))]
theorem consB3_ok : ∀ x ∈ consB3, HoldsC P0 x.1 x.2 := by
  intro x hx
  simp at hx
  rcases hx with rfl | rfl
  · exact ⟨fun args objs r objs2 h _ => effOf_holds (by simp; exact ⟨ask_ok, ask0_ok⟩) args objs r objs2 h, C.dedup_Table_Ask⟩
  · exact ⟨fun args objs r objs2 h _ => effOf_holds (by simp; exact ⟨set_ok, set0_ok⟩) args objs r objs2 h, C.dedup_Table_Set⟩
end Go.Sim.XD
namespace Go.Sim
set_option linter.unusedSimpArgs false
set_option linter.unusedVariables false
set_option maxRecDepth 10000
open Go.Sim.XU
theorem num16_ev (n : Int) : evFn (env []) H.cooperagelaw16_num (LPof []) F.cooperagelaw16_num [.int .i64 n] [] (finT [.int .i64]) = some (n, ()) := by kernel_rfl

def caseNum16 : PCase := ⟨[.ty (.int .i64)], [.int .i64], fun x => (fun (n : Int) => [(true, (n, ()))]) x.1⟩
theorem num16_val (n : Int) : evFn (env []) H.cooperagelaw16_num (LPof []) F.cooperagelaw16_num [.int .i64 n] [] (finT [.int .i64]) = some (n, ()) := by
  rw [num16_ev]
theorem num16_ok : caseNum16.ok P0 I.cooperagelaw16_num := case_ok2 (H := H.cooperagelaw16_num) (E := env []) (env_ok env_nil) glob0 mixed0 G.cooperagelaw16_num Bd.cooperagelaw16_num (by kernel_rfl) noLoops fun ⟨n, ()⟩ y h hw => by
  obtain ⟨hc, rfl⟩ := pick_pre h
  exact num16_val n
noncomputable abbrev consQ1 : List (FuncId × Con) := [(I.state_failed, inl (env []) H.state_failed F.state_failed (fun R k0 => loopsF (env []) H.state_failed k0 B.state_failed 1)), (I.dedup_Table_Ask, .eff (effOf [XD.caseAsk.e, XD.caseAsk0.e])), (I.dedup_Table_Set, .eff (effOf [XD.caseSetE, XD.caseSet0.e])), (I.segs_Log_Append, .eff (effOf [XU.caseAppend.e])), (I.segs_Log_High, .eff (effOf [XU.caseHigh.e])), (I.segs_Log_Low, .eff (effOf [XU.caseLow.e])), (I.segs_New, .eff (effOf [XU.caseNew.e]))]
theorem consQ1_ok : ∀ x ∈ consQ1, HoldsC P0 x.1 x.2 := by
  intro x hx
  simp at hx
  rcases hx with rfl | rfl | rfl | rfl | rfl | rfl | rfl
  · exact inl_ok (env_ok env_nil) glob0 mixed0 G.state_failed Bd.state_failed C.state_failed (fun R k0 => loopsF_good (env_ok env_nil) glob0 mixed0 (by kernel_rfl) 1)
  · exact ⟨fun args objs r objs2 h _ => effOf_holds (by simp; exact ⟨XD.ask_ok, XD.ask0_ok⟩) args objs r objs2 h, C.dedup_Table_Ask⟩
  · exact ⟨fun args objs r objs2 h _ => effOf_holds (by simp; exact ⟨XD.set_ok, XD.set0_ok⟩) args objs r objs2 h, C.dedup_Table_Set⟩
  · exact ⟨fun args objs r objs2 h _ => effOf_holds (by simp; exact XU.append_ok) args objs r objs2 h, C.segs_Log_Append⟩
  · exact ⟨fun args objs r objs2 h _ => effOf_holds (by simp; exact XU.high_ok) args objs r objs2 h, C.segs_Log_High⟩
  · exact ⟨fun args objs r objs2 h _ => effOf_holds (by simp; exact XU.low_ok) args objs r objs2 h, C.segs_Log_Low⟩
  · exact ⟨fun args objs r objs2 h _ => effOf_holds (by simp; exact XU.new_ok) args objs r objs2 h, C.segs_New⟩
noncomputable abbrev consQ2 : List (FuncId × Con) := [(I.state_typed, inl (env []) H.state_typed F.state_typed (fun R k0 => loopsF (env []) H.state_typed k0 B.state_typed 1)), (I.state_State_produce, inl (env consQ1) H.state_State_produce F.state_State_produce (fun R k0 => loopsF (env consQ1) H.state_State_produce k0 B.state_State_produce 1)), (I.state_State_tidy, inl (env consQ1) H.state_State_tidy F.state_State_tidy (fun R k0 => loopsF (env consQ1) H.state_State_tidy k0 B.state_State_tidy 1)), (I.command_Right, .pure (pureOf [XS.caseCright]))] ++ consQ1
theorem consQ2_ok : ∀ x ∈ consQ2, HoldsC P0 x.1 x.2 := by
  intro x hx
  rcases List.mem_append.1 hx with hx | hx
  · simp at hx
    rcases hx with rfl | rfl | rfl | rfl
    · exact inl_ok (env_ok env_nil) glob0 mixed0 G.state_typed Bd.state_typed C.state_typed (fun R k0 => loopsF_good (env_ok env_nil) glob0 mixed0 (by kernel_rfl) 1)
    · exact inl_ok (env_ok consQ1_ok) glob0 mixed0 G.state_State_produce Bd.state_State_produce C.state_State_produce (fun R k0 => loopsF_good (env_ok consQ1_ok) glob0 mixed0 (by kernel_rfl) 1)
    · exact inl_ok (env_ok consQ1_ok) glob0 mixed0 G.state_State_tidy Bd.state_State_tidy C.state_State_tidy (fun R k0 => loopsF_good (env_ok consQ1_ok) glob0 mixed0 (by kernel_rfl) 1)
    · exact ⟨pureOf_holds (by simp; exact XS.cright_ok), C.command_Right⟩
  · exact consQ1_ok x hx
noncomputable abbrev consQ3 : List (FuncId × Con) := [(I.cooperagelaw16_num, .pure (pureOf [caseNum16])), (I.state_New, inl (env consQ1) H.state_New F.state_New (fun R k0 => loopsF (env consQ1) H.state_New k0 B.state_New 1)), (I.state_State_Apply, inl (env consQ2) H.state_State_Apply F.state_State_Apply (fun R k0 => loopsF (env consQ2) H.state_State_Apply k0 B.state_State_Apply 1))] ++ consQ1
theorem consQ3_ok : ∀ x ∈ consQ3, HoldsC P0 x.1 x.2 := by
  intro x hx
  rcases List.mem_append.1 hx with hx | hx
  · simp at hx
    rcases hx with rfl | rfl | rfl
    · exact ⟨pureOf_holds (by simp; exact num16_ok), C.cooperagelaw16_num⟩
    · exact inl_ok (env_ok consQ1_ok) glob0 mixed0 G.state_New Bd.state_New C.state_New (fun R k0 => loopsF_good (env_ok consQ1_ok) glob0 mixed0 (by kernel_rfl) 1)
    · exact inl_ok (env_ok consQ2_ok) glob0 mixed0 G.state_State_Apply Bd.state_State_Apply C.state_State_Apply (fun R k0 => loopsF_good (env_ok consQ2_ok) glob0 mixed0 (by kernel_rfl) 1)
  · exact consQ1_ok x hx
def H.al16 : Hint := { H.cooperagelaw16_alive with vs := [9], join := [] }
theorem alive16_ev : evFn (env consQ3) H.al16 (LPof []) F.cooperagelaw16_alive [] [] (finT [.bool]) = some (true, ()) := by kernel_rfl

end Go.Sim
namespace Go.Sim
set_option linter.unusedSimpArgs false
set_option linter.unusedVariables false
set_option maxRecDepth 10000
open Go.Sim.XU
abbrev actT (b n z : Int) : List AV := [.int .i64 b, .int .i64 n, .int .i64 0, .int .i64 0, .hw 3, .bool false, .bool false, .bool false, .int .i64 z, .int .u32 0]
abbrev actTP : List Pat := [.int .i64, .int .i64, .lit (.int .i64 0), .lit (.int .i64 0), .lit (.hw 3), .lit (.bool false), .lit (.bool false), .lit (.bool false), .int .i64, .lit (.int .u32 0)]
abbrev boxP : OPat := .box 7 [[.lit (.ptr 1 (.tl 0) 0), .int .i64, .int .i64, .int .i64, .int .i64, .lit (.ptr 4 (.tl 0) 0), .lit (.ptr 5 (.tl 0) 0)]]
abbrev boxO (c1 c2 c3 c4 : Int) : AObj := .arr 7 .bool [] [[.ptr 1 (.tl 0) 0, .int .i64 c1, .int .i64 c2, .int .i64 c3, .int .i64 c4, .ptr 4 (.tl 0) 0, .ptr 5 (.tl 0) 0]]
abbrev segBP : OPat := .box 10 [[.int .i64, .int .i64, .int .i64, .int .i64, .vl recT, .bool, .bool, .bool, .int .i64, .int .u32]]
abbrev segBO (g : Seg) : AObj := .arr 10 .bool [] [[.int .i64 g.1, .int .i64 g.2.1, .int .i64 g.2.2.1, .int .i64 g.2.2.2.1, .vl recT g.2.2.2.2.1, .bool g.2.2.2.2.2.1, .bool g.2.2.2.2.2.2.1, .bool g.2.2.2.2.2.2.2.1, .int .i64 g.2.2.2.2.2.2.2.2.1, .int .u32 g.2.2.2.2.2.2.2.2.2]]
abbrev VS6 : List Nat := [0, 1, 4, 6, 7, 14, 15, 16, 29, 30, 31]
def H.since2 : Hint := { H.state_State_since with loops := [(2, [0, 1, 4, 14, 15, 16]), (6, [0, 1, 4, 6, 7, 14, 15, 16, 29, 30, 31])] }
noncomputable abbrev consY0 : List (FuncId × Con) := [(I.segs_Log_Segments, .eff (effOf [XU.caseSegments.e])), (I.segs_Log_High, .eff (effOf [XU.caseHigh.e]))]
theorem consY0_ok : ∀ x ∈ consY0, HoldsC P0 x.1 x.2 := by
  intro x hx
  simp at hx
  rcases hx with rfl | rfl
  · exact ⟨fun args objs r objs2 h _ => effOf_holds (by simp; exact XU.segments_ok) args objs r objs2 h, C.segs_Log_Segments⟩
  · exact ⟨fun args objs r objs2 h _ => effOf_holds (by simp; exact XU.high_ok) args objs r objs2 h, C.segs_Log_High⟩
/-! ### the plain law: from which segment on a time is there -/
def lateR (now : Int) (rs : List Rec) : Bool := rs.any fun r => decide (r.2.1 ≥ now)
def lateG (now : Int) (g : Seg) : Bool := bif g.2.2.2.2.2.1 then decide (g.2.2.1 ≥ now) else lateR now g.2.2.2.2.1
def lateB (now : Int) (L : LogS) : Option Int := ((segsL L).find? (lateG now)).map (·.1)
theorem lateR_snoc (now : Int) (rs : List Rec) (r : Rec) : lateR now (rs ++ [r]) = (lateR now rs || decide (r.2.1 ≥ now)) := by unfold lateR; simp
/-- What holds of the log, and of what the law wants, once i numbers are in. -/
structure InvS (now : Int) (c n i : Nat) (L : LogS) (w : Int) : Prop where
  next : L.2.2.1 = (i : Int)
  base : L.2.1 = ((i / c * c : Nat) : Int)
  bnd : ∀ b, lateB now L = some b → b ≤ L.2.1
  want : w = (lateB now L).getD (n : Int)
  low : lowP L = 0
  ok : okB (4 * i) L = true
def lateAt (now : Int) (l : List Seg) (i : Nat) : Bool := lateG now (l.getD i segTy.zero)
/-- Is a segment's time late, once k of its records are seen? -/
def lateQ (now : Int) (sl : Bool) (xs : List Rec) (q : Bool) : Nat → Bool
  | 0 => q
  | k + 1 => lateQ now sl xs q k || (!sl && decide ((xs.getD k recTy.zero).2.1 ≥ now))
theorem lateQ_any (now : Int) (sl : Bool) (xs : List Rec) (q : Bool) : ∀ k, k ≤ xs.length → lateQ now sl xs q k = (q || (!sl && lateR now (xs.take k)))
  | 0, _ => by simp [lateQ, lateR]
  | k + 1, h => by
    rw [take_snoc (by omega), lateR_snoc]
    simp only [lateQ, lateQ_any now sl xs q k (by omega)]
    cases q <;> cases sl <;> rfl
theorem lateQ_end (now : Int) (g : Seg) : lateQ now g.2.2.2.2.2.1 g.2.2.2.2.1 (g.2.2.2.2.2.1 && decide (g.2.2.1 ≥ now)) g.2.2.2.2.1.length = lateG now g := by
  rw [lateQ_any now _ _ _ _ (Nat.le_refl _), List.take_length]
  unfold lateG
  cases g.2.2.2.2.2.1 with
  | true => simp
  | false => simp
theorem first_find (p : Seg → Bool) (l : List Seg) : ∀ (m i : Nat), i + m = l.length → (match firstFrom (fun k => p (l.getD k segTy.zero)) i m with
    | some k => some (l.getD k segTy.zero)
    | none => none) = (l.drop i).find? p
  | 0, i, h => by
    rw [List.drop_of_length_le (by omega)]
    rfl
  | m + 1, i, h => by
    have hi : i < l.length := by omega
    have e : l.drop i = l.getD i segTy.zero :: l.drop (i + 1) := by
      rw [List.drop_eq_getElem_cons hi, List.getD_eq_getElem?_getD, List.getElem?_eq_getElem hi]
      rfl
    have ih := first_find p l m (i + 1) (by omega)
    rw [e, List.find?_cons, firstFrom]
    cases p (l.getD i segTy.zero) with
    | true => rfl
    | false => exact ih
theorem since_eq (now : Int) (L : LogS) (d : Int) : (match firstFrom (fun k => lateG now ((segsL L).getD k segTy.zero)) 0 (segsL L).length with
    | some k => ((segsL L).getD k segTy.zero).1
    | none => d) = (lateB now L).getD d := by
  have h := first_find (lateG now) (segsL L) _ 0 (Nat.zero_add _)
  unfold lateB
  rw [List.drop_zero] at h
  rw [← h]
  cases firstFrom (fun k => lateG now ((segsL L).getD k segTy.zero)) 0 (segsL L).length <;> rfl

abbrev stAP : List OPat := [boxP, .box 1 [[.lit (.hw 2)]], .arr 10 segT [actTP], .log recT, .box 1 [[.lit .nils]], .box 1 [[.lit .nils]]]
theorem sn6A_rd {R : Type} (c1 c2 c3 c4 : Int) (now i m k r0 : Int) (q : Bool) (l : List Seg) (xs : List Rec) (g : Seg) (f : List Seg) (b n z : Int) (rs : List Rec) (K : Ex → St → Option R) : roundK (env consY0) H.since2 6 (LPof []) VS6 L.state_State_since_6 ⟨[(0, .ptr 0 (.tl 0) 0), (1, .int .i64 now), (4, .int .i64 r0), (6, .ptr 6 (.tl 0) 0), (7, .bool q), (14, .vl segT l), (15, .int .i64 l.length), (16, .int .i64 i), (29, .vl recT xs), (30, .int .i64 m), (31, .int .i64 k)], [(0, boxO c1 c2 c3 c4), (1, .arr 1 .bool [] [[.hw 2]]), (2, .arr 10 segT f [actT b n z]), (3, .log recT rs), (4, .arr 1 .bool [] [[.nils]]), (5, .arr 1 .bool [] [[.nils]]), (6, segBO g)], 7⟩ K = bif decide (k < m) then bif decide ((0 : Int) ≤ k) && decide (k < (↑xs.length : Int)) then Option.bind (bif q then some true else bif !g.snd.snd.snd.snd.snd.fst then some (decide ((xs.getD k.toNat recTy.zero).snd.fst ≥ now)) else some false) fun v => K Ex.normal { slots := [(0, AV.ptr 0 (Elt.tl 0) 0), (1, AV.int IntKind.i64 now), (4, AV.int IntKind.i64 r0), (6, AV.ptr 6 (Elt.tl 0) 0), (7, AV.bool v), (14, AV.vl segTy l), (15, AV.int IntKind.i64 (↑l.length : Int)), (16, AV.int IntKind.i64 i), (29, AV.vl recTy xs), (30, AV.int IntKind.i64 m), (31, AV.int IntKind.i64 (IntKind.i64.wrap (k + (1 : Int))))], objs := [(0, AObj.arr 7 Ty.bool [] [[AV.ptr 1 (Elt.tl 0) 0, AV.int IntKind.i64 c1, AV.int IntKind.i64 c2, AV.int IntKind.i64 c3, AV.int IntKind.i64 c4, AV.ptr 4 (Elt.tl 0) 0, AV.ptr 5 (Elt.tl 0) 0]]), (1, AObj.arr 1 Ty.bool [] [[AV.hw 2]]), (2, AObj.arr 10 segTy f [[AV.int IntKind.i64 b, AV.int IntKind.i64 n, AV.int IntKind.i64 (0 : Int), AV.int IntKind.i64 (0 : Int), AV.hw 3, AV.bool false, AV.bool false, AV.bool false, AV.int IntKind.i64 z, AV.int IntKind.u32 (0 : Int)]]), (3, AObj.log recTy rs), (4, AObj.arr 1 Ty.bool [] [[AV.nils]]), (5, AObj.arr 1 Ty.bool [] [[AV.nils]]), (6, AObj.arr 10 Ty.bool [] [[AV.int IntKind.i64 g.fst, AV.int IntKind.i64 g.snd.fst, AV.int IntKind.i64 g.snd.snd.fst, AV.int IntKind.i64 g.snd.snd.snd.fst, AV.vl recTy g.snd.snd.snd.snd.fst, AV.bool g.snd.snd.snd.snd.snd.fst, AV.bool g.snd.snd.snd.snd.snd.snd.fst, AV.bool g.snd.snd.snd.snd.snd.snd.snd.fst, AV.int IntKind.i64 g.snd.snd.snd.snd.snd.snd.snd.snd.fst, AV.int IntKind.u32 g.snd.snd.snd.snd.snd.snd.snd.snd.snd]])], nx := 7 } else none else K (Ex.exit 2) { slots := [(0, AV.ptr 0 (Elt.tl 0) 0), (1, AV.int IntKind.i64 now), (4, AV.int IntKind.i64 r0), (6, AV.ptr 6 (Elt.tl 0) 0), (7, AV.bool q), (14, AV.vl segTy l), (15, AV.int IntKind.i64 (↑l.length : Int)), (16, AV.int IntKind.i64 i), (29, AV.vl recTy xs), (30, AV.int IntKind.i64 m), (31, AV.int IntKind.i64 k)], objs := [(0, AObj.arr 7 Ty.bool [] [[AV.ptr 1 (Elt.tl 0) 0, AV.int IntKind.i64 c1, AV.int IntKind.i64 c2, AV.int IntKind.i64 c3, AV.int IntKind.i64 c4, AV.ptr 4 (Elt.tl 0) 0, AV.ptr 5 (Elt.tl 0) 0]]), (1, AObj.arr 1 Ty.bool [] [[AV.hw 2]]), (2, AObj.arr 10 segTy f [[AV.int IntKind.i64 b, AV.int IntKind.i64 n, AV.int IntKind.i64 (0 : Int), AV.int IntKind.i64 (0 : Int), AV.hw 3, AV.bool false, AV.bool false, AV.bool false, AV.int IntKind.i64 z, AV.int IntKind.u32 (0 : Int)]]), (3, AObj.log recTy rs), (4, AObj.arr 1 Ty.bool [] [[AV.nils]]), (5, AObj.arr 1 Ty.bool [] [[AV.nils]]), (6, AObj.arr 10 Ty.bool [] [[AV.int IntKind.i64 g.fst, AV.int IntKind.i64 g.snd.fst, AV.int IntKind.i64 g.snd.snd.fst, AV.int IntKind.i64 g.snd.snd.snd.fst, AV.vl recTy g.snd.snd.snd.snd.fst, AV.bool g.snd.snd.snd.snd.snd.fst, AV.bool g.snd.snd.snd.snd.snd.snd.fst, AV.bool g.snd.snd.snd.snd.snd.snd.snd.fst, AV.int IntKind.i64 g.snd.snd.snd.snd.snd.snd.snd.snd.fst, AV.int IntKind.u32 g.snd.snd.snd.snd.snd.snd.snd.snd.snd]])], nx := 7 } := by kernel_rfl

def sn6ASt (c1 c2 c3 c4 : Int) (now i r0 : Int) (q : Bool) (l : List Seg) (xs : List Rec) (g : Seg) (f : List Seg) (b n z : Int) (rs : List Rec) (k : Nat) : St := ⟨[(0, .ptr 0 (.tl 0) 0), (1, .int .i64 now), (4, .int .i64 r0), (6, .ptr 6 (.tl 0) 0), (7, .bool (lateQ now g.2.2.2.2.2.1 xs q k)), (14, .vl segT l), (15, .int .i64 l.length), (16, .int .i64 i), (29, .vl recT xs), (30, .int .i64 xs.length), (31, .int .i64 k)], [(0, boxO c1 c2 c3 c4), (1, .arr 1 .bool [] [[.hw 2]]), (2, .arr 10 segT f [actT b n z]), (3, .log recT rs), (4, .arr 1 .bool [] [[.nils]]), (5, .arr 1 .bool [] [[.nils]]), (6, segBO g)], 7⟩
theorem sn6A_rounds {R : Type} (c1 c2 c3 c4 : Int) (now i r0 : Int) (q : Bool) (l : List Seg) (xs : List Rec) (hx : xs.length ≤ maxL) (g : Seg) (f : List Seg) (b n z : Int) (rs : List Rec) (K : Ex → St → Option R) : ∀ (m k : Nat), k + m = xs.length →
    rounds (env consY0) H.since2 6 (LPof []) VS6 L.state_State_since_6 (m + 1) (sn6ASt c1 c2 c3 c4 now i r0 q l xs g f b n z rs k) K = K (.exit 2) (sn6ASt c1 c2 c3 c4 now i r0 q l xs g f b n z rs xs.length)
  | 0, k, h => by
    obtain rfl : k = xs.length := by omega
    rw [rounds_succ']
    refine (sn6A_rd _ _ _ _ _ _ _ _ _ _ _ _ _ _ _ _ _ _ _).trans ?_
    rw [cond_neg (by omega)]
    rfl
  | m + 1, k, h => by
    have ih := sn6A_rounds c1 c2 c3 c4 now i r0 q l xs hx g f b n z rs K m (k + 1) (by omega)
    unfold maxL at hx
    have e1 : IntKind.i64.wrap ((k : Int) + 1) = ((k + 1 : Nat) : Int) := by rw [wrap64 (by omega) (by omega)]; omega
    rw [rounds_succ']
    refine (sn6A_rd _ _ _ _ _ _ _ _ _ _ _ _ _ _ _ _ _ _ _).trans ?_
    rw [cond_pos (by omega), cond_pos2 (by omega) (by omega), Int.toNat_natCast, e1]
    have e : ∀ (a b c : Bool), (bif a then some true else bif b then some c else some false) = some (a || (b && c)) := fun a b c => by cases a <;> cases b <;> rfl
    rw [e, Option.bind_some]
    exact ih
abbrev sn6ALC : LoopC := LoopC.of ⟨[(0, .lit (.ptr 0 (.tl 0) 0)), (1, .int .i64), (4, .int .i64), (6, .lit (.ptr 6 (.tl 0) 0)), (7, .bool), (14, .vl segT), (15, .int .i64), (16, .int .i64), (29, .vl recT), (30, .int .i64), (31, .int .i64)], [boxP, .box 1 [[.lit (.hw 2)]], .arr 10 segT [actTP], .log recT, .box 1 [[.lit .nils]], .box 1 [[.lit .nils]], segBP]⟩
  (fun ⟨⟨_, now, r0, _, q, l, nl, i, xs, m, k, _⟩, ⟨⟨⟨_, c1, c2, c3, c4, _, _, _⟩, _⟩, _, ⟨f, ⟨b, n, _, _, _, _, _, _, z, _, _⟩, _⟩, rs, _, _, ⟨⟨g1, g2, g3, g4, g5, g6, g7, g8, g9, g10, _⟩, _⟩, _⟩⟩ => decide (k = (0 : Int)) && decide (m = (List.length xs : Int)) && decide (nl = (List.length l : Int)))
  fun ⟨⟨_, now, r0, _, q, l, nl, i, xs, m, k, _⟩, ⟨⟨⟨_, c1, c2, c3, c4, _, _, _⟩, _⟩, _, ⟨f, ⟨b, n, _, _, _, _, _, _, z, _, _⟩, _⟩, rs, _, _, ⟨⟨g1, g2, g3, g4, g5, g6, g7, g8, g9, g10, _⟩, _⟩, _⟩⟩ => [(true, .exit 2, sn6ASt c1 c2 c3 c4 now i r0 q l xs (g1, g2, g3, g4, g5, g6, g7, g8, g9, g10) f b n z rs (List.length xs))]
theorem sn6A_lok : LoopOK P0 H.since2 6 L.state_State_since_6 sn6ALC :=
  loop_ok_of (env_ok consY0_ok) glob0 mixed0 noLoops VS6 (by decide) fun ⟨⟨_, now, r0, _, q, l, nl, i, xs, m, k, _⟩, ⟨⟨⟨_, c1, c2, c3, c4, _, _, _⟩, _⟩, _, ⟨f, ⟨b, n, _, _, _, _, _, _, z, _, _⟩, _⟩, rs, _, _, ⟨⟨g1, g2, g3, g4, g5, g6, g7, g8, g9, g10, _⟩, _⟩, _⟩⟩ h hw => by
    simp only [Bool.and_eq_true, decide_eq_true_eq] at h
    obtain ⟨⟨rfl, rfl⟩, rfl⟩ := h
    exact ⟨_, sn6A_rounds c1 c2 c3 c4 now i r0 q l xs hw.1.2.2.2.2.2.2.2.2.1.1 (g1, g2, g3, g4, g5, g6, g7, g8, g9, g10) f b n z rs _ xs.length 0 (Nat.zero_add _)⟩
theorem sn2A_rd {R : Type} (c1 c2 c3 c4 : Int) (now i r0 : Int) (l : List Seg) (f : List Seg) (b n z : Int) (rs : List Rec) (K : Ex → St → Option R) : roundK (env consY0) H.since2 6 (LPof [(6, sn6ALC)]) V.state_State_since_2 L.state_State_since_2 ⟨[(0, .ptr 0 (.tl 0) 0), (1, .int .i64 now), (4, .int .i64 r0), (14, .vl segT l), (15, .int .i64 l.length), (16, .int .i64 i)], [(0, boxO c1 c2 c3 c4), (1, .arr 1 .bool [] [[.hw 2]]), (2, .arr 10 segT f [actT b n z]), (3, .log recT rs), (4, .arr 1 .bool [] [[.nils]]), (5, .arr 1 .bool [] [[.nils]])], 6⟩ K = bif decide (i < (↑l.length : Int)) then bif decide ((0 : Int) ≤ i) && decide (i < (↑l.length : Int)) then Option.bind (bif (l.getD i.toNat segTy.zero).snd.snd.snd.snd.snd.fst then some (decide ((l.getD i.toNat segTy.zero).snd.snd.fst ≥ now)) else some false) fun v => bif decide ((↑(List.length (l.getD i.toNat segTy.zero).snd.snd.snd.snd.fst) : Int) = (↑(List.length (l.getD i.toNat segTy.zero).snd.snd.snd.snd.fst) : Int)) && decide ((↑l.length : Int) = (↑l.length : Int)) && true then bif lateQ now (l.getD i.toNat segTy.zero).snd.snd.snd.snd.snd.fst (l.getD i.toNat segTy.zero).snd.snd.snd.snd.fst v (List.length (l.getD i.toNat segTy.zero).snd.snd.snd.snd.fst) then K Ex.ret { slots := [(0, AV.ptr 0 (Elt.tl 0) 0), (1, AV.int IntKind.i64 now), (4, AV.int IntKind.i64 (l.getD i.toNat segTy.zero).fst), (14, AV.vl segTy l), (15, AV.int IntKind.i64 (↑l.length : Int)), (16, AV.int IntKind.i64 i)], objs := [(0, AObj.arr 7 Ty.bool [] [[AV.ptr 1 (Elt.tl 0) 0, AV.int IntKind.i64 c1, AV.int IntKind.i64 c2, AV.int IntKind.i64 c3, AV.int IntKind.i64 c4, AV.ptr 4 (Elt.tl 0) 0, AV.ptr 5 (Elt.tl 0) 0]]), (1, AObj.arr 1 Ty.bool [] [[AV.hw 2]]), (2, AObj.arr 10 segTy f [[AV.int IntKind.i64 b, AV.int IntKind.i64 n, AV.int IntKind.i64 (0 : Int), AV.int IntKind.i64 (0 : Int), AV.hw 3, AV.bool false, AV.bool false, AV.bool false, AV.int IntKind.i64 z, AV.int IntKind.u32 (0 : Int)]]), (3, AObj.log recTy rs), (4, AObj.arr 1 Ty.bool [] [[AV.nils]]), (5, AObj.arr 1 Ty.bool [] [[AV.nils]])], nx := 6 } else K Ex.normal { slots := [(0, AV.ptr 0 (Elt.tl 0) 0), (1, AV.int IntKind.i64 now), (4, AV.int IntKind.i64 r0), (14, AV.vl segTy l), (15, AV.int IntKind.i64 (↑l.length : Int)), (16, AV.int IntKind.i64 (IntKind.i64.wrap (i + (1 : Int))))], objs := [(0, AObj.arr 7 Ty.bool [] [[AV.ptr 1 (Elt.tl 0) 0, AV.int IntKind.i64 c1, AV.int IntKind.i64 c2, AV.int IntKind.i64 c3, AV.int IntKind.i64 c4, AV.ptr 4 (Elt.tl 0) 0, AV.ptr 5 (Elt.tl 0) 0]]), (1, AObj.arr 1 Ty.bool [] [[AV.hw 2]]), (2, AObj.arr 10 segTy f [[AV.int IntKind.i64 b, AV.int IntKind.i64 n, AV.int IntKind.i64 (0 : Int), AV.int IntKind.i64 (0 : Int), AV.hw 3, AV.bool false, AV.bool false, AV.bool false, AV.int IntKind.i64 z, AV.int IntKind.u32 (0 : Int)]]), (3, AObj.log recTy rs), (4, AObj.arr 1 Ty.bool [] [[AV.nils]]), (5, AObj.arr 1 Ty.bool [] [[AV.nils]])], nx := 6 } else none else none else K (Ex.exit 0) { slots := [(0, AV.ptr 0 (Elt.tl 0) 0), (1, AV.int IntKind.i64 now), (4, AV.int IntKind.i64 r0), (14, AV.vl segTy l), (15, AV.int IntKind.i64 (↑l.length : Int)), (16, AV.int IntKind.i64 i)], objs := [(0, AObj.arr 7 Ty.bool [] [[AV.ptr 1 (Elt.tl 0) 0, AV.int IntKind.i64 c1, AV.int IntKind.i64 c2, AV.int IntKind.i64 c3, AV.int IntKind.i64 c4, AV.ptr 4 (Elt.tl 0) 0, AV.ptr 5 (Elt.tl 0) 0]]), (1, AObj.arr 1 Ty.bool [] [[AV.hw 2]]), (2, AObj.arr 10 segTy f [[AV.int IntKind.i64 b, AV.int IntKind.i64 n, AV.int IntKind.i64 (0 : Int), AV.int IntKind.i64 (0 : Int), AV.hw 3, AV.bool false, AV.bool false, AV.bool false, AV.int IntKind.i64 z, AV.int IntKind.u32 (0 : Int)]]), (3, AObj.log recTy rs), (4, AObj.arr 1 Ty.bool [] [[AV.nils]]), (5, AObj.arr 1 Ty.bool [] [[AV.nils]])], nx := 6 } := by kernel_rfl
def sn2ASt (c1 c2 c3 c4 : Int) (now r0 : Int) (l : List Seg) (f : List Seg) (b n z : Int) (rs : List Rec) (i : Nat) : St := ⟨[(0, .ptr 0 (.tl 0) 0), (1, .int .i64 now), (4, .int .i64 r0), (14, .vl segT l), (15, .int .i64 l.length), (16, .int .i64 i)], [(0, boxO c1 c2 c3 c4), (1, .arr 1 .bool [] [[.hw 2]]), (2, .arr 10 segT f [actT b n z]), (3, .log recT rs), (4, .arr 1 .bool [] [[.nils]]), (5, .arr 1 .bool [] [[.nils]])], 6⟩
abbrev sn2ALC : LoopC := LoopC.of ⟨[(0, .lit (.ptr 0 (.tl 0) 0)), (1, .int .i64), (4, .int .i64), (14, .vl segT), (15, .int .i64), (16, .int .i64)], stAP⟩
  (fun ⟨⟨_, now, r0, l, nl, i, _⟩, ⟨⟨⟨_, c1, c2, c3, c4, _, _, _⟩, _⟩, _, ⟨f, ⟨b, n, _, _, _, _, _, _, z, _, _⟩, _⟩, rs, _, _, _⟩⟩ => decide (i = (0 : Int)) && decide (nl = (List.length l : Int)))
  fun ⟨⟨_, now, r0, l, nl, i, _⟩, ⟨⟨⟨_, c1, c2, c3, c4, _, _, _⟩, _⟩, _, ⟨f, ⟨b, n, _, _, _, _, _, _, z, _, _⟩, _⟩, rs, _, _, _⟩⟩ =>
    [((firstFrom (lateAt now l) 0 (List.length l)).isSome, .ret, sn2ASt c1 c2 c3 c4 now (l.getD ((firstFrom (lateAt now l) 0 (List.length l)).getD 0) segTy.zero).1 l f b n z rs ((firstFrom (lateAt now l) 0 (List.length l)).getD 0)), (true, .exit 0, sn2ASt c1 c2 c3 c4 now r0 l f b n z rs (List.length l))]
theorem sn2A_lok : LoopOK P0 H.since2 6 L.state_State_since_2 sn2ALC :=
  loop_ok_of (env_ok consY0_ok) glob0 mixed0 (loops_good (tab := [(6, sn6ALC)]) (by kernel_rfl) (fun x hx => by simp at hx; subst hx; exact sn6A_lok)) V.state_State_since_2 (by decide) fun ⟨⟨_, now, r0, l, nl, i, _⟩, ⟨⟨⟨_, c1, c2, c3, c4, _, _, _⟩, _⟩, _, ⟨f, ⟨b, n, _, _, _, _, _, _, z, _, _⟩, _⟩, rs, _, _, _⟩⟩ h hw => by
    simp only [Bool.and_eq_true, decide_eq_true_eq] at h
    obtain ⟨rfl, rfl⟩ := h
    have hl : List.length l ≤ maxL := hw.1.2.2.2.1.1
    unfold maxL at hl
    refine ⟨_, Eq.trans (search_rounds (S := sn2ASt c1 c2 c3 c4 now r0 l f b n z rs) (T := fun i => sn2ASt c1 c2 c3 c4 now (l.getD i segTy.zero).1 l f b n z rs i) (p := lateAt now l) (n := List.length l) (e1 := .ret) (e2 := .exit 0) (s2 := sn2ASt c1 c2 c3 c4 now r0 l f b n z rs (List.length l)) (by simp) (by simp) (fun i hi K => ?_) (fun K => ?_) _ (List.length l) 0 (by omega)) search_pick⟩
    · refine (sn2A_rd _ _ _ _ _ _ _ _ _ _ _ _ _ _).trans ?_
      have e1 : IntKind.i64.wrap ((i : Int) + 1) = ((i + 1 : Nat) : Int) := by rw [wrap64 (by omega) (by omega)]; omega
      have e : ∀ (a c : Bool), (bif a then some c else some false) = some (a && c) := fun a c => by cases a <;> rfl
      rw [cond_pos (by omega), cond_pos2 (by omega) (by omega), Int.toNat_natCast, e, Option.bind_some, e1, lateQ_end]
      simp only [decide_true, Bool.and_self, cond_true]
      rfl
    · refine (sn2A_rd _ _ _ _ _ _ _ _ _ _ _ _ _ _).trans ?_
      rw [cond_neg (by omega)]
      rfl
theorem sinceA_ev (c1 c2 c3 c4 : Int) (now : Int) (f : List Seg) (b n z : Int) (rs : List Rec) : evFn (env consY0) H.since2 (LPof [(2, sn2ALC), (6, sn6ALC)]) F.state_State_since [.ptr 0 (.tl 0) 0, .int .i64 now] [boxO c1 c2 c3 c4, .arr 1 .bool [] [[.hw 2]], .arr 10 segT f [actT b n z], .log recT rs, .arr 1 .bool [] [[.nils]], .arr 1 .bool [] [[.nils]]] (finV (.int .i64) stAP 6) = bif smallL f && decide (rs.length ≤ 1000000000) then bif decide ((↑(segsL (f, b, n, z, rs)).length : Int) = (↑(segsL (f, b, n, z, rs)).length : Int)) && (firstFrom (lateAt now (segsL (f, b, n, z, rs))) 0 (segsL (f, b, n, z, rs)).length).isSome then some (((segsL (f, b, n, z, rs)).getD ((firstFrom (lateAt now (segsL (f, b, n, z, rs))) 0 (segsL (f, b, n, z, rs)).length).getD 0) segTy.zero).fst, (((), c1, c2, c3, c4, (), (), ()), ()), (((), ()), ()), (f, (b, n, (), (), (), (), (), (), z, (), ()), ()), rs, (((), ()), ()), (((), ()), ()), ()) else bif decide ((↑(segsL (f, b, n, z, rs)).length : Int) = (↑(segsL (f, b, n, z, rs)).length : Int)) && true then bif decide (f.length ≤ 1000000000) then some (n, (((), c1, c2, c3, c4, (), (), ()), ()), (((), ()), ()), (f, (b, n, (), (), (), (), (), (), z, (), ()), ()), rs, (((), ()), ()), (((), ()), ()), ()) else none else none else none := by kernel_rfl

def caseSinceA : VCase := ⟨[.lit (.ptr 0 (.tl 0) 0), .int .i64], stAP, .int .i64, stAP, fun ⟨_, now, _⟩ ⟨⟨⟨_, c1, c2, c3, c4, _, _, _⟩, _⟩, _, ⟨f, ⟨b, n, _, _, _, _, _, _, z, _, _⟩, _⟩, rs, _, _, _⟩ =>
  [(smallL f && decide (List.length rs ≤ 1000000000), ((lateB now (f, b, n, z, rs)).getD n, ((((), c1, c2, c3, c4, (), (), ()), ()), (((), ()), ()), (f, (b, n, (), (), (), (), (), (), z, (), ()), ()), rs, (((), ()), ()), (((), ()), ()), ())))]⟩
theorem sinceA_ok : caseSinceA.e.ok P0 I.state_State_since := vcase_ok (c := caseSinceA) (H := H.since2) (E := env consY0) (env_ok consY0_ok) glob0 mixed0 G.state_State_since Bd.state_State_since (by kernel_rfl) (loops_good (tab := [(2, sn2ALC), (6, sn6ALC)]) (by kernel_rfl) (fun x hx => by simp at hx; rcases hx with rfl | rfl; exact sn2A_lok; exact sn6A_lok)) fun ⟨_, now, _⟩ ⟨⟨⟨_, c1, c2, c3, c4, _, _, _⟩, _⟩, _, ⟨f, ⟨b, n, _, _, _, _, _, _, z, _, _⟩, _⟩, rs, _, _, _⟩ r h hw1 hw2 => by
  obtain ⟨hc, rfl⟩ := pick_pre h
  refine (sinceA_ev c1 c2 c3 c4 now f b n z rs).trans ?_
  have hs := since_eq now (f, b, n, z, rs) n
  have hc : (smallL f && decide (List.length rs ≤ 1000000000)) = true := hc
  have hf : decide (List.length f ≤ 1000000000) = true := by
    simp only [Bool.and_eq_true] at hc
    have := hc.1
    unfold smallL at this
    simp only [Bool.and_eq_true] at this
    exact this.1
  rw [hc, hf, ← hs]
  simp only [decide_true, Bool.true_and, cond_true]
  show (bif (firstFrom (lateAt now (segsL (f, b, n, z, rs))) 0 (segsL (f, b, n, z, rs)).length).isSome then _ else _) = _
  have e : (fun k => lateG now ((segsL (f, b, n, z, rs)).getD k segTy.zero)) = lateAt now (segsL (f, b, n, z, rs)) := rfl
  rw [e]
  cases firstFrom (lateAt now (segsL (f, b, n, z, rs))) 0 (segsL (f, b, n, z, rs)).length <;> rfl

abbrev stBP : List OPat := [boxP, .box 1 [[.lit (.hw 2)]], .arr 10 segT [actTP], .log recT, .box 1 [[.lit .nils]], .box 1 [[.lit (.hw 6)]], .arr 3 XD.rowT []]
theorem sn6B_rd {R : Type} (c1 c2 c3 c4 : Int) (now i m k r0 : Int) (q : Bool) (l : List Seg) (xs : List Rec) (g : Seg) (f : List Seg) (b n z : Int) (rs : List Rec) (ps : List Row3) (K : Ex → St → Option R) : roundK (env consY0) H.since2 7 (LPof []) VS6 L.state_State_since_6 ⟨[(0, .ptr 0 (.tl 0) 0), (1, .int .i64 now), (4, .int .i64 r0), (6, .ptr 7 (.tl 0) 0), (7, .bool q), (14, .vl segT l), (15, .int .i64 l.length), (16, .int .i64 i), (29, .vl recT xs), (30, .int .i64 m), (31, .int .i64 k)], [(0, boxO c1 c2 c3 c4), (1, .arr 1 .bool [] [[.hw 2]]), (2, .arr 10 segT f [actT b n z]), (3, .log recT rs), (4, .arr 1 .bool [] [[.nils]]), (5, .arr 1 .bool [] [[.hw 6]]), (6, .arr 3 XD.rowT ps []), (7, segBO g)], 8⟩ K = bif decide (k < m) then bif decide ((0 : Int) ≤ k) && decide (k < (↑xs.length : Int)) then Option.bind (bif q then some true else bif !g.snd.snd.snd.snd.snd.fst then some (decide ((xs.getD k.toNat recTy.zero).snd.fst ≥ now)) else some false) fun v => K Ex.normal { slots := [(0, AV.ptr 0 (Elt.tl 0) 0), (1, AV.int IntKind.i64 now), (4, AV.int IntKind.i64 r0), (6, AV.ptr 7 (Elt.tl 0) 0), (7, AV.bool v), (14, AV.vl segTy l), (15, AV.int IntKind.i64 (↑l.length : Int)), (16, AV.int IntKind.i64 i), (29, AV.vl recTy xs), (30, AV.int IntKind.i64 m), (31, AV.int IntKind.i64 (IntKind.i64.wrap (k + (1 : Int))))], objs := [(0, AObj.arr 7 Ty.bool [] [[AV.ptr 1 (Elt.tl 0) 0, AV.int IntKind.i64 c1, AV.int IntKind.i64 c2, AV.int IntKind.i64 c3, AV.int IntKind.i64 c4, AV.ptr 4 (Elt.tl 0) 0, AV.ptr 5 (Elt.tl 0) 0]]), (1, AObj.arr 1 Ty.bool [] [[AV.hw 2]]), (2, AObj.arr 10 segTy f [[AV.int IntKind.i64 b, AV.int IntKind.i64 n, AV.int IntKind.i64 (0 : Int), AV.int IntKind.i64 (0 : Int), AV.hw 3, AV.bool false, AV.bool false, AV.bool false, AV.int IntKind.i64 z, AV.int IntKind.u32 (0 : Int)]]), (3, AObj.log recTy rs), (4, AObj.arr 1 Ty.bool [] [[AV.nils]]), (5, AObj.arr 1 Ty.bool [] [[AV.hw 6]]), (6, AObj.arr 3 ((Ty.int IntKind.i64).pair ((Ty.int IntKind.i64).pair (Ty.int IntKind.i64))) ps []), (7, AObj.arr 10 Ty.bool [] [[AV.int IntKind.i64 g.fst, AV.int IntKind.i64 g.snd.fst, AV.int IntKind.i64 g.snd.snd.fst, AV.int IntKind.i64 g.snd.snd.snd.fst, AV.vl recTy g.snd.snd.snd.snd.fst, AV.bool g.snd.snd.snd.snd.snd.fst, AV.bool g.snd.snd.snd.snd.snd.snd.fst, AV.bool g.snd.snd.snd.snd.snd.snd.snd.fst, AV.int IntKind.i64 g.snd.snd.snd.snd.snd.snd.snd.snd.fst, AV.int IntKind.u32 g.snd.snd.snd.snd.snd.snd.snd.snd.snd]])], nx := 8 } else none else K (Ex.exit 2) { slots := [(0, AV.ptr 0 (Elt.tl 0) 0), (1, AV.int IntKind.i64 now), (4, AV.int IntKind.i64 r0), (6, AV.ptr 7 (Elt.tl 0) 0), (7, AV.bool q), (14, AV.vl segTy l), (15, AV.int IntKind.i64 (↑l.length : Int)), (16, AV.int IntKind.i64 i), (29, AV.vl recTy xs), (30, AV.int IntKind.i64 m), (31, AV.int IntKind.i64 k)], objs := [(0, AObj.arr 7 Ty.bool [] [[AV.ptr 1 (Elt.tl 0) 0, AV.int IntKind.i64 c1, AV.int IntKind.i64 c2, AV.int IntKind.i64 c3, AV.int IntKind.i64 c4, AV.ptr 4 (Elt.tl 0) 0, AV.ptr 5 (Elt.tl 0) 0]]), (1, AObj.arr 1 Ty.bool [] [[AV.hw 2]]), (2, AObj.arr 10 segTy f [[AV.int IntKind.i64 b, AV.int IntKind.i64 n, AV.int IntKind.i64 (0 : Int), AV.int IntKind.i64 (0 : Int), AV.hw 3, AV.bool false, AV.bool false, AV.bool false, AV.int IntKind.i64 z, AV.int IntKind.u32 (0 : Int)]]), (3, AObj.log recTy rs), (4, AObj.arr 1 Ty.bool [] [[AV.nils]]), (5, AObj.arr 1 Ty.bool [] [[AV.hw 6]]), (6, AObj.arr 3 ((Ty.int IntKind.i64).pair ((Ty.int IntKind.i64).pair (Ty.int IntKind.i64))) ps []), (7, AObj.arr 10 Ty.bool [] [[AV.int IntKind.i64 g.fst, AV.int IntKind.i64 g.snd.fst, AV.int IntKind.i64 g.snd.snd.fst, AV.int IntKind.i64 g.snd.snd.snd.fst, AV.vl recTy g.snd.snd.snd.snd.fst, AV.bool g.snd.snd.snd.snd.snd.fst, AV.bool g.snd.snd.snd.snd.snd.snd.fst, AV.bool g.snd.snd.snd.snd.snd.snd.snd.fst, AV.int IntKind.i64 g.snd.snd.snd.snd.snd.snd.snd.snd.fst, AV.int IntKind.u32 g.snd.snd.snd.snd.snd.snd.snd.snd.snd]])], nx := 8 } := by kernel_rfl

def sn6BSt (c1 c2 c3 c4 : Int) (now i r0 : Int) (q : Bool) (l : List Seg) (xs : List Rec) (g : Seg) (f : List Seg) (b n z : Int) (rs : List Rec) (ps : List Row3) (k : Nat) : St := ⟨[(0, .ptr 0 (.tl 0) 0), (1, .int .i64 now), (4, .int .i64 r0), (6, .ptr 7 (.tl 0) 0), (7, .bool (lateQ now g.2.2.2.2.2.1 xs q k)), (14, .vl segT l), (15, .int .i64 l.length), (16, .int .i64 i), (29, .vl recT xs), (30, .int .i64 xs.length), (31, .int .i64 k)], [(0, boxO c1 c2 c3 c4), (1, .arr 1 .bool [] [[.hw 2]]), (2, .arr 10 segT f [actT b n z]), (3, .log recT rs), (4, .arr 1 .bool [] [[.nils]]), (5, .arr 1 .bool [] [[.hw 6]]), (6, .arr 3 XD.rowT ps []), (7, segBO g)], 8⟩
theorem sn6B_rounds {R : Type} (c1 c2 c3 c4 : Int) (now i r0 : Int) (q : Bool) (l : List Seg) (xs : List Rec) (hx : xs.length ≤ maxL) (g : Seg) (f : List Seg) (b n z : Int) (rs : List Rec) (ps : List Row3) (K : Ex → St → Option R) : ∀ (m k : Nat), k + m = xs.length →
    rounds (env consY0) H.since2 7 (LPof []) VS6 L.state_State_since_6 (m + 1) (sn6BSt c1 c2 c3 c4 now i r0 q l xs g f b n z rs ps k) K = K (.exit 2) (sn6BSt c1 c2 c3 c4 now i r0 q l xs g f b n z rs ps xs.length)
  | 0, k, h => by
    obtain rfl : k = xs.length := by omega
    rw [rounds_succ']
    refine (sn6B_rd _ _ _ _ _ _ _ _ _ _ _ _ _ _ _ _ _ _ _ _).trans ?_
    rw [cond_neg (by omega)]
    rfl
  | m + 1, k, h => by
    have ih := sn6B_rounds c1 c2 c3 c4 now i r0 q l xs hx g f b n z rs ps K m (k + 1) (by omega)
    unfold maxL at hx
    have e1 : IntKind.i64.wrap ((k : Int) + 1) = ((k + 1 : Nat) : Int) := by rw [wrap64 (by omega) (by omega)]; omega
    rw [rounds_succ']
    refine (sn6B_rd _ _ _ _ _ _ _ _ _ _ _ _ _ _ _ _ _ _ _ _).trans ?_
    rw [cond_pos (by omega), cond_pos2 (by omega) (by omega), Int.toNat_natCast, e1]
    have e : ∀ (a b c : Bool), (bif a then some true else bif b then some c else some false) = some (a || (b && c)) := fun a b c => by cases a <;> cases b <;> rfl
    rw [e, Option.bind_some]
    exact ih
abbrev sn6BLC : LoopC := LoopC.of ⟨[(0, .lit (.ptr 0 (.tl 0) 0)), (1, .int .i64), (4, .int .i64), (6, .lit (.ptr 7 (.tl 0) 0)), (7, .bool), (14, .vl segT), (15, .int .i64), (16, .int .i64), (29, .vl recT), (30, .int .i64), (31, .int .i64)], [boxP, .box 1 [[.lit (.hw 2)]], .arr 10 segT [actTP], .log recT, .box 1 [[.lit .nils]], .box 1 [[.lit (.hw 6)]], .arr 3 XD.rowT [], segBP]⟩
  (fun ⟨⟨_, now, r0, _, q, l, nl, i, xs, m, k, _⟩, ⟨⟨⟨_, c1, c2, c3, c4, _, _, _⟩, _⟩, _, ⟨f, ⟨b, n, _, _, _, _, _, _, z, _, _⟩, _⟩, rs, _, _, ⟨ps, _⟩, ⟨⟨g1, g2, g3, g4, g5, g6, g7, g8, g9, g10, _⟩, _⟩, _⟩⟩ => decide (k = (0 : Int)) && decide (m = (List.length xs : Int)) && decide (nl = (List.length l : Int)))
  fun ⟨⟨_, now, r0, _, q, l, nl, i, xs, m, k, _⟩, ⟨⟨⟨_, c1, c2, c3, c4, _, _, _⟩, _⟩, _, ⟨f, ⟨b, n, _, _, _, _, _, _, z, _, _⟩, _⟩, rs, _, _, ⟨ps, _⟩, ⟨⟨g1, g2, g3, g4, g5, g6, g7, g8, g9, g10, _⟩, _⟩, _⟩⟩ => [(true, .exit 2, sn6BSt c1 c2 c3 c4 now i r0 q l xs (g1, g2, g3, g4, g5, g6, g7, g8, g9, g10) f b n z rs ps (List.length xs))]
theorem sn6B_lok : LoopOK P0 H.since2 7 L.state_State_since_6 sn6BLC :=
  loop_ok_of (env_ok consY0_ok) glob0 mixed0 noLoops VS6 (by decide) fun ⟨⟨_, now, r0, _, q, l, nl, i, xs, m, k, _⟩, ⟨⟨⟨_, c1, c2, c3, c4, _, _, _⟩, _⟩, _, ⟨f, ⟨b, n, _, _, _, _, _, _, z, _, _⟩, _⟩, rs, _, _, ⟨ps, _⟩, ⟨⟨g1, g2, g3, g4, g5, g6, g7, g8, g9, g10, _⟩, _⟩, _⟩⟩ h hw => by
    simp only [Bool.and_eq_true, decide_eq_true_eq] at h
    obtain ⟨⟨rfl, rfl⟩, rfl⟩ := h
    exact ⟨_, sn6B_rounds c1 c2 c3 c4 now i r0 q l xs hw.1.2.2.2.2.2.2.2.2.1.1 (g1, g2, g3, g4, g5, g6, g7, g8, g9, g10) f b n z rs ps _ xs.length 0 (Nat.zero_add _)⟩
theorem sn2B_rd {R : Type} (c1 c2 c3 c4 : Int) (now i r0 : Int) (l : List Seg) (f : List Seg) (b n z : Int) (rs : List Rec) (ps : List Row3) (K : Ex → St → Option R) : roundK (env consY0) H.since2 7 (LPof [(6, sn6BLC)]) V.state_State_since_2 L.state_State_since_2 ⟨[(0, .ptr 0 (.tl 0) 0), (1, .int .i64 now), (4, .int .i64 r0), (14, .vl segT l), (15, .int .i64 l.length), (16, .int .i64 i)], [(0, boxO c1 c2 c3 c4), (1, .arr 1 .bool [] [[.hw 2]]), (2, .arr 10 segT f [actT b n z]), (3, .log recT rs), (4, .arr 1 .bool [] [[.nils]]), (5, .arr 1 .bool [] [[.hw 6]]), (6, .arr 3 XD.rowT ps [])], 7⟩ K = bif decide (i < (↑l.length : Int)) then bif decide ((0 : Int) ≤ i) && decide (i < (↑l.length : Int)) then Option.bind (bif (l.getD i.toNat segTy.zero).snd.snd.snd.snd.snd.fst then some (decide ((l.getD i.toNat segTy.zero).snd.snd.fst ≥ now)) else some false) fun v => bif decide ((↑(List.length (l.getD i.toNat segTy.zero).snd.snd.snd.snd.fst) : Int) = (↑(List.length (l.getD i.toNat segTy.zero).snd.snd.snd.snd.fst) : Int)) && decide ((↑l.length : Int) = (↑l.length : Int)) && true then bif lateQ now (l.getD i.toNat segTy.zero).snd.snd.snd.snd.snd.fst (l.getD i.toNat segTy.zero).snd.snd.snd.snd.fst v (List.length (l.getD i.toNat segTy.zero).snd.snd.snd.snd.fst) then K Ex.ret { slots := [(0, AV.ptr 0 (Elt.tl 0) 0), (1, AV.int IntKind.i64 now), (4, AV.int IntKind.i64 (l.getD i.toNat segTy.zero).fst), (14, AV.vl segTy l), (15, AV.int IntKind.i64 (↑l.length : Int)), (16, AV.int IntKind.i64 i)], objs := [(0, AObj.arr 7 Ty.bool [] [[AV.ptr 1 (Elt.tl 0) 0, AV.int IntKind.i64 c1, AV.int IntKind.i64 c2, AV.int IntKind.i64 c3, AV.int IntKind.i64 c4, AV.ptr 4 (Elt.tl 0) 0, AV.ptr 5 (Elt.tl 0) 0]]), (1, AObj.arr 1 Ty.bool [] [[AV.hw 2]]), (2, AObj.arr 10 segTy f [[AV.int IntKind.i64 b, AV.int IntKind.i64 n, AV.int IntKind.i64 (0 : Int), AV.int IntKind.i64 (0 : Int), AV.hw 3, AV.bool false, AV.bool false, AV.bool false, AV.int IntKind.i64 z, AV.int IntKind.u32 (0 : Int)]]), (3, AObj.log recTy rs), (4, AObj.arr 1 Ty.bool [] [[AV.nils]]), (5, AObj.arr 1 Ty.bool [] [[AV.hw 6]]), (6, AObj.arr 3 ((Ty.int IntKind.i64).pair ((Ty.int IntKind.i64).pair (Ty.int IntKind.i64))) ps [])], nx := 7 } else K Ex.normal { slots := [(0, AV.ptr 0 (Elt.tl 0) 0), (1, AV.int IntKind.i64 now), (4, AV.int IntKind.i64 r0), (14, AV.vl segTy l), (15, AV.int IntKind.i64 (↑l.length : Int)), (16, AV.int IntKind.i64 (IntKind.i64.wrap (i + (1 : Int))))], objs := [(0, AObj.arr 7 Ty.bool [] [[AV.ptr 1 (Elt.tl 0) 0, AV.int IntKind.i64 c1, AV.int IntKind.i64 c2, AV.int IntKind.i64 c3, AV.int IntKind.i64 c4, AV.ptr 4 (Elt.tl 0) 0, AV.ptr 5 (Elt.tl 0) 0]]), (1, AObj.arr 1 Ty.bool [] [[AV.hw 2]]), (2, AObj.arr 10 segTy f [[AV.int IntKind.i64 b, AV.int IntKind.i64 n, AV.int IntKind.i64 (0 : Int), AV.int IntKind.i64 (0 : Int), AV.hw 3, AV.bool false, AV.bool false, AV.bool false, AV.int IntKind.i64 z, AV.int IntKind.u32 (0 : Int)]]), (3, AObj.log recTy rs), (4, AObj.arr 1 Ty.bool [] [[AV.nils]]), (5, AObj.arr 1 Ty.bool [] [[AV.hw 6]]), (6, AObj.arr 3 ((Ty.int IntKind.i64).pair ((Ty.int IntKind.i64).pair (Ty.int IntKind.i64))) ps [])], nx := 7 } else none else none else K (Ex.exit 0) { slots := [(0, AV.ptr 0 (Elt.tl 0) 0), (1, AV.int IntKind.i64 now), (4, AV.int IntKind.i64 r0), (14, AV.vl segTy l), (15, AV.int IntKind.i64 (↑l.length : Int)), (16, AV.int IntKind.i64 i)], objs := [(0, AObj.arr 7 Ty.bool [] [[AV.ptr 1 (Elt.tl 0) 0, AV.int IntKind.i64 c1, AV.int IntKind.i64 c2, AV.int IntKind.i64 c3, AV.int IntKind.i64 c4, AV.ptr 4 (Elt.tl 0) 0, AV.ptr 5 (Elt.tl 0) 0]]), (1, AObj.arr 1 Ty.bool [] [[AV.hw 2]]), (2, AObj.arr 10 segTy f [[AV.int IntKind.i64 b, AV.int IntKind.i64 n, AV.int IntKind.i64 (0 : Int), AV.int IntKind.i64 (0 : Int), AV.hw 3, AV.bool false, AV.bool false, AV.bool false, AV.int IntKind.i64 z, AV.int IntKind.u32 (0 : Int)]]), (3, AObj.log recTy rs), (4, AObj.arr 1 Ty.bool [] [[AV.nils]]), (5, AObj.arr 1 Ty.bool [] [[AV.hw 6]]), (6, AObj.arr 3 ((Ty.int IntKind.i64).pair ((Ty.int IntKind.i64).pair (Ty.int IntKind.i64))) ps [])], nx := 7 } := by kernel_rfl
def sn2BSt (c1 c2 c3 c4 : Int) (now r0 : Int) (l : List Seg) (f : List Seg) (b n z : Int) (rs : List Rec) (ps : List Row3) (i : Nat) : St := ⟨[(0, .ptr 0 (.tl 0) 0), (1, .int .i64 now), (4, .int .i64 r0), (14, .vl segT l), (15, .int .i64 l.length), (16, .int .i64 i)], [(0, boxO c1 c2 c3 c4), (1, .arr 1 .bool [] [[.hw 2]]), (2, .arr 10 segT f [actT b n z]), (3, .log recT rs), (4, .arr 1 .bool [] [[.nils]]), (5, .arr 1 .bool [] [[.hw 6]]), (6, .arr 3 XD.rowT ps [])], 7⟩
abbrev sn2BLC : LoopC := LoopC.of ⟨[(0, .lit (.ptr 0 (.tl 0) 0)), (1, .int .i64), (4, .int .i64), (14, .vl segT), (15, .int .i64), (16, .int .i64)], stBP⟩
  (fun ⟨⟨_, now, r0, l, nl, i, _⟩, ⟨⟨⟨_, c1, c2, c3, c4, _, _, _⟩, _⟩, _, ⟨f, ⟨b, n, _, _, _, _, _, _, z, _, _⟩, _⟩, rs, _, _, ⟨ps, _⟩, _⟩⟩ => decide (i = (0 : Int)) && decide (nl = (List.length l : Int)))
  fun ⟨⟨_, now, r0, l, nl, i, _⟩, ⟨⟨⟨_, c1, c2, c3, c4, _, _, _⟩, _⟩, _, ⟨f, ⟨b, n, _, _, _, _, _, _, z, _, _⟩, _⟩, rs, _, _, ⟨ps, _⟩, _⟩⟩ =>
    [((firstFrom (lateAt now l) 0 (List.length l)).isSome, .ret, sn2BSt c1 c2 c3 c4 now (l.getD ((firstFrom (lateAt now l) 0 (List.length l)).getD 0) segTy.zero).1 l f b n z rs ps ((firstFrom (lateAt now l) 0 (List.length l)).getD 0)), (true, .exit 0, sn2BSt c1 c2 c3 c4 now r0 l f b n z rs ps (List.length l))]
theorem sn2B_lok : LoopOK P0 H.since2 7 L.state_State_since_2 sn2BLC :=
  loop_ok_of (env_ok consY0_ok) glob0 mixed0 (loops_good (tab := [(6, sn6BLC)]) (by kernel_rfl) (fun x hx => by simp at hx; subst hx; exact sn6B_lok)) V.state_State_since_2 (by decide) fun ⟨⟨_, now, r0, l, nl, i, _⟩, ⟨⟨⟨_, c1, c2, c3, c4, _, _, _⟩, _⟩, _, ⟨f, ⟨b, n, _, _, _, _, _, _, z, _, _⟩, _⟩, rs, _, _, ⟨ps, _⟩, _⟩⟩ h hw => by
    simp only [Bool.and_eq_true, decide_eq_true_eq] at h
    obtain ⟨rfl, rfl⟩ := h
    have hl : List.length l ≤ maxL := hw.1.2.2.2.1.1
    unfold maxL at hl
    refine ⟨_, Eq.trans (search_rounds (S := sn2BSt c1 c2 c3 c4 now r0 l f b n z rs ps) (T := fun i => sn2BSt c1 c2 c3 c4 now (l.getD i segTy.zero).1 l f b n z rs ps i) (p := lateAt now l) (n := List.length l) (e1 := .ret) (e2 := .exit 0) (s2 := sn2BSt c1 c2 c3 c4 now r0 l f b n z rs ps (List.length l)) (by simp) (by simp) (fun i hi K => ?_) (fun K => ?_) _ (List.length l) 0 (by omega)) search_pick⟩
    · refine (sn2B_rd _ _ _ _ _ _ _ _ _ _ _ _ _ _ _).trans ?_
      have e1 : IntKind.i64.wrap ((i : Int) + 1) = ((i + 1 : Nat) : Int) := by rw [wrap64 (by omega) (by omega)]; omega
      have e : ∀ (a c : Bool), (bif a then some c else some false) = some (a && c) := fun a c => by cases a <;> rfl
      rw [cond_pos (by omega), cond_pos2 (by omega) (by omega), Int.toNat_natCast, e, Option.bind_some, e1, lateQ_end]
      simp only [decide_true, Bool.and_self, cond_true]
      rfl
    · refine (sn2B_rd _ _ _ _ _ _ _ _ _ _ _ _ _ _ _).trans ?_
      rw [cond_neg (by omega)]
      rfl
theorem sinceB_ev (c1 c2 c3 c4 : Int) (now : Int) (f : List Seg) (b n z : Int) (rs : List Rec) (ps : List Row3) : evFn (env consY0) H.since2 (LPof [(2, sn2BLC), (6, sn6BLC)]) F.state_State_since [.ptr 0 (.tl 0) 0, .int .i64 now] [boxO c1 c2 c3 c4, .arr 1 .bool [] [[.hw 2]], .arr 10 segT f [actT b n z], .log recT rs, .arr 1 .bool [] [[.nils]], .arr 1 .bool [] [[.hw 6]], .arr 3 XD.rowT ps []] (finV (.int .i64) stBP 7) = bif smallL f && decide (rs.length ≤ 1000000000) then bif decide ((↑(segsL (f, b, n, z, rs)).length : Int) = (↑(segsL (f, b, n, z, rs)).length : Int)) && (firstFrom (lateAt now (segsL (f, b, n, z, rs))) 0 (segsL (f, b, n, z, rs)).length).isSome then some (((segsL (f, b, n, z, rs)).getD ((firstFrom (lateAt now (segsL (f, b, n, z, rs))) 0 (segsL (f, b, n, z, rs)).length).getD 0) segTy.zero).fst, (((), c1, c2, c3, c4, (), (), ()), ()), (((), ()), ()), (f, (b, n, (), (), (), (), (), (), z, (), ()), ()), rs, (((), ()), ()), (((), ()), ()), (ps, ()), ()) else bif decide ((↑(segsL (f, b, n, z, rs)).length : Int) = (↑(segsL (f, b, n, z, rs)).length : Int)) && true then bif decide (f.length ≤ 1000000000) then some (n, (((), c1, c2, c3, c4, (), (), ()), ()), (((), ()), ()), (f, (b, n, (), (), (), (), (), (), z, (), ()), ()), rs, (((), ()), ()), (((), ()), ()), (ps, ()), ()) else none else none else none := by kernel_rfl

def caseSinceB : VCase := ⟨[.lit (.ptr 0 (.tl 0) 0), .int .i64], stBP, .int .i64, stBP, fun ⟨_, now, _⟩ ⟨⟨⟨_, c1, c2, c3, c4, _, _, _⟩, _⟩, _, ⟨f, ⟨b, n, _, _, _, _, _, _, z, _, _⟩, _⟩, rs, _, _, ⟨ps, _⟩, _⟩ =>
  [(smallL f && decide (List.length rs ≤ 1000000000), ((lateB now (f, b, n, z, rs)).getD n, ((((), c1, c2, c3, c4, (), (), ()), ()), (((), ()), ()), (f, (b, n, (), (), (), (), (), (), z, (), ()), ()), rs, (((), ()), ()), (((), ()), ()), (ps, ()), ())))]⟩
theorem sinceB_ok : caseSinceB.e.ok P0 I.state_State_since := vcase_ok (c := caseSinceB) (H := H.since2) (E := env consY0) (env_ok consY0_ok) glob0 mixed0 G.state_State_since Bd.state_State_since (by kernel_rfl) (loops_good (tab := [(2, sn2BLC), (6, sn6BLC)]) (by kernel_rfl) (fun x hx => by simp at hx; rcases hx with rfl | rfl; exact sn2B_lok; exact sn6B_lok)) fun ⟨_, now, _⟩ ⟨⟨⟨_, c1, c2, c3, c4, _, _, _⟩, _⟩, _, ⟨f, ⟨b, n, _, _, _, _, _, _, z, _, _⟩, _⟩, rs, _, _, ⟨ps, _⟩, _⟩ r h hw1 hw2 => by
  obtain ⟨hc, rfl⟩ := pick_pre h
  refine (sinceB_ev c1 c2 c3 c4 now f b n z rs ps).trans ?_
  have hs := since_eq now (f, b, n, z, rs) n
  have hc : (smallL f && decide (List.length rs ≤ 1000000000)) = true := hc
  have hf : decide (List.length f ≤ 1000000000) = true := by
    simp only [Bool.and_eq_true] at hc
    have := hc.1
    unfold smallL at this
    simp only [Bool.and_eq_true] at this
    exact this.1
  rw [hc, hf, ← hs]
  simp only [decide_true, Bool.true_and, cond_true]
  show (bif (firstFrom (lateAt now (segsL (f, b, n, z, rs))) 0 (segsL (f, b, n, z, rs)).length).isSome then _ else _) = _
  have e : (fun k => lateG now ((segsL (f, b, n, z, rs)).getD k segTy.zero)) = lateAt now (segsL (f, b, n, z, rs)) := rfl
  rw [e]
  cases firstFrom (lateAt now (segsL (f, b, n, z, rs))) 0 (segsL (f, b, n, z, rs)).length <;> rfl


end Go.Sim
namespace Go.Sim
set_option linter.unusedSimpArgs false
set_option linter.unusedVariables false
set_option maxRecDepth 10000
open Go.Sim.XU
def caseAlive16 : PCase := ⟨[], [.bool], fun _ => [(true, (true, ()))]⟩
theorem alive16_ok : caseAlive16.ok P0 I.cooperagelaw16_alive := case_ok2 (H := H.al16) (E := env consQ3) (env_ok consQ3_ok) glob0 mixed0 G.cooperagelaw16_alive Bd.cooperagelaw16_alive (by kernel_rfl) noLoops fun x y h hw => by
  obtain ⟨hc, rfl⟩ := pick_pre h
  exact alive16_ev
end Go.Sim
namespace Go.Sim
set_option linter.unusedSectionVars false
def LPs {R : Type} (tab : List (Nat × List LoopC)) : Loops R := fun id s K => match lk? tab id with
  | some cs => cs.foldr (fun c rest => match c.pat.view s with
      | some x => pickK (fun r => K r.1 r.2) (c.f x)
      | none => rest) none
  | none => none
section
variable {P : Program} [Tabs P] {E : Env} {H : Hint} {k0 : Nat} {R : Type}
theorem LPs_good {tab : List (Nat × List LoopC)} {c : Code} (h : ∀ b ∈ loopsIn c, ∀ cs, lk? tab (firstRegion b) = some cs → ∀ lc ∈ cs, LoopOK P H k0 b lc) : LoopsGood P H k0 (LPs (R := R) tab) c := fun b hb s K r hr => by
  unfold LPs at hr
  split at hr
  · rename_i cs hcs
    have h := h b hb cs hcs
    clear hcs
    induction cs with
    | nil => cases hr
    | cons c cs ih =>
      simp only [List.foldr_cons] at hr
      split at hr
      · rename_i x hx
        obtain ⟨⟨e, s'⟩, hp, hr⟩ := pickK_sound hr
        obtain ⟨hk, h2⟩ := h c List.mem_cons_self
        exact ⟨e, s', hr, CodeGood.before (SPat.view_tells hx) fun own φ β a w hrel => h2 x e s' hp (SPat.rel_wf hk hrel) own φ β a w hrel⟩
      · exact ih hr fun lc hlc => h lc (List.mem_cons_of_mem _ hlc)
  · cases hr
theorem loopsS_good {tab : List (Nat × List LoopC)} {c : Code} (hd : distinctB ((loopsIn c).map firstRegion) = true) (h : ∀ x ∈ tab, ∀ lc ∈ x.2, LoopOK P H k0 (findL x.1 (loopsIn c)) lc) : LoopsGood P H k0 (LPs (R := R) tab) c :=
  LPs_good fun b hb cs hcs lc hlc => by
    have := h _ (lk?_mem hcs) lc hlc
    rw [findL_mem hd hb] at this
    exact this
theorem loop_ok_ofS (hE : EnvOK P E) (hg : GlobOK P E) (hm : P.follows .mixedOrders = true) {b : Code} {LP : Loops (Ex × St)} (hb : LoopsGood P H k0 LP b) (live : List Nat) {pat : SPat} {pre : pat.den → Bool} {alts : pat.den → List (Bool × Ex × St)} (hk : pat.keys = true)
    (h : ∀ x, pre x = true → pat.wf x → ∃ n, rounds E H k0 LP live b n (pat.mk' x) (fun e s => some (e, s)) = pick (alts x)) : LoopOK P H k0 b (LoopC.of pat pre alts) :=
  ⟨hk, fun x e s' hp hw => by
    obtain ⟨h1, h2⟩ := pick_all hp
    obtain ⟨n, hn⟩ := h x h1 hw
    exact loop_good hE hg hm hb (hn.trans h2)⟩
end
end Go.Sim
namespace Go.Sim
set_option linter.unusedSimpArgs false
set_option linter.unusedVariables false
set_option maxRecDepth 10000
open Go.Sim.XU
noncomputable abbrev consO1 : List (FuncId × Con) := [(I.state_failed, inl (env []) H.state_failed F.state_failed (fun R k0 => loopsF (env []) H.state_failed k0 B.state_failed 1)), (I.dedup_Table_Ask, .eff (effOf [XD.caseAsk.e, XD.caseAsk0.e])), (I.dedup_Table_Set, .eff (effOf [XD.caseSetO.e, XD.caseSet0.e])), (I.segs_Log_Append, .eff (effOf [XU.caseAppend.e])), (I.segs_Log_High, .eff (effOf [XU.caseHigh.e])), (I.segs_Log_Low, .eff (effOf [XU.caseLow.e])), (I.segs_New, .eff (effOf [XU.caseNew.e]))]
theorem consO1_ok : ∀ x ∈ consO1, HoldsC P0 x.1 x.2 := by
  intro x hx
  simp at hx
  rcases hx with rfl | rfl | rfl | rfl | rfl | rfl | rfl
  · exact inl_ok (env_ok env_nil) glob0 mixed0 G.state_failed Bd.state_failed C.state_failed (fun R k0 => loopsF_good (env_ok env_nil) glob0 mixed0 (by kernel_rfl) 1)
  · exact ⟨fun args objs r objs2 h _ => effOf_holds (by simp; exact ⟨XD.ask_ok, XD.ask0_ok⟩) args objs r objs2 h, C.dedup_Table_Ask⟩
  · exact ⟨fun args objs r objs2 h _ => effOf_holds (by simp; exact ⟨XD.seto_ok, XD.set0_ok⟩) args objs r objs2 h, C.dedup_Table_Set⟩
  · exact ⟨fun args objs r objs2 h _ => effOf_holds (by simp; exact XU.append_ok) args objs r objs2 h, C.segs_Log_Append⟩
  · exact ⟨fun args objs r objs2 h _ => effOf_holds (by simp; exact XU.high_ok) args objs r objs2 h, C.segs_Log_High⟩
  · exact ⟨fun args objs r objs2 h _ => effOf_holds (by simp; exact XU.low_ok) args objs r objs2 h, C.segs_Log_Low⟩
  · exact ⟨fun args objs r objs2 h _ => effOf_holds (by simp; exact XU.new_ok) args objs r objs2 h, C.segs_New⟩
noncomputable abbrev consO2 : List (FuncId × Con) := [(I.state_typed, inl (env []) H.state_typed F.state_typed (fun R k0 => loopsF (env []) H.state_typed k0 B.state_typed 1)), (I.state_State_produce, inl (env consO1) H.state_State_produce F.state_State_produce (fun R k0 => loopsF (env consO1) H.state_State_produce k0 B.state_State_produce 1)), (I.state_State_tidy, inl (env consO1) H.state_State_tidy F.state_State_tidy (fun R k0 => loopsF (env consO1) H.state_State_tidy k0 B.state_State_tidy 1)), (I.command_Right, .pure (pureOf [XS.caseCright])), (I.state_State_since, .eff (effOf [caseSinceA.e, caseSinceB.e]))] ++ consO1
theorem consO2_ok : ∀ x ∈ consO2, HoldsC P0 x.1 x.2 := by
  intro x hx
  rcases List.mem_append.1 hx with hx | hx
  · simp at hx
    rcases hx with rfl | rfl | rfl | rfl | rfl
    · exact inl_ok (env_ok env_nil) glob0 mixed0 G.state_typed Bd.state_typed C.state_typed (fun R k0 => loopsF_good (env_ok env_nil) glob0 mixed0 (by kernel_rfl) 1)
    · exact inl_ok (env_ok consO1_ok) glob0 mixed0 G.state_State_produce Bd.state_State_produce C.state_State_produce (fun R k0 => loopsF_good (env_ok consO1_ok) glob0 mixed0 (by kernel_rfl) 1)
    · exact inl_ok (env_ok consO1_ok) glob0 mixed0 G.state_State_tidy Bd.state_State_tidy C.state_State_tidy (fun R k0 => loopsF_good (env_ok consO1_ok) glob0 mixed0 (by kernel_rfl) 1)
    · exact ⟨pureOf_holds (by simp; exact XS.cright_ok), C.command_Right⟩
    · exact ⟨fun args objs r objs2 h _ => effOf_holds (by simp; exact ⟨sinceA_ok, sinceB_ok⟩) args objs r objs2 h, C.state_State_since⟩
  · exact consO1_ok x hx
noncomputable abbrev consX4 : List (FuncId × Con) := [(I.cooperagelaw10_Big, .pure (pureOf [XS.caseBig])), (I.cooperageref10_Right, .pure (pureOf [XS.caseRright])), (I.cooperagelaw16_alive, .pure (pureOf [caseAlive16])), (I.cooperagelaw16_num, .pure (pureOf [caseNum16])), (I.state_New, inl (env consO1) H.state_New F.state_New (fun R k0 => loopsF (env consO1) H.state_New k0 B.state_New 1)), (I.state_State_Apply, inl (env consO2) H.state_State_Apply F.state_State_Apply (fun R k0 => loopsF (env consO2) H.state_State_Apply k0 B.state_State_Apply 1))] ++ consO1
theorem consX4_ok : ∀ x ∈ consX4, HoldsC P0 x.1 x.2 := by
  intro x hx
  rcases List.mem_append.1 hx with hx | hx
  · simp at hx
    rcases hx with rfl | rfl | rfl | rfl | rfl | rfl
    · exact ⟨pureOf_holds (by simp; exact XS.big_ok), C.cooperagelaw10_Big⟩
    · exact ⟨pureOf_holds (by simp; exact XS.rright_ok), C.cooperageref10_Right⟩
    · exact ⟨pureOf_holds (by simp; exact alive16_ok), C.cooperagelaw16_alive⟩
    · exact ⟨pureOf_holds (by simp; exact num16_ok), C.cooperagelaw16_num⟩
    · exact inl_ok (env_ok consO1_ok) glob0 mixed0 G.state_New Bd.state_New C.state_New (fun R k0 => loopsF_good (env_ok consO1_ok) glob0 mixed0 (by kernel_rfl) 1)
    · exact inl_ok (env_ok consO2_ok) glob0 mixed0 G.state_State_Apply Bd.state_State_Apply C.state_State_Apply (fun R k0 => loopsF_good (env_ok consO2_ok) glob0 mixed0 (by kernel_rfl) 1)
  · exact consO1_ok x hx
def H.onc2 : Hint := { H.cooperagelaw16_StateOnce with join := [(4, 41), (16, 73)] }
abbrev actV (b n z : Int) : List AV := [.int .i64 b, .int .i64 n, .int .i64 0, .int .i64 0, .hw 4, .bool false, .bool false, .bool false, .int .i64 z, .int .u32 0]
abbrev actVP : List Pat := [.int .i64, .int .i64, .lit (.int .i64 0), .lit (.int .i64 0), .lit (.hw 4), .lit (.bool false), .lit (.bool false), .lit (.bool false), .int .i64, .lit (.int .u32 0)]
abbrev onN (pid sq : Int) (l : List Rec) (L : LogS) : List (Nat × AObj) := [(0, .arr 13 .bool [] [[.int .i64 1, .int .i64 pid, .int .i64 sq, .vl recT l, .str [], .int .i64 0, .int .i64 0, .int .i64 0, .int .u32 0, .int .i64 0, .int .i64 0, .int .i64 0, .int .i64 0]]), (1, .arr 7 .bool [] [[.ptr 2 (.tl 0) 0, .int .i64 100, .int .i64 0, .int .i64 0, .int .i64 0, .ptr 5 (.tl 0) 0, .ptr 6 (.tl 0) 0]]), (2, .arr 1 .bool [] [[.hw 3]]), (3, .arr 10 segT L.1 [actV L.2.1 L.2.2.1 L.2.2.2.1]), (4, .log recT L.2.2.2.2), (5, .arr 1 .bool [] [[.nils]]), (6, .arr 1 .bool [] [[.nils]])]
abbrev onR (pid sq : Int) (l : List Rec) (L : LogS) (ps : List Row3) : List (Nat × AObj) := [(0, .arr 13 .bool [] [[.int .i64 1, .int .i64 pid, .int .i64 sq, .vl recT l, .str [], .int .i64 0, .int .i64 0, .int .i64 0, .int .u32 0, .int .i64 0, .int .i64 0, .int .i64 0, .int .i64 0]]), (1, .arr 7 .bool [] [[.ptr 2 (.tl 0) 0, .int .i64 100, .int .i64 0, .int .i64 0, .int .i64 0, .ptr 5 (.tl 0) 0, .ptr 6 (.tl 0) 0]]), (2, .arr 1 .bool [] [[.hw 3]]), (3, .arr 10 segT L.1 [actV L.2.1 L.2.2.1 L.2.2.2.1]), (4, .log recT L.2.2.2.2), (5, .arr 1 .bool [] [[.nils]]), (6, .arr 1 .bool [] [[.hw 7]]), (7, .arr 3 XD.rowT ps [])]
abbrev onNP : List OPat := [.box 13 [[.lit (.int .i64 1), .int .i64, .int .i64, .vl recT, .lit (.str []), .lit (.int .i64 0), .lit (.int .i64 0), .lit (.int .i64 0), .lit (.int .u32 0), .lit (.int .i64 0), .lit (.int .i64 0), .lit (.int .i64 0), .lit (.int .i64 0)]], .box 7 [[.lit (.ptr 2 (.tl 0) 0), .lit (.int .i64 100), .lit (.int .i64 0), .lit (.int .i64 0), .lit (.int .i64 0), .lit (.ptr 5 (.tl 0) 0), .lit (.ptr 6 (.tl 0) 0)]], .box 1 [[.lit (.hw 3)]], .arr 10 segT [actVP], .log recT, .box 1 [[.lit .nils]], .box 1 [[.lit .nils]]]
abbrev onRP : List OPat := [.box 13 [[.lit (.int .i64 1), .int .i64, .int .i64, .vl recT, .lit (.str []), .lit (.int .i64 0), .lit (.int .i64 0), .lit (.int .i64 0), .lit (.int .u32 0), .lit (.int .i64 0), .lit (.int .i64 0), .lit (.int .i64 0), .lit (.int .i64 0)]], .box 7 [[.lit (.ptr 2 (.tl 0) 0), .lit (.int .i64 100), .lit (.int .i64 0), .lit (.int .i64 0), .lit (.int .i64 0), .lit (.ptr 5 (.tl 0) 0), .lit (.ptr 6 (.tl 0) 0)]], .box 1 [[.lit (.hw 3)]], .arr 10 segT [actVP], .log recT, .box 1 [[.lit .nils]], .box 1 [[.lit (.hw 7)]], .arr 3 XD.rowT []]
theorem o13n_rd {R : Type} (l l2 : List Rec) (ag : List Int) (pid sq wn i k : Int) (q : Bool) (f : List Seg) (b n z : Int) (rs : List Rec) (K : Ex → St → Option R) : roundK (env consX4) H.onc2 0 (LPof []) V.cooperagelaw16_StateOnce_13 L.cooperagelaw16_StateOnce_13 ⟨[(1, .vl recT l2), (2, .vl (.int .i64) ag), (6, .bool q), (8, .ptr 0 (.tl 0) 0), (10, .ptr 1 (.tl 0) 0), (11, .int .i64 wn), (12, .int .i64 i), (13, .int .i64 k)], onN pid sq l (f, b, n, z, rs), 7⟩ K = bif decide ((0 : Int) ≤ i) && decide (i < (↑ag.length : Int)) then bif decide (k ≤ IntKind.i64.wrap (↑(BitVec.ofInt 64 (ag.getD i.toNat (0 : Int)) &&& BitVec.ofInt 64 (3 : Int)).toNat : Int)) then bif !rightC ((1 : Int), pid, sq, l, [], (0 : Int), (0 : Int), (0 : Int), (0 : Int), (0 : Int), (0 : Int), (0 : Int), (0 : Int)) then K Ex.ret { slots := [(1, AV.vl recTy l2), (2, AV.vl (Ty.int IntKind.i64) ag), (6, AV.bool false), (8, AV.ptr 0 (Elt.tl 0) 0), (10, AV.ptr 1 (Elt.tl 0) 0), (11, AV.int IntKind.i64 wn), (12, AV.int IntKind.i64 i), (13, AV.int IntKind.i64 k)], objs := [(0, AObj.arr 13 Ty.bool [] [[AV.int IntKind.i64 (1 : Int), AV.int IntKind.i64 pid, AV.int IntKind.i64 sq, AV.vl recTy l, AV.str [], AV.int IntKind.i64 (0 : Int), AV.int IntKind.i64 (0 : Int), AV.int IntKind.i64 (0 : Int), AV.int IntKind.u32 (0 : Int), AV.int IntKind.i64 (0 : Int), AV.int IntKind.i64 (0 : Int), AV.int IntKind.i64 (0 : Int), AV.int IntKind.i64 (0 : Int)]]), (1, AObj.arr 7 Ty.bool [] [[AV.ptr 2 (Elt.tl 0) 0, AV.int IntKind.i64 (100 : Int), AV.int IntKind.i64 (0 : Int), AV.int IntKind.i64 (0 : Int), AV.int IntKind.i64 (0 : Int), AV.ptr 5 (Elt.tl 0) 0, AV.ptr 6 (Elt.tl 0) 0]]), (2, AObj.arr 1 Ty.bool [] [[AV.hw 3]]), (3, AObj.arr 10 segTy f [[AV.int IntKind.i64 b, AV.int IntKind.i64 n, AV.int IntKind.i64 (0 : Int), AV.int IntKind.i64 (0 : Int), AV.hw 4, AV.bool false, AV.bool false, AV.bool false, AV.int IntKind.i64 z, AV.int IntKind.u32 (0 : Int)]]), (4, AObj.log recTy rs), (5, AObj.arr 1 Ty.bool [] [[AV.nils]]), (6, AObj.arr 1 Ty.bool [] [[AV.nils]])], nx := 7 } else bif decide (pid > (0 : Int)) then bif (askL [] pid sq).fst == (1 : Int) then bif (askL [] pid sq).snd != wn then K Ex.ret { slots := [(1, AV.vl recTy l2), (2, AV.vl (Ty.int IntKind.i64) ag), (6, AV.bool false), (8, AV.ptr 0 (Elt.tl 0) 0), (10, AV.ptr 1 (Elt.tl 0) 0), (11, AV.int IntKind.i64 wn), (12, AV.int IntKind.i64 i), (13, AV.int IntKind.i64 k)], objs := [(0, AObj.arr 13 Ty.bool [] [[AV.int IntKind.i64 (1 : Int), AV.int IntKind.i64 pid, AV.int IntKind.i64 sq, AV.vl recTy l, AV.str [], AV.int IntKind.i64 (0 : Int), AV.int IntKind.i64 (0 : Int), AV.int IntKind.i64 (0 : Int), AV.int IntKind.u32 (0 : Int), AV.int IntKind.i64 (0 : Int), AV.int IntKind.i64 (0 : Int), AV.int IntKind.i64 (0 : Int), AV.int IntKind.i64 (0 : Int)]]), (1, AObj.arr 7 Ty.bool [] [[AV.ptr 2 (Elt.tl 0) 0, AV.int IntKind.i64 (100 : Int), AV.int IntKind.i64 (0 : Int), AV.int IntKind.i64 (0 : Int), AV.int IntKind.i64 (0 : Int), AV.ptr 5 (Elt.tl 0) 0, AV.ptr 6 (Elt.tl 0) 0]]), (2, AObj.arr 1 Ty.bool [] [[AV.hw 3]]), (3, AObj.arr 10 segTy f [[AV.int IntKind.i64 b, AV.int IntKind.i64 n, AV.int IntKind.i64 (0 : Int), AV.int IntKind.i64 (0 : Int), AV.hw 4, AV.bool false, AV.bool false, AV.bool false, AV.int IntKind.i64 z, AV.int IntKind.u32 (0 : Int)]]), (4, AObj.log recTy rs), (5, AObj.arr 1 Ty.bool [] [[AV.nils]]), (6, AObj.arr 1 Ty.bool [] [[AV.nils]])], nx := 7 } else K Ex.normal { slots := [(1, AV.vl recTy l2), (2, AV.vl (Ty.int IntKind.i64) ag), (6, AV.bool q), (8, AV.ptr 0 (Elt.tl 0) 0), (10, AV.ptr 1 (Elt.tl 0) 0), (11, AV.int IntKind.i64 wn), (12, AV.int IntKind.i64 i), (13, AV.int IntKind.i64 (IntKind.i64.wrap (k + (1 : Int))))], objs := [(0, AObj.arr 13 Ty.bool [] [[AV.int IntKind.i64 (1 : Int), AV.int IntKind.i64 pid, AV.int IntKind.i64 sq, AV.vl recTy l, AV.str [], AV.int IntKind.i64 (0 : Int), AV.int IntKind.i64 (0 : Int), AV.int IntKind.i64 (0 : Int), AV.int IntKind.u32 (0 : Int), AV.int IntKind.i64 (0 : Int), AV.int IntKind.i64 (0 : Int), AV.int IntKind.i64 (0 : Int), AV.int IntKind.i64 (0 : Int)]]), (1, AObj.arr 7 Ty.bool [] [[AV.ptr 2 (Elt.tl 0) 0, AV.int IntKind.i64 (100 : Int), AV.int IntKind.i64 (0 : Int), AV.int IntKind.i64 (0 : Int), AV.int IntKind.i64 (0 : Int), AV.ptr 5 (Elt.tl 0) 0, AV.ptr 6 (Elt.tl 0) 0]]), (2, AObj.arr 1 Ty.bool [] [[AV.hw 3]]), (3, AObj.arr 10 segTy f [[AV.int IntKind.i64 b, AV.int IntKind.i64 n, AV.int IntKind.i64 (0 : Int), AV.int IntKind.i64 (0 : Int), AV.hw 4, AV.bool false, AV.bool false, AV.bool false, AV.int IntKind.i64 z, AV.int IntKind.u32 (0 : Int)]]), (4, AObj.log recTy rs), (5, AObj.arr 1 Ty.bool [] [[AV.nils]]), (6, AObj.arr 1 Ty.bool [] [[AV.nils]])], nx := 7 } else bif (askL [] pid sq).fst == (2 : Int) then K Ex.ret { slots := [(1, AV.vl recTy l2), (2, AV.vl (Ty.int IntKind.i64) ag), (6, AV.bool false), (8, AV.ptr 0 (Elt.tl 0) 0), (10, AV.ptr 1 (Elt.tl 0) 0), (11, AV.int IntKind.i64 wn), (12, AV.int IntKind.i64 i), (13, AV.int IntKind.i64 k)], objs := [(0, AObj.arr 13 Ty.bool [] [[AV.int IntKind.i64 (1 : Int), AV.int IntKind.i64 pid, AV.int IntKind.i64 sq, AV.vl recTy l, AV.str [], AV.int IntKind.i64 (0 : Int), AV.int IntKind.i64 (0 : Int), AV.int IntKind.i64 (0 : Int), AV.int IntKind.u32 (0 : Int), AV.int IntKind.i64 (0 : Int), AV.int IntKind.i64 (0 : Int), AV.int IntKind.i64 (0 : Int), AV.int IntKind.i64 (0 : Int)]]), (1, AObj.arr 7 Ty.bool [] [[AV.ptr 2 (Elt.tl 0) 0, AV.int IntKind.i64 (100 : Int), AV.int IntKind.i64 (0 : Int), AV.int IntKind.i64 (0 : Int), AV.int IntKind.i64 (0 : Int), AV.ptr 5 (Elt.tl 0) 0, AV.ptr 6 (Elt.tl 0) 0]]), (2, AObj.arr 1 Ty.bool [] [[AV.hw 3]]), (3, AObj.arr 10 segTy f [[AV.int IntKind.i64 b, AV.int IntKind.i64 n, AV.int IntKind.i64 (0 : Int), AV.int IntKind.i64 (0 : Int), AV.hw 4, AV.bool false, AV.bool false, AV.bool false, AV.int IntKind.i64 z, AV.int IntKind.u32 (0 : Int)]]), (4, AObj.log recTy rs), (5, AObj.arr 1 Ty.bool [] [[AV.nils]]), (6, AObj.arr 1 Ty.bool [] [[AV.nils]])], nx := 7 } else bif decide (f.length ≤ 1000000000) then bif decide (l.length ≤ 200000000) && okB 500000000 (f, b, n, z, rs) then bif n != wn then K Ex.ret { slots := [(1, AV.vl recTy l2), (2, AV.vl (Ty.int IntKind.i64) ag), (6, AV.bool false), (8, AV.ptr 0 (Elt.tl 0) 0), (10, AV.ptr 1 (Elt.tl 0) 0), (11, AV.int IntKind.i64 wn), (12, AV.int IntKind.i64 i), (13, AV.int IntKind.i64 k)], objs := [(0, AObj.arr 13 Ty.bool [] [[AV.int IntKind.i64 (1 : Int), AV.int IntKind.i64 pid, AV.int IntKind.i64 sq, AV.vl recTy l, AV.str [], AV.int IntKind.i64 (0 : Int), AV.int IntKind.i64 (0 : Int), AV.int IntKind.i64 (0 : Int), AV.int IntKind.u32 (0 : Int), AV.int IntKind.i64 (0 : Int), AV.int IntKind.i64 (0 : Int), AV.int IntKind.i64 (0 : Int), AV.int IntKind.i64 (0 : Int)]]), (1, AObj.arr 7 Ty.bool [] [[AV.ptr 2 (Elt.tl 0) 0, AV.int IntKind.i64 (100 : Int), AV.int IntKind.i64 (0 : Int), AV.int IntKind.i64 (0 : Int), AV.int IntKind.i64 (0 : Int), AV.ptr 5 (Elt.tl 0) 0, AV.ptr 6 (Elt.tl 0) 0]]), (2, AObj.arr 1 Ty.bool [] [[AV.hw 3]]), (3, AObj.arr 10 segTy (apL (100 : Int) l (f, b, n, z, rs) l.length).fst [[AV.int IntKind.i64 (apL (100 : Int) l (f, b, n, z, rs) l.length).snd.fst, AV.int IntKind.i64 (apL (100 : Int) l (f, b, n, z, rs) l.length).snd.snd.fst, AV.int IntKind.i64 (0 : Int), AV.int IntKind.i64 (0 : Int), AV.hw 4, AV.bool false, AV.bool false, AV.bool false, AV.int IntKind.i64 (apL (100 : Int) l (f, b, n, z, rs) l.length).snd.snd.snd.fst, AV.int IntKind.u32 (0 : Int)]]), (4, AObj.log recTy (apL (100 : Int) l (f, b, n, z, rs) l.length).snd.snd.snd.snd), (5, AObj.arr 1 Ty.bool [] [[AV.nils]]), (6, AObj.arr 1 Ty.bool [] [[AV.hw 7]]), (7, AObj.arr 3 ((Ty.int IntKind.i64).pair ((Ty.int IntKind.i64).pair (Ty.int IntKind.i64))) [(pid, sq, n)] [])], nx := 8 } else K Ex.normal { slots := [(1, AV.vl recTy l2), (2, AV.vl (Ty.int IntKind.i64) ag), (6, AV.bool q), (8, AV.ptr 0 (Elt.tl 0) 0), (10, AV.ptr 1 (Elt.tl 0) 0), (11, AV.int IntKind.i64 wn), (12, AV.int IntKind.i64 i), (13, AV.int IntKind.i64 (IntKind.i64.wrap (k + (1 : Int))))], objs := [(0, AObj.arr 13 Ty.bool [] [[AV.int IntKind.i64 (1 : Int), AV.int IntKind.i64 pid, AV.int IntKind.i64 sq, AV.vl recTy l, AV.str [], AV.int IntKind.i64 (0 : Int), AV.int IntKind.i64 (0 : Int), AV.int IntKind.i64 (0 : Int), AV.int IntKind.u32 (0 : Int), AV.int IntKind.i64 (0 : Int), AV.int IntKind.i64 (0 : Int), AV.int IntKind.i64 (0 : Int), AV.int IntKind.i64 (0 : Int)]]), (1, AObj.arr 7 Ty.bool [] [[AV.ptr 2 (Elt.tl 0) 0, AV.int IntKind.i64 (100 : Int), AV.int IntKind.i64 (0 : Int), AV.int IntKind.i64 (0 : Int), AV.int IntKind.i64 (0 : Int), AV.ptr 5 (Elt.tl 0) 0, AV.ptr 6 (Elt.tl 0) 0]]), (2, AObj.arr 1 Ty.bool [] [[AV.hw 3]]), (3, AObj.arr 10 segTy (apL (100 : Int) l (f, b, n, z, rs) l.length).fst [[AV.int IntKind.i64 (apL (100 : Int) l (f, b, n, z, rs) l.length).snd.fst, AV.int IntKind.i64 (apL (100 : Int) l (f, b, n, z, rs) l.length).snd.snd.fst, AV.int IntKind.i64 (0 : Int), AV.int IntKind.i64 (0 : Int), AV.hw 4, AV.bool false, AV.bool false, AV.bool false, AV.int IntKind.i64 (apL (100 : Int) l (f, b, n, z, rs) l.length).snd.snd.snd.fst, AV.int IntKind.u32 (0 : Int)]]), (4, AObj.log recTy (apL (100 : Int) l (f, b, n, z, rs) l.length).snd.snd.snd.snd), (5, AObj.arr 1 Ty.bool [] [[AV.nils]]), (6, AObj.arr 1 Ty.bool [] [[AV.hw 7]]), (7, AObj.arr 3 ((Ty.int IntKind.i64).pair ((Ty.int IntKind.i64).pair (Ty.int IntKind.i64))) [(pid, sq, n)] [])], nx := 8 } else none else none else bif decide (l.length ≤ 200000000) && okB 500000000 (f, b, n, z, rs) then bif n != wn then K Ex.ret { slots := [(1, AV.vl recTy l2), (2, AV.vl (Ty.int IntKind.i64) ag), (6, AV.bool false), (8, AV.ptr 0 (Elt.tl 0) 0), (10, AV.ptr 1 (Elt.tl 0) 0), (11, AV.int IntKind.i64 wn), (12, AV.int IntKind.i64 i), (13, AV.int IntKind.i64 k)], objs := [(0, AObj.arr 13 Ty.bool [] [[AV.int IntKind.i64 (1 : Int), AV.int IntKind.i64 pid, AV.int IntKind.i64 sq, AV.vl recTy l, AV.str [], AV.int IntKind.i64 (0 : Int), AV.int IntKind.i64 (0 : Int), AV.int IntKind.i64 (0 : Int), AV.int IntKind.u32 (0 : Int), AV.int IntKind.i64 (0 : Int), AV.int IntKind.i64 (0 : Int), AV.int IntKind.i64 (0 : Int), AV.int IntKind.i64 (0 : Int)]]), (1, AObj.arr 7 Ty.bool [] [[AV.ptr 2 (Elt.tl 0) 0, AV.int IntKind.i64 (100 : Int), AV.int IntKind.i64 (0 : Int), AV.int IntKind.i64 (0 : Int), AV.int IntKind.i64 (0 : Int), AV.ptr 5 (Elt.tl 0) 0, AV.ptr 6 (Elt.tl 0) 0]]), (2, AObj.arr 1 Ty.bool [] [[AV.hw 3]]), (3, AObj.arr 10 segTy (apL (100 : Int) l (f, b, n, z, rs) l.length).fst [[AV.int IntKind.i64 (apL (100 : Int) l (f, b, n, z, rs) l.length).snd.fst, AV.int IntKind.i64 (apL (100 : Int) l (f, b, n, z, rs) l.length).snd.snd.fst, AV.int IntKind.i64 (0 : Int), AV.int IntKind.i64 (0 : Int), AV.hw 4, AV.bool false, AV.bool false, AV.bool false, AV.int IntKind.i64 (apL (100 : Int) l (f, b, n, z, rs) l.length).snd.snd.snd.fst, AV.int IntKind.u32 (0 : Int)]]), (4, AObj.log recTy (apL (100 : Int) l (f, b, n, z, rs) l.length).snd.snd.snd.snd), (5, AObj.arr 1 Ty.bool [] [[AV.nils]]), (6, AObj.arr 1 Ty.bool [] [[AV.nils]])], nx := 7 } else K Ex.normal { slots := [(1, AV.vl recTy l2), (2, AV.vl (Ty.int IntKind.i64) ag), (6, AV.bool q), (8, AV.ptr 0 (Elt.tl 0) 0), (10, AV.ptr 1 (Elt.tl 0) 0), (11, AV.int IntKind.i64 wn), (12, AV.int IntKind.i64 i), (13, AV.int IntKind.i64 (IntKind.i64.wrap (k + (1 : Int))))], objs := [(0, AObj.arr 13 Ty.bool [] [[AV.int IntKind.i64 (1 : Int), AV.int IntKind.i64 pid, AV.int IntKind.i64 sq, AV.vl recTy l, AV.str [], AV.int IntKind.i64 (0 : Int), AV.int IntKind.i64 (0 : Int), AV.int IntKind.i64 (0 : Int), AV.int IntKind.u32 (0 : Int), AV.int IntKind.i64 (0 : Int), AV.int IntKind.i64 (0 : Int), AV.int IntKind.i64 (0 : Int), AV.int IntKind.i64 (0 : Int)]]), (1, AObj.arr 7 Ty.bool [] [[AV.ptr 2 (Elt.tl 0) 0, AV.int IntKind.i64 (100 : Int), AV.int IntKind.i64 (0 : Int), AV.int IntKind.i64 (0 : Int), AV.int IntKind.i64 (0 : Int), AV.ptr 5 (Elt.tl 0) 0, AV.ptr 6 (Elt.tl 0) 0]]), (2, AObj.arr 1 Ty.bool [] [[AV.hw 3]]), (3, AObj.arr 10 segTy (apL (100 : Int) l (f, b, n, z, rs) l.length).fst [[AV.int IntKind.i64 (apL (100 : Int) l (f, b, n, z, rs) l.length).snd.fst, AV.int IntKind.i64 (apL (100 : Int) l (f, b, n, z, rs) l.length).snd.snd.fst, AV.int IntKind.i64 (0 : Int), AV.int IntKind.i64 (0 : Int), AV.hw 4, AV.bool false, AV.bool false, AV.bool false, AV.int IntKind.i64 (apL (100 : Int) l (f, b, n, z, rs) l.length).snd.snd.snd.fst, AV.int IntKind.u32 (0 : Int)]]), (4, AObj.log recTy (apL (100 : Int) l (f, b, n, z, rs) l.length).snd.snd.snd.snd), (5, AObj.arr 1 Ty.bool [] [[AV.nils]]), (6, AObj.arr 1 Ty.bool [] [[AV.nils]])], nx := 7 } else none else K (Ex.exit 2) { slots := [(1, AV.vl recTy l2), (2, AV.vl (Ty.int IntKind.i64) ag), (6, AV.bool q), (8, AV.ptr 0 (Elt.tl 0) 0), (10, AV.ptr 1 (Elt.tl 0) 0), (11, AV.int IntKind.i64 wn), (12, AV.int IntKind.i64 i), (13, AV.int IntKind.i64 k)], objs := [(0, AObj.arr 13 Ty.bool [] [[AV.int IntKind.i64 (1 : Int), AV.int IntKind.i64 pid, AV.int IntKind.i64 sq, AV.vl recTy l, AV.str [], AV.int IntKind.i64 (0 : Int), AV.int IntKind.i64 (0 : Int), AV.int IntKind.i64 (0 : Int), AV.int IntKind.u32 (0 : Int), AV.int IntKind.i64 (0 : Int), AV.int IntKind.i64 (0 : Int), AV.int IntKind.i64 (0 : Int), AV.int IntKind.i64 (0 : Int)]]), (1, AObj.arr 7 Ty.bool [] [[AV.ptr 2 (Elt.tl 0) 0, AV.int IntKind.i64 (100 : Int), AV.int IntKind.i64 (0 : Int), AV.int IntKind.i64 (0 : Int), AV.int IntKind.i64 (0 : Int), AV.ptr 5 (Elt.tl 0) 0, AV.ptr 6 (Elt.tl 0) 0]]), (2, AObj.arr 1 Ty.bool [] [[AV.hw 3]]), (3, AObj.arr 10 segTy f [[AV.int IntKind.i64 b, AV.int IntKind.i64 n, AV.int IntKind.i64 (0 : Int), AV.int IntKind.i64 (0 : Int), AV.hw 4, AV.bool false, AV.bool false, AV.bool false, AV.int IntKind.i64 z, AV.int IntKind.u32 (0 : Int)]]), (4, AObj.log recTy rs), (5, AObj.arr 1 Ty.bool [] [[AV.nils]]), (6, AObj.arr 1 Ty.bool [] [[AV.nils]])], nx := 7 } else none := by kernel_rfl

theorem o13r_rd {R : Type} (l l2 : List Rec) (ag : List Int) (pid sq wn i k : Int) (q : Bool) (f : List Seg) (b n z : Int) (rs : List Rec) (ps : List Row3) (K : Ex → St → Option R) : roundK (env consX4) H.onc2 0 (LPof []) V.cooperagelaw16_StateOnce_13 L.cooperagelaw16_StateOnce_13 ⟨[(1, .vl recT l2), (2, .vl (.int .i64) ag), (6, .bool q), (8, .ptr 0 (.tl 0) 0), (10, .ptr 1 (.tl 0) 0), (11, .int .i64 wn), (12, .int .i64 i), (13, .int .i64 k)], onR pid sq l (f, b, n, z, rs) ps, 8⟩ K = bif decide ((0 : Int) ≤ i) && decide (i < (↑ag.length : Int)) then bif decide (k ≤ IntKind.i64.wrap (↑(BitVec.ofInt 64 (ag.getD i.toNat (0 : Int)) &&& BitVec.ofInt 64 (3 : Int)).toNat : Int)) then bif !rightC ((1 : Int), pid, sq, l, [], (0 : Int), (0 : Int), (0 : Int), (0 : Int), (0 : Int), (0 : Int), (0 : Int), (0 : Int)) then K Ex.ret { slots := [(1, AV.vl recTy l2), (2, AV.vl (Ty.int IntKind.i64) ag), (6, AV.bool false), (8, AV.ptr 0 (Elt.tl 0) 0), (10, AV.ptr 1 (Elt.tl 0) 0), (11, AV.int IntKind.i64 wn), (12, AV.int IntKind.i64 i), (13, AV.int IntKind.i64 k)], objs := [(0, AObj.arr 13 Ty.bool [] [[AV.int IntKind.i64 (1 : Int), AV.int IntKind.i64 pid, AV.int IntKind.i64 sq, AV.vl recTy l, AV.str [], AV.int IntKind.i64 (0 : Int), AV.int IntKind.i64 (0 : Int), AV.int IntKind.i64 (0 : Int), AV.int IntKind.u32 (0 : Int), AV.int IntKind.i64 (0 : Int), AV.int IntKind.i64 (0 : Int), AV.int IntKind.i64 (0 : Int), AV.int IntKind.i64 (0 : Int)]]), (1, AObj.arr 7 Ty.bool [] [[AV.ptr 2 (Elt.tl 0) 0, AV.int IntKind.i64 (100 : Int), AV.int IntKind.i64 (0 : Int), AV.int IntKind.i64 (0 : Int), AV.int IntKind.i64 (0 : Int), AV.ptr 5 (Elt.tl 0) 0, AV.ptr 6 (Elt.tl 0) 0]]), (2, AObj.arr 1 Ty.bool [] [[AV.hw 3]]), (3, AObj.arr 10 segTy f [[AV.int IntKind.i64 b, AV.int IntKind.i64 n, AV.int IntKind.i64 (0 : Int), AV.int IntKind.i64 (0 : Int), AV.hw 4, AV.bool false, AV.bool false, AV.bool false, AV.int IntKind.i64 z, AV.int IntKind.u32 (0 : Int)]]), (4, AObj.log recTy rs), (5, AObj.arr 1 Ty.bool [] [[AV.nils]]), (6, AObj.arr 1 Ty.bool [] [[AV.hw 7]]), (7, AObj.arr 3 ((Ty.int IntKind.i64).pair ((Ty.int IntKind.i64).pair (Ty.int IntKind.i64))) ps [])], nx := 8 } else bif decide (pid > (0 : Int)) then bif sortedL ps && decide (ps.length ≤ 1000000) then bif (askL ps pid sq).fst == (1 : Int) then bif (askL ps pid sq).snd != wn then K Ex.ret { slots := [(1, AV.vl recTy l2), (2, AV.vl (Ty.int IntKind.i64) ag), (6, AV.bool false), (8, AV.ptr 0 (Elt.tl 0) 0), (10, AV.ptr 1 (Elt.tl 0) 0), (11, AV.int IntKind.i64 wn), (12, AV.int IntKind.i64 i), (13, AV.int IntKind.i64 k)], objs := [(0, AObj.arr 13 Ty.bool [] [[AV.int IntKind.i64 (1 : Int), AV.int IntKind.i64 pid, AV.int IntKind.i64 sq, AV.vl recTy l, AV.str [], AV.int IntKind.i64 (0 : Int), AV.int IntKind.i64 (0 : Int), AV.int IntKind.i64 (0 : Int), AV.int IntKind.u32 (0 : Int), AV.int IntKind.i64 (0 : Int), AV.int IntKind.i64 (0 : Int), AV.int IntKind.i64 (0 : Int), AV.int IntKind.i64 (0 : Int)]]), (1, AObj.arr 7 Ty.bool [] [[AV.ptr 2 (Elt.tl 0) 0, AV.int IntKind.i64 (100 : Int), AV.int IntKind.i64 (0 : Int), AV.int IntKind.i64 (0 : Int), AV.int IntKind.i64 (0 : Int), AV.ptr 5 (Elt.tl 0) 0, AV.ptr 6 (Elt.tl 0) 0]]), (2, AObj.arr 1 Ty.bool [] [[AV.hw 3]]), (3, AObj.arr 10 segTy f [[AV.int IntKind.i64 b, AV.int IntKind.i64 n, AV.int IntKind.i64 (0 : Int), AV.int IntKind.i64 (0 : Int), AV.hw 4, AV.bool false, AV.bool false, AV.bool false, AV.int IntKind.i64 z, AV.int IntKind.u32 (0 : Int)]]), (4, AObj.log recTy rs), (5, AObj.arr 1 Ty.bool [] [[AV.nils]]), (6, AObj.arr 1 Ty.bool [] [[AV.hw 7]]), (7, AObj.arr 3 ((Ty.int IntKind.i64).pair ((Ty.int IntKind.i64).pair (Ty.int IntKind.i64))) ps [])], nx := 8 } else K Ex.normal { slots := [(1, AV.vl recTy l2), (2, AV.vl (Ty.int IntKind.i64) ag), (6, AV.bool q), (8, AV.ptr 0 (Elt.tl 0) 0), (10, AV.ptr 1 (Elt.tl 0) 0), (11, AV.int IntKind.i64 wn), (12, AV.int IntKind.i64 i), (13, AV.int IntKind.i64 (IntKind.i64.wrap (k + (1 : Int))))], objs := [(0, AObj.arr 13 Ty.bool [] [[AV.int IntKind.i64 (1 : Int), AV.int IntKind.i64 pid, AV.int IntKind.i64 sq, AV.vl recTy l, AV.str [], AV.int IntKind.i64 (0 : Int), AV.int IntKind.i64 (0 : Int), AV.int IntKind.i64 (0 : Int), AV.int IntKind.u32 (0 : Int), AV.int IntKind.i64 (0 : Int), AV.int IntKind.i64 (0 : Int), AV.int IntKind.i64 (0 : Int), AV.int IntKind.i64 (0 : Int)]]), (1, AObj.arr 7 Ty.bool [] [[AV.ptr 2 (Elt.tl 0) 0, AV.int IntKind.i64 (100 : Int), AV.int IntKind.i64 (0 : Int), AV.int IntKind.i64 (0 : Int), AV.int IntKind.i64 (0 : Int), AV.ptr 5 (Elt.tl 0) 0, AV.ptr 6 (Elt.tl 0) 0]]), (2, AObj.arr 1 Ty.bool [] [[AV.hw 3]]), (3, AObj.arr 10 segTy f [[AV.int IntKind.i64 b, AV.int IntKind.i64 n, AV.int IntKind.i64 (0 : Int), AV.int IntKind.i64 (0 : Int), AV.hw 4, AV.bool false, AV.bool false, AV.bool false, AV.int IntKind.i64 z, AV.int IntKind.u32 (0 : Int)]]), (4, AObj.log recTy rs), (5, AObj.arr 1 Ty.bool [] [[AV.nils]]), (6, AObj.arr 1 Ty.bool [] [[AV.hw 7]]), (7, AObj.arr 3 ((Ty.int IntKind.i64).pair ((Ty.int IntKind.i64).pair (Ty.int IntKind.i64))) ps [])], nx := 8 } else bif (askL ps pid sq).fst == (2 : Int) then K Ex.ret { slots := [(1, AV.vl recTy l2), (2, AV.vl (Ty.int IntKind.i64) ag), (6, AV.bool false), (8, AV.ptr 0 (Elt.tl 0) 0), (10, AV.ptr 1 (Elt.tl 0) 0), (11, AV.int IntKind.i64 wn), (12, AV.int IntKind.i64 i), (13, AV.int IntKind.i64 k)], objs := [(0, AObj.arr 13 Ty.bool [] [[AV.int IntKind.i64 (1 : Int), AV.int IntKind.i64 pid, AV.int IntKind.i64 sq, AV.vl recTy l, AV.str [], AV.int IntKind.i64 (0 : Int), AV.int IntKind.i64 (0 : Int), AV.int IntKind.i64 (0 : Int), AV.int IntKind.u32 (0 : Int), AV.int IntKind.i64 (0 : Int), AV.int IntKind.i64 (0 : Int), AV.int IntKind.i64 (0 : Int), AV.int IntKind.i64 (0 : Int)]]), (1, AObj.arr 7 Ty.bool [] [[AV.ptr 2 (Elt.tl 0) 0, AV.int IntKind.i64 (100 : Int), AV.int IntKind.i64 (0 : Int), AV.int IntKind.i64 (0 : Int), AV.int IntKind.i64 (0 : Int), AV.ptr 5 (Elt.tl 0) 0, AV.ptr 6 (Elt.tl 0) 0]]), (2, AObj.arr 1 Ty.bool [] [[AV.hw 3]]), (3, AObj.arr 10 segTy f [[AV.int IntKind.i64 b, AV.int IntKind.i64 n, AV.int IntKind.i64 (0 : Int), AV.int IntKind.i64 (0 : Int), AV.hw 4, AV.bool false, AV.bool false, AV.bool false, AV.int IntKind.i64 z, AV.int IntKind.u32 (0 : Int)]]), (4, AObj.log recTy rs), (5, AObj.arr 1 Ty.bool [] [[AV.nils]]), (6, AObj.arr 1 Ty.bool [] [[AV.hw 7]]), (7, AObj.arr 3 ((Ty.int IntKind.i64).pair ((Ty.int IntKind.i64).pair (Ty.int IntKind.i64))) ps [])], nx := 8 } else bif decide (f.length ≤ 1000000000) then bif sortedL ps && decide (ps.length ≤ 1000000) && (hasL ps pid || decide ((↑ps.length : Int) ≥ (100 : Int))) then bif (setL ps (pid, sq, n)).snd != (0 : Int) then Option.bind (bif (setL ps (pid, sq, n)).snd != (0 : Int) then some true else some ((0 : Int) != wn)) fun v => bif v then K Ex.ret { slots := [(1, AV.vl recTy l2), (2, AV.vl (Ty.int IntKind.i64) ag), (6, AV.bool false), (8, AV.ptr 0 (Elt.tl 0) 0), (10, AV.ptr 1 (Elt.tl 0) 0), (11, AV.int IntKind.i64 wn), (12, AV.int IntKind.i64 i), (13, AV.int IntKind.i64 k)], objs := [(0, AObj.arr 13 Ty.bool [] [[AV.int IntKind.i64 (1 : Int), AV.int IntKind.i64 pid, AV.int IntKind.i64 sq, AV.vl recTy l, AV.str [], AV.int IntKind.i64 (0 : Int), AV.int IntKind.i64 (0 : Int), AV.int IntKind.i64 (0 : Int), AV.int IntKind.u32 (0 : Int), AV.int IntKind.i64 (0 : Int), AV.int IntKind.i64 (0 : Int), AV.int IntKind.i64 (0 : Int), AV.int IntKind.i64 (0 : Int)]]), (1, AObj.arr 7 Ty.bool [] [[AV.ptr 2 (Elt.tl 0) 0, AV.int IntKind.i64 (100 : Int), AV.int IntKind.i64 (0 : Int), AV.int IntKind.i64 (0 : Int), AV.int IntKind.i64 (0 : Int), AV.ptr 5 (Elt.tl 0) 0, AV.ptr 6 (Elt.tl 0) 0]]), (2, AObj.arr 1 Ty.bool [] [[AV.hw 3]]), (3, AObj.arr 10 segTy f [[AV.int IntKind.i64 b, AV.int IntKind.i64 n, AV.int IntKind.i64 (0 : Int), AV.int IntKind.i64 (0 : Int), AV.hw 4, AV.bool false, AV.bool false, AV.bool false, AV.int IntKind.i64 z, AV.int IntKind.u32 (0 : Int)]]), (4, AObj.log recTy rs), (5, AObj.arr 1 Ty.bool [] [[AV.nils]]), (6, AObj.arr 1 Ty.bool [] [[AV.hw 7]]), (7, AObj.arr 3 ((Ty.int IntKind.i64).pair ((Ty.int IntKind.i64).pair (Ty.int IntKind.i64))) (setL ps (pid, sq, n)).fst [])], nx := 8 } else K Ex.normal { slots := [(1, AV.vl recTy l2), (2, AV.vl (Ty.int IntKind.i64) ag), (6, AV.bool q), (8, AV.ptr 0 (Elt.tl 0) 0), (10, AV.ptr 1 (Elt.tl 0) 0), (11, AV.int IntKind.i64 wn), (12, AV.int IntKind.i64 i), (13, AV.int IntKind.i64 (IntKind.i64.wrap (k + (1 : Int))))], objs := [(0, AObj.arr 13 Ty.bool [] [[AV.int IntKind.i64 (1 : Int), AV.int IntKind.i64 pid, AV.int IntKind.i64 sq, AV.vl recTy l, AV.str [], AV.int IntKind.i64 (0 : Int), AV.int IntKind.i64 (0 : Int), AV.int IntKind.i64 (0 : Int), AV.int IntKind.u32 (0 : Int), AV.int IntKind.i64 (0 : Int), AV.int IntKind.i64 (0 : Int), AV.int IntKind.i64 (0 : Int), AV.int IntKind.i64 (0 : Int)]]), (1, AObj.arr 7 Ty.bool [] [[AV.ptr 2 (Elt.tl 0) 0, AV.int IntKind.i64 (100 : Int), AV.int IntKind.i64 (0 : Int), AV.int IntKind.i64 (0 : Int), AV.int IntKind.i64 (0 : Int), AV.ptr 5 (Elt.tl 0) 0, AV.ptr 6 (Elt.tl 0) 0]]), (2, AObj.arr 1 Ty.bool [] [[AV.hw 3]]), (3, AObj.arr 10 segTy f [[AV.int IntKind.i64 b, AV.int IntKind.i64 n, AV.int IntKind.i64 (0 : Int), AV.int IntKind.i64 (0 : Int), AV.hw 4, AV.bool false, AV.bool false, AV.bool false, AV.int IntKind.i64 z, AV.int IntKind.u32 (0 : Int)]]), (4, AObj.log recTy rs), (5, AObj.arr 1 Ty.bool [] [[AV.nils]]), (6, AObj.arr 1 Ty.bool [] [[AV.hw 7]]), (7, AObj.arr 3 ((Ty.int IntKind.i64).pair ((Ty.int IntKind.i64).pair (Ty.int IntKind.i64))) (setL ps (pid, sq, n)).fst [])], nx := 8 } else bif decide (l.length ≤ 200000000) && okB 500000000 (f, b, n, z, rs) then bif n != wn then K Ex.ret { slots := [(1, AV.vl recTy l2), (2, AV.vl (Ty.int IntKind.i64) ag), (6, AV.bool false), (8, AV.ptr 0 (Elt.tl 0) 0), (10, AV.ptr 1 (Elt.tl 0) 0), (11, AV.int IntKind.i64 wn), (12, AV.int IntKind.i64 i), (13, AV.int IntKind.i64 k)], objs := [(0, AObj.arr 13 Ty.bool [] [[AV.int IntKind.i64 (1 : Int), AV.int IntKind.i64 pid, AV.int IntKind.i64 sq, AV.vl recTy l, AV.str [], AV.int IntKind.i64 (0 : Int), AV.int IntKind.i64 (0 : Int), AV.int IntKind.i64 (0 : Int), AV.int IntKind.u32 (0 : Int), AV.int IntKind.i64 (0 : Int), AV.int IntKind.i64 (0 : Int), AV.int IntKind.i64 (0 : Int), AV.int IntKind.i64 (0 : Int)]]), (1, AObj.arr 7 Ty.bool [] [[AV.ptr 2 (Elt.tl 0) 0, AV.int IntKind.i64 (100 : Int), AV.int IntKind.i64 (0 : Int), AV.int IntKind.i64 (0 : Int), AV.int IntKind.i64 (0 : Int), AV.ptr 5 (Elt.tl 0) 0, AV.ptr 6 (Elt.tl 0) 0]]), (2, AObj.arr 1 Ty.bool [] [[AV.hw 3]]), (3, AObj.arr 10 segTy (apL (100 : Int) l (f, b, n, z, rs) l.length).fst [[AV.int IntKind.i64 (apL (100 : Int) l (f, b, n, z, rs) l.length).snd.fst, AV.int IntKind.i64 (apL (100 : Int) l (f, b, n, z, rs) l.length).snd.snd.fst, AV.int IntKind.i64 (0 : Int), AV.int IntKind.i64 (0 : Int), AV.hw 4, AV.bool false, AV.bool false, AV.bool false, AV.int IntKind.i64 (apL (100 : Int) l (f, b, n, z, rs) l.length).snd.snd.snd.fst, AV.int IntKind.u32 (0 : Int)]]), (4, AObj.log recTy (apL (100 : Int) l (f, b, n, z, rs) l.length).snd.snd.snd.snd), (5, AObj.arr 1 Ty.bool [] [[AV.nils]]), (6, AObj.arr 1 Ty.bool [] [[AV.hw 7]]), (7, AObj.arr 3 ((Ty.int IntKind.i64).pair ((Ty.int IntKind.i64).pair (Ty.int IntKind.i64))) (setL ps (pid, sq, n)).fst [])], nx := 8 } else K Ex.normal { slots := [(1, AV.vl recTy l2), (2, AV.vl (Ty.int IntKind.i64) ag), (6, AV.bool q), (8, AV.ptr 0 (Elt.tl 0) 0), (10, AV.ptr 1 (Elt.tl 0) 0), (11, AV.int IntKind.i64 wn), (12, AV.int IntKind.i64 i), (13, AV.int IntKind.i64 (IntKind.i64.wrap (k + (1 : Int))))], objs := [(0, AObj.arr 13 Ty.bool [] [[AV.int IntKind.i64 (1 : Int), AV.int IntKind.i64 pid, AV.int IntKind.i64 sq, AV.vl recTy l, AV.str [], AV.int IntKind.i64 (0 : Int), AV.int IntKind.i64 (0 : Int), AV.int IntKind.i64 (0 : Int), AV.int IntKind.u32 (0 : Int), AV.int IntKind.i64 (0 : Int), AV.int IntKind.i64 (0 : Int), AV.int IntKind.i64 (0 : Int), AV.int IntKind.i64 (0 : Int)]]), (1, AObj.arr 7 Ty.bool [] [[AV.ptr 2 (Elt.tl 0) 0, AV.int IntKind.i64 (100 : Int), AV.int IntKind.i64 (0 : Int), AV.int IntKind.i64 (0 : Int), AV.int IntKind.i64 (0 : Int), AV.ptr 5 (Elt.tl 0) 0, AV.ptr 6 (Elt.tl 0) 0]]), (2, AObj.arr 1 Ty.bool [] [[AV.hw 3]]), (3, AObj.arr 10 segTy (apL (100 : Int) l (f, b, n, z, rs) l.length).fst [[AV.int IntKind.i64 (apL (100 : Int) l (f, b, n, z, rs) l.length).snd.fst, AV.int IntKind.i64 (apL (100 : Int) l (f, b, n, z, rs) l.length).snd.snd.fst, AV.int IntKind.i64 (0 : Int), AV.int IntKind.i64 (0 : Int), AV.hw 4, AV.bool false, AV.bool false, AV.bool false, AV.int IntKind.i64 (apL (100 : Int) l (f, b, n, z, rs) l.length).snd.snd.snd.fst, AV.int IntKind.u32 (0 : Int)]]), (4, AObj.log recTy (apL (100 : Int) l (f, b, n, z, rs) l.length).snd.snd.snd.snd), (5, AObj.arr 1 Ty.bool [] [[AV.nils]]), (6, AObj.arr 1 Ty.bool [] [[AV.hw 7]]), (7, AObj.arr 3 ((Ty.int IntKind.i64).pair ((Ty.int IntKind.i64).pair (Ty.int IntKind.i64))) (setL ps (pid, sq, n)).fst [])], nx := 8 } else none else none else none else none else bif decide (l.length ≤ 200000000) && okB 500000000 (f, b, n, z, rs) then bif n != wn then K Ex.ret { slots := [(1, AV.vl recTy l2), (2, AV.vl (Ty.int IntKind.i64) ag), (6, AV.bool false), (8, AV.ptr 0 (Elt.tl 0) 0), (10, AV.ptr 1 (Elt.tl 0) 0), (11, AV.int IntKind.i64 wn), (12, AV.int IntKind.i64 i), (13, AV.int IntKind.i64 k)], objs := [(0, AObj.arr 13 Ty.bool [] [[AV.int IntKind.i64 (1 : Int), AV.int IntKind.i64 pid, AV.int IntKind.i64 sq, AV.vl recTy l, AV.str [], AV.int IntKind.i64 (0 : Int), AV.int IntKind.i64 (0 : Int), AV.int IntKind.i64 (0 : Int), AV.int IntKind.u32 (0 : Int), AV.int IntKind.i64 (0 : Int), AV.int IntKind.i64 (0 : Int), AV.int IntKind.i64 (0 : Int), AV.int IntKind.i64 (0 : Int)]]), (1, AObj.arr 7 Ty.bool [] [[AV.ptr 2 (Elt.tl 0) 0, AV.int IntKind.i64 (100 : Int), AV.int IntKind.i64 (0 : Int), AV.int IntKind.i64 (0 : Int), AV.int IntKind.i64 (0 : Int), AV.ptr 5 (Elt.tl 0) 0, AV.ptr 6 (Elt.tl 0) 0]]), (2, AObj.arr 1 Ty.bool [] [[AV.hw 3]]), (3, AObj.arr 10 segTy (apL (100 : Int) l (f, b, n, z, rs) l.length).fst [[AV.int IntKind.i64 (apL (100 : Int) l (f, b, n, z, rs) l.length).snd.fst, AV.int IntKind.i64 (apL (100 : Int) l (f, b, n, z, rs) l.length).snd.snd.fst, AV.int IntKind.i64 (0 : Int), AV.int IntKind.i64 (0 : Int), AV.hw 4, AV.bool false, AV.bool false, AV.bool false, AV.int IntKind.i64 (apL (100 : Int) l (f, b, n, z, rs) l.length).snd.snd.snd.fst, AV.int IntKind.u32 (0 : Int)]]), (4, AObj.log recTy (apL (100 : Int) l (f, b, n, z, rs) l.length).snd.snd.snd.snd), (5, AObj.arr 1 Ty.bool [] [[AV.nils]]), (6, AObj.arr 1 Ty.bool [] [[AV.hw 7]]), (7, AObj.arr 3 ((Ty.int IntKind.i64).pair ((Ty.int IntKind.i64).pair (Ty.int IntKind.i64))) ps [])], nx := 8 } else K Ex.normal { slots := [(1, AV.vl recTy l2), (2, AV.vl (Ty.int IntKind.i64) ag), (6, AV.bool q), (8, AV.ptr 0 (Elt.tl 0) 0), (10, AV.ptr 1 (Elt.tl 0) 0), (11, AV.int IntKind.i64 wn), (12, AV.int IntKind.i64 i), (13, AV.int IntKind.i64 (IntKind.i64.wrap (k + (1 : Int))))], objs := [(0, AObj.arr 13 Ty.bool [] [[AV.int IntKind.i64 (1 : Int), AV.int IntKind.i64 pid, AV.int IntKind.i64 sq, AV.vl recTy l, AV.str [], AV.int IntKind.i64 (0 : Int), AV.int IntKind.i64 (0 : Int), AV.int IntKind.i64 (0 : Int), AV.int IntKind.u32 (0 : Int), AV.int IntKind.i64 (0 : Int), AV.int IntKind.i64 (0 : Int), AV.int IntKind.i64 (0 : Int), AV.int IntKind.i64 (0 : Int)]]), (1, AObj.arr 7 Ty.bool [] [[AV.ptr 2 (Elt.tl 0) 0, AV.int IntKind.i64 (100 : Int), AV.int IntKind.i64 (0 : Int), AV.int IntKind.i64 (0 : Int), AV.int IntKind.i64 (0 : Int), AV.ptr 5 (Elt.tl 0) 0, AV.ptr 6 (Elt.tl 0) 0]]), (2, AObj.arr 1 Ty.bool [] [[AV.hw 3]]), (3, AObj.arr 10 segTy (apL (100 : Int) l (f, b, n, z, rs) l.length).fst [[AV.int IntKind.i64 (apL (100 : Int) l (f, b, n, z, rs) l.length).snd.fst, AV.int IntKind.i64 (apL (100 : Int) l (f, b, n, z, rs) l.length).snd.snd.fst, AV.int IntKind.i64 (0 : Int), AV.int IntKind.i64 (0 : Int), AV.hw 4, AV.bool false, AV.bool false, AV.bool false, AV.int IntKind.i64 (apL (100 : Int) l (f, b, n, z, rs) l.length).snd.snd.snd.fst, AV.int IntKind.u32 (0 : Int)]]), (4, AObj.log recTy (apL (100 : Int) l (f, b, n, z, rs) l.length).snd.snd.snd.snd), (5, AObj.arr 1 Ty.bool [] [[AV.nils]]), (6, AObj.arr 1 Ty.bool [] [[AV.hw 7]]), (7, AObj.arr 3 ((Ty.int IntKind.i64).pair ((Ty.int IntKind.i64).pair (Ty.int IntKind.i64))) ps [])], nx := 8 } else none else K (Ex.exit 2) { slots := [(1, AV.vl recTy l2), (2, AV.vl (Ty.int IntKind.i64) ag), (6, AV.bool q), (8, AV.ptr 0 (Elt.tl 0) 0), (10, AV.ptr 1 (Elt.tl 0) 0), (11, AV.int IntKind.i64 wn), (12, AV.int IntKind.i64 i), (13, AV.int IntKind.i64 k)], objs := [(0, AObj.arr 13 Ty.bool [] [[AV.int IntKind.i64 (1 : Int), AV.int IntKind.i64 pid, AV.int IntKind.i64 sq, AV.vl recTy l, AV.str [], AV.int IntKind.i64 (0 : Int), AV.int IntKind.i64 (0 : Int), AV.int IntKind.i64 (0 : Int), AV.int IntKind.u32 (0 : Int), AV.int IntKind.i64 (0 : Int), AV.int IntKind.i64 (0 : Int), AV.int IntKind.i64 (0 : Int), AV.int IntKind.i64 (0 : Int)]]), (1, AObj.arr 7 Ty.bool [] [[AV.ptr 2 (Elt.tl 0) 0, AV.int IntKind.i64 (100 : Int), AV.int IntKind.i64 (0 : Int), AV.int IntKind.i64 (0 : Int), AV.int IntKind.i64 (0 : Int), AV.ptr 5 (Elt.tl 0) 0, AV.ptr 6 (Elt.tl 0) 0]]), (2, AObj.arr 1 Ty.bool [] [[AV.hw 3]]), (3, AObj.arr 10 segTy f [[AV.int IntKind.i64 b, AV.int IntKind.i64 n, AV.int IntKind.i64 (0 : Int), AV.int IntKind.i64 (0 : Int), AV.hw 4, AV.bool false, AV.bool false, AV.bool false, AV.int IntKind.i64 z, AV.int IntKind.u32 (0 : Int)]]), (4, AObj.log recTy rs), (5, AObj.arr 1 Ty.bool [] [[AV.nils]]), (6, AObj.arr 1 Ty.bool [] [[AV.hw 7]]), (7, AObj.arr 3 ((Ty.int IntKind.i64).pair ((Ty.int IntKind.i64).pair (Ty.int IntKind.i64))) ps [])], nx := 8 } else none := by kernel_rfl

end Go.Sim
