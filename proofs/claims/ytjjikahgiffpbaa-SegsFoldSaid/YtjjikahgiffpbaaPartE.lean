/-
  WkU4: walks of a log of segments: New, Seal, Append. · WkU5: walks of a log of segments: Append, all. · WkU6: walks of a log of segments: Clone, all, Segments; segments alike. · WkU7: the law SegsSeals. · WkU8: walks for SegsOf: what may be a log's segments. · WkU9: walks for SegsOf: Of, RightLog, SameSegments. · WkUA: the law SegsOf. · WkUB: the law SegsOf, last part. · PlCln: chapter 13 in plain Lean: which records stay. · PlGrp: tables of groups: the plain side. · PlFold: what records fold to, and that a clean leaves it as it was. · WkK1: walks of package clean (Keep) for the newer seats. · WkR9: walks for SegsFold: what records fold to, and what is too big. · WkR1: slices.Replace over segments as they are. · WkR2: slices.Replace over a log's segments. · WkR3: rows of records put together. · WkR4: two segments put together. · WkR5: a log of segments: Merge. · WkUD: what Clean makes of a log, in plain Lean.
-/
import Derived.Test.YtjjikahgiffpbaaPartD
namespace Go.Sim
set_option linter.unusedSimpArgs false
set_option linter.unusedVariables false
set_option maxRecDepth 10000
abbrev segT : Ty := .pair (.int .i64) (.pair (.int .i64) (.pair (.int .i64) (.pair (.int .i64) (.pair (.sl recT) (.pair .bool (.pair .bool (.pair .bool (.pair (.int .i64) (.int .u32)))))))))
/-- The greatest time of the first i records. -/
def latI (l : List Rec) : Nat → Int
  | 0 => 0
  | i + 1 => bif decide (i = 0) || decide ((l.getD i recTy.zero).2.1 > latI l i) then (l.getD i recTy.zero).2.1 else latI l i
def latS (l : List Rec) : Int := latI l l.length
def laSt (l : List Rec) (i : Nat) : St := ⟨[(3, .int .i64 (latI l i)), (6, .vl recT l), (7, .int .i64 l.length), (8, .int .i64 i)], [], 0⟩
theorem i0_dec (i : Nat) : ((i : Int) == 0) = decide (i = 0) := by
  by_cases h : i = 0
  · subst h; rfl
  · rw [decide_eq_false h]
    simp
    exact h
theorem la_rounds {R : Type} (l : List Rec) (hl : l.length ≤ maxL) (K : Ex → St → Option R) : ∀ (m i : Nat), i + m = l.length → rounds (env []) H.segs_latest 0 (LPof []) V.segs_latest_3 L.segs_latest_3 (m + 1) (laSt l i) K = K (.exit 0) (laSt l l.length)
  | 0, i, h => by
    obtain rfl : i = l.length := by omega
    rw [rounds_succ']
    refine (latest_rd _ _ _ _ _).trans ?_
    rw [cond_neg (by omega)]
    rfl
  | m + 1, i, h => by
    have ih := la_rounds l hl K m (i + 1) (by omega)
    unfold maxL at hl
    have e3 : IntKind.i64.wrap ((i : Int) + 1) = ((i + 1 : Nat) : Int) := by rw [wrap64 (by omega) (by omega)]; omega
    rw [rounds_succ']
    refine (latest_rd _ _ _ _ _).trans ?_
    rw [cond_pos (by omega), cond_pos2 (by omega) (by omega), Int.toNat_natCast, e3, i0_dec, or_bif, Option.bind_some]
    have e4 : latI l (i + 1) = bif decide (i = 0) || decide ((l.getD i recTy.zero).2.1 > latI l i) then (l.getD i recTy.zero).2.1 else latI l i := rfl
    unfold laSt at ih
    rw [e4] at ih
    cases hb : decide (i = 0) || decide ((l.getD i recTy.zero).2.1 > latI l i) with
    | true => rw [hb] at ih; exact ih
    | false => rw [hb] at ih; exact ih
abbrev laLC : LoopC := LoopC.of ⟨[(3, .int .i64), (6, .vl recT), (7, .int .i64), (8, .int .i64)], []⟩ (fun x => decide (x.1.1 = (0 : Int)) && decide (x.1.2.2.2.1 = (0 : Int)) && decide (x.1.2.2.1 = (List.length x.1.2.1 : Int)))
  fun x => [(true, .exit 0, laSt x.1.2.1 (List.length x.1.2.1))]
theorem la_lok : LoopOK P0 H.segs_latest 0 L.segs_latest_3 laLC :=
  loop_ok_of (env_ok env_nil) glob0 mixed0 noLoops V.segs_latest_3 (by decide) fun ⟨⟨t, l, n, i, _⟩, _⟩ h hw => by
    simp only [Bool.and_eq_true, decide_eq_true_eq] at h
    obtain ⟨⟨rfl, rfl⟩, rfl⟩ := h
    exact ⟨_, la_rounds l hw.1.2.1.1 _ l.length 0 (Nat.zero_add _)⟩
theorem latest_ev (l : List Rec) : evFn (env []) H.segs_latest (LPof [(3, laLC)]) F.segs_latest [.vl recT l] [] (finT [.int .i64]) = bif decide ((↑l.length : Int) = (↑l.length : Int)) && true then some (latI l l.length, ()) else none := by kernel_rfl

def caseLatest : PCase := ⟨[.ty (.sl recT)], [.int .i64], fun x => (fun (l : List Rec) => [(true, (latS l, ()))]) x.1⟩
theorem latest_val (l : List Rec) : evFn (env []) H.segs_latest (LPof [(3, laLC)]) F.segs_latest [.vl recT l] [] (finT [.int .i64]) = some (latS l, ()) := by
  rw [latest_ev]
  simp only [decide_true, Bool.and_self, cond_true]
  rfl
theorem latest_ok : caseLatest.ok P0 I.segs_latest := case_ok2 (H := H.segs_latest) (E := env []) (env_ok env_nil) glob0 mixed0 G.segs_latest Bd.segs_latest (by kernel_rfl) (loops_good (tab := [(3, laLC)]) (by kernel_rfl) (fun x hx => by simp at hx; subst hx; exact la_lok)) fun ⟨l, ()⟩ y h hw => by
  obtain ⟨hc, rfl⟩ := pick_pre h
  exact latest_val l
abbrev actP : List Pat := [.int .i64, .int .i64, .lit (.int .i64 0), .lit (.int .i64 0), .lit (.hw 2), .lit (.bool false), .lit (.bool false), .lit (.bool false), .int .i64, .lit (.int .u32 0)]
def H.active2 : Hint := { H.segs_Log_active with tp := [13] }
theorem active_ev (f : List Seg) (b n z : Int) (rs : List Rec) : evFn (env []) H.active2 (LPof []) F.segs_Log_active [.ptr 0 (.tl 0) 0] [.arr 1 .bool [] [[.hw 1]], .arr 10 segT f [[.int .i64 b, .int .i64 n, .int .i64 0, .int .i64 0, .hw 2, .bool false, .bool false, .bool false, .int .i64 z, .int .u32 0]], .log recT rs] (finV (.lit (.ptr 1 (.tl 0) 0)) [.box 1 [[.lit (.hw 1)]], .arr 10 segT [actP], .log recT] 3) = bif decide ((0 : Int) ≤ IntKind.i64.wrap ((↑(f.length + 1) : Int) - (1 : Int))) && decide (IntKind.i64.wrap ((↑(f.length + 1) : Int) - (1 : Int)) < (↑(f.length + 1) : Int)) then bif decide ((IntKind.i64.wrap ((↑(f.length + 1) : Int) - (1 : Int))).toNat < f.length) then none else bif decide ((IntKind.i64.wrap ((↑(f.length + 1) : Int) - (1 : Int))).toNat - f.length = 0) then some ((), (((), ()), ()), (f, (b, n, (), (), (), (), (), (), z, (), ()), ()), rs, ()) else none else none := by kernel_rfl

def H.new2 : Hint := { H.segs_New with lg := [(1, 27)] }
theorem new_ev : evFn (env []) H.new2 (LPof []) F.segs_New [] [] (finV (.lit (.ptr 0 (.tl 0) 0)) [.box 1 [[.lit (.hw 1)]], .arr 10 segT [actP], .log recT] 0) = some ((), (((), ()), ()), ([], ((0 : Int), (0 : Int), (), (), (), (), (), (), (0 : Int), (), ()), ()), [], ()) := by kernel_rfl

abbrev logP : List OPat := [.box 1 [[.lit (.hw 1)]], .arr 10 segT [actP], .log recT]
abbrev actC (b n z : Int) : List AV := [.int .i64 b, .int .i64 n, .int .i64 0, .int .i64 0, .hw 2, .bool false, .bool false, .bool false, .int .i64 z, .int .u32 0]
def caseActive : VCase := ⟨[.lit (.ptr 0 (.tl 0) 0)], logP, .lit (.ptr 1 (.tl 0) 0), logP, fun _ ⟨a, ⟨f, y⟩, rs, _⟩ => [(decide (List.length f ≤ 1000000000), ((), (a, (f, y), rs, ())))]⟩
theorem act_ok : caseActive.e.ok P0 I.segs_Log_active := vcase_ok (c := caseActive) (H := H.active2) (E := env []) (env_ok env_nil) glob0 mixed0 G.segs_Log_active Bd.segs_Log_active (by kernel_rfl) noLoops fun _ ⟨_, ⟨f, ⟨b, n, _, _, _, _, _, _, z, _, _⟩, _⟩, rs, _⟩ r h hw1 hw2 => by
  obtain ⟨hc, rfl⟩ := pick_pre h
  have hc := of_decide_eq_true hc
  have e : IntKind.i64.wrap (((f.length + 1 : Nat) : Int) - 1) = (f.length : Int) := by rw [wrap64 (by omega) (by omega)]; omega
  refine (active_ev f b n z rs).trans ?_
  rw [e, cond_pos2 (by omega) (by omega), Int.toNat_natCast, cond_neg (by omega), cond_pos (by omega)]
  rfl
noncomputable abbrev consS1 : List (FuncId × Con) := [(I.segs_Log_active, .eff (effOf [caseActive.e])), (I.segs_latest, .pure (pureOf [caseLatest])), (I.segs_size, .pure (pureOf [caseSize])), (I.record_Right, .pure (pureOf [caseRecright]))]
theorem consS1_ok : ∀ x ∈ consS1, HoldsC P0 x.1 x.2 := by
  intro x hx
  simp at hx
  rcases hx with rfl | rfl | rfl | rfl
  · exact ⟨fun args objs r objs2 h _ => effOf_holds (by simp; exact act_ok) args objs r objs2 h, C.segs_Log_active⟩
  · exact ⟨pureOf_holds (by simp; exact latest_ok), C.segs_latest⟩
  · exact ⟨pureOf_holds (by simp; exact size_ok), C.segs_size⟩
  · exact ⟨pureOf_holds (by simp; exact recright_ok), C.record_Right⟩
/-- A log: the segments ahead of the active one; the active one's base, next, size, records. -/
abbrev LogS := List Seg × Int × Int × Int × List Rec
def actS (L : LogS) : Seg := (L.2.1, L.2.2.1, 0, 0, L.2.2.2.2, false, false, false, L.2.2.2.1, 0)
def segsL (L : LogS) : List Seg := L.1 ++ [actS L]
abbrev actQ : List Pat := [.int .i64, .int .i64, .lit (.int .i64 0), .lit (.int .i64 0), .lit (.hw 4), .lit (.bool false), .lit (.bool false), .lit (.bool false), .int .i64, .lit (.int .u32 0)]
abbrev logQ : List OPat := [.box 1 [[.lit (.hw 3)]], .dead, .dead, .arr 10 segT [actQ], .log recT]
def sealP (L : LogS) : LogS := bif L.2.1 == L.2.2.1 then L else (L.1 ++ [(L.2.1, L.2.2.1, latS L.2.2.2.2, 0, L.2.2.2.2, true, false, false, L.2.2.2.1, 0)], L.2.2.1, L.2.2.1, 0, [])
def lowP (L : LogS) : Int := bif decide (0 < L.1.length) then (L.1.getD 0 segTy.zero).1 else L.2.1
def smallS (g : Seg) : Bool := decide (g.2.2.2.2.1.length ≤ 1000000000)
/-- Nothing is too great. -/
def okB (c : Nat) (L : LogS) : Bool := decide (0 ≤ L.2.1) && decide (L.2.1 ≤ L.2.2.1) && decide (L.2.2.1 ≤ c) && decide (0 ≤ L.2.2.2.1) && decide (L.2.2.2.1 ≤ 2260 * c) && decide (L.1.length ≤ c) && decide (L.2.2.2.2.length ≤ c) && L.1.all smallS
theorem okB_iff {c : Nat} {L : LogS} : okB c L = true ↔ 0 ≤ L.2.1 ∧ L.2.1 ≤ L.2.2.1 ∧ L.2.2.1 ≤ c ∧ 0 ≤ L.2.2.2.1 ∧ L.2.2.2.1 ≤ 2260 * c ∧ L.1.length ≤ c ∧ L.2.2.2.2.length ≤ c ∧ L.1.all smallS = true := by
  unfold okB
  simp only [Bool.and_eq_true, decide_eq_true_eq]
  exact ⟨fun ⟨⟨⟨⟨⟨⟨⟨a, b⟩, c⟩, d⟩, e⟩, f⟩, g⟩, h⟩ => ⟨a, b, c, d, e, f, g, h⟩, fun ⟨a, b, c, d, e, f, g, h⟩ => ⟨⟨⟨⟨⟨⟨⟨a, b⟩, c⟩, d⟩, e⟩, f⟩, g⟩, h⟩⟩
theorem okB_mono {c d : Nat} {L : LogS} (h : okB c L = true) (hd : c ≤ d) : okB d L = true := by
  obtain ⟨h1, h2, h3, h4, h5, h6, h7, h9⟩ := okB_iff.1 h
  exact okB_iff.2 ⟨h1, h2, by omega, h4, by omega, by omega, by omega, h9⟩
theorem sealP_ok {c : Nat} {L : LogS} (h : okB c L = true) (hc : c ≤ 1000000000) : okB (c + 1) (sealP L) = true := by
  obtain ⟨h1, h2, h3, h4, h5, h6, h7, h9⟩ := okB_iff.1 h
  unfold sealP
  cases hb : L.2.1 == L.2.2.1 with
  | true => exact okB_mono h (by omega)
  | false => exact okB_iff.2 ⟨by simp; omega, by simp, by simp; omega, by simp, by simp; omega, by simp; omega, by simp, by simp only [cond_false, List.all_append, h9, Bool.true_and, List.all_cons, List.all_nil, Bool.and_true]; exact decide_eq_true (show L.2.2.2.2.length ≤ 1000000000 by omega)⟩
theorem high_ev (f : List Seg) (b n z : Int) (rs : List Rec) : evFn (env consS1) H.segs_Log_High (LPof []) F.segs_Log_High [.ptr 0 (.tl 0) 0] [.arr 1 .bool [] [[.hw 1]], .arr 10 segT f [actC b n z], .log recT rs] (finV (.int .i64) logP 3) = bif decide (f.length ≤ 1000000000) then some (n, (((), ()), ()), (f, (b, n, (), (), (), (), (), (), z, (), ()), ()), rs, ()) else none := by kernel_rfl

theorem low_ev (f : List Seg) (b n z : Int) (rs : List Rec) : evFn (env consS1) H.segs_Log_Low (LPof []) F.segs_Log_Low [.ptr 0 (.tl 0) 0] [.arr 1 .bool [] [[.hw 1]], .arr 10 segT f [actC b n z], .log recT rs] (finV (.int .i64) logP 3) = bif decide ((0 : Int) < (↑(f.length + 1) : Int)) then bif decide (0 < f.length) then some ((f.getD 0 segTy.zero).fst, (((), ()), ()), (f, (b, n, (), (), (), (), (), (), z, (), ()), ()), rs, ()) else bif decide (0 - f.length = 0) then some (b, (((), ()), ()), (f, (b, n, (), (), (), (), (), (), z, (), ()), ()), rs, ()) else none else none := by kernel_rfl

def H.seal2 : Hint := { H.segs_Log_Seal with lg := [(38, 27)] }
theorem seal_ev (f : List Seg) (b n z : Int) (rs : List Rec) : evFnM 1 (env consS1) H.seal2 (LPof []) F.segs_Log_Seal [.ptr 0 (.tl 0) 0] [.arr 1 .bool [] [[.hw 1]], .arr 10 segT f [actC b n z], .log recT rs] (finVM (.lit (.tup [])) logQ 1 3) = bif decide (f.length ≤ 1000000000) then bif b == n then some ((), (((), ()), ()), (), (), (f, (b, n, (), (), (), (), (), (), z, (), ()), ()), rs, ()) else bif decide ((f.length + 2) * 80 ≤ 140737488355328) then some ((), (((), ()), ()), (), (), (f ++ [(b, n, latS rs, (0 : Int), rs, true, false, false, z, (0 : Int))], (n, n, (), (), (), (), (), (), (0 : Int), (), ()), ()), [], ()) else none else none := by kernel_rfl

def caseHigh : VCase := ⟨[.lit (.ptr 0 (.tl 0) 0)], logP, .int .i64, logP, fun _ ⟨_, ⟨f, ⟨b, n, _, _, _, _, _, _, z, _, _⟩, _⟩, rs, _⟩ => [(decide (List.length f ≤ 1000000000), (n, ((((), ()), ()), (f, (b, n, (), (), (), (), (), (), z, (), ()), ()), rs, ())))]⟩
theorem high_ok : caseHigh.e.ok P0 I.segs_Log_High := vcase_ok (c := caseHigh) (H := H.segs_Log_High) (E := env consS1) (env_ok consS1_ok) glob0 mixed0 G.segs_Log_High Bd.segs_Log_High (by kernel_rfl) noLoops fun _ ⟨_, ⟨f, ⟨b, n, _, _, _, _, _, _, z, _, _⟩, _⟩, rs, _⟩ r h hw1 hw2 => by
  obtain ⟨hc, rfl⟩ := pick_pre h
  refine (high_ev f b n z rs).trans ?_
  have hc : decide (List.length f ≤ 1000000000) = true := hc
  rw [hc]
  rfl
def caseLow : VCase := ⟨[.lit (.ptr 0 (.tl 0) 0)], logP, .int .i64, logP, fun _ ⟨_, ⟨f, ⟨b, n, _, _, _, _, _, _, z, _, _⟩, _⟩, rs, _⟩ => [(true, (lowP (f, b, n, z, rs), ((((), ()), ()), (f, (b, n, (), (), (), (), (), (), z, (), ()), ()), rs, ())))]⟩
theorem low_ok : caseLow.e.ok P0 I.segs_Log_Low := vcase_ok (c := caseLow) (H := H.segs_Log_Low) (E := env consS1) (env_ok consS1_ok) glob0 mixed0 G.segs_Log_Low Bd.segs_Log_Low (by kernel_rfl) noLoops fun _ ⟨_, ⟨f, ⟨b, n, _, _, _, _, _, _, z, _, _⟩, _⟩, rs, _⟩ r h hw1 hw2 => by
  obtain ⟨hc, rfl⟩ := pick_pre h
  refine (low_ev f b n z rs).trans ?_
  rw [cond_pos (by omega)]
  unfold lowP
  simp only
  by_cases h0 : 0 < List.length f
  · rw [cond_pos h0, cond_pos h0]
    rfl
  · rw [cond_neg h0, cond_neg h0, cond_pos (by omega)]
    rfl
def caseSeal : VCase := ⟨[.lit (.ptr 0 (.tl 0) 0)], logP, .lit (.tup []), logQ, fun _ ⟨_, ⟨f, ⟨b, n, _, _, _, _, _, _, z, _, _⟩, _⟩, rs, _⟩ => [(decide (List.length f ≤ 1000000000), ((), ((((), ()), ()), (), (), ((sealP (f, b, n, z, rs)).1, ((sealP (f, b, n, z, rs)).2.1, (sealP (f, b, n, z, rs)).2.2.1, (), (), (), (), (), (), (sealP (f, b, n, z, rs)).2.2.2.1, (), ()), ()), (sealP (f, b, n, z, rs)).2.2.2.2, ())))]⟩
theorem seal_ok : caseSeal.e.ok P0 I.segs_Log_Seal := vcase_okM (c := caseSeal) (H := H.seal2) (E := env consS1) (env_ok consS1_ok) glob0 mixed0 G.segs_Log_Seal Bd.segs_Log_Seal 1 rfl (by kernel_rfl) noLoops fun _ ⟨_, ⟨f, ⟨b, n, _, _, _, _, _, _, z, _, _⟩, _⟩, rs, _⟩ r h hw1 hw2 => by
  obtain ⟨hc, rfl⟩ := pick_pre h
  refine (seal_ev f b n z rs).trans ?_
  have hc : List.length f ≤ 1000000000 := of_decide_eq_true hc
  rw [cond_pos hc]
  unfold sealP
  simp only
  cases hb : b == n with
  | true => rfl
  | false =>
    rw [cond_false, cond_pos (by omega)]
    rfl
def caseNew : VCase := ⟨[], [], .lit (.ptr 0 (.tl 0) 0), logP, fun _ _ => [(true, ((), ((((), ()), ()), ([], (0, 0, (), (), (), (), (), (), 0, (), ()), ()), [], ())))]⟩
theorem new_ok : caseNew.e.ok P0 I.segs_New := vcase_ok (c := caseNew) (H := H.new2) (E := env []) (env_ok env_nil) glob0 mixed0 G.segs_New Bd.segs_New (by kernel_rfl) noLoops fun _ _ r h hw1 hw2 => by
  obtain ⟨hc, rfl⟩ := pick_pre h
  exact new_ev
noncomputable abbrev consS2 : List (FuncId × Con) := [(I.segs_Log_Seal, .eff (effOf [caseSeal.e])), (I.segs_Log_High, .eff (effOf [caseHigh.e])), (I.segs_Log_Low, .eff (effOf [caseLow.e])), (I.segs_New, .eff (effOf [caseNew.e]))] ++ consS1
theorem consS2_ok : ∀ x ∈ consS2, HoldsC P0 x.1 x.2 := by
  intro x hx
  rcases List.mem_append.1 hx with hx | hx
  · simp at hx
    rcases hx with rfl | rfl | rfl | rfl
    · exact ⟨fun args objs r objs2 h _ => effOf_holds (by simp; exact seal_ok) args objs r objs2 h, C.segs_Log_Seal⟩
    · exact ⟨fun args objs r objs2 h _ => effOf_holds (by simp; exact high_ok) args objs r objs2 h, C.segs_Log_High⟩
    · exact ⟨fun args objs r objs2 h _ => effOf_holds (by simp; exact low_ok) args objs r objs2 h, C.segs_Log_Low⟩
    · exact ⟨fun args objs r objs2 h _ => effOf_holds (by simp; exact new_ok) args objs r objs2 h, C.segs_New⟩
  · exact consS1_ok x hx
theorem append_rd {R : Type} (most fi : Int) (so : Bool) (l : List Rec) (m i : Int) (f : List Seg) (b n z : Int) (rs : List Rec) (K : Ex → St → Option R) : roundK (env consS2) H.segs_Log_Append 1 (LPof []) V.segs_Log_Append_3 L.segs_Log_Append_3 ⟨[(0, .ptr 0 (.tl 0) 0), (2, .int .i64 most), (7, .int .i64 fi), (8, .bool so), (14, .vl recT l), (15, .int .i64 m), (16, .int .i64 i)], [(0, .arr 1 .bool [] [[.hw 1]]), (1, .arr 10 segT f [actC b n z]), (2, .log recT rs)], 3⟩ K = bif decide (i < m) then bif decide ((0 : Int) ≤ i) && decide (i < (↑l.length : Int)) then bif !recR ((0 : Int), (l.getD i.toNat recTy.zero).snd) then K Ex.normal { slots := [(0, AV.ptr 0 (Elt.tl 0) 0), (2, AV.int IntKind.i64 most), (7, AV.int IntKind.i64 fi), (8, AV.bool so), (14, AV.vl recTy l), (15, AV.int IntKind.i64 m), (16, AV.int IntKind.i64 (IntKind.i64.wrap (i + (1 : Int))))], objs := [(0, AObj.arr 1 Ty.bool [] [[AV.hw 1]]), (1, AObj.arr 10 segTy f [[AV.int IntKind.i64 b, AV.int IntKind.i64 n, AV.int IntKind.i64 (0 : Int), AV.int IntKind.i64 (0 : Int), AV.hw 2, AV.bool false, AV.bool false, AV.bool false, AV.int IntKind.i64 z, AV.int IntKind.u32 (0 : Int)]]), (2, AObj.log recTy rs)], nx := 3 } else bif decide (f.length ≤ 1000000000) then bif !so then bif decide ((rs ++ [(n, (l.getD i.toNat recTy.zero).snd)]).length * 56 ≤ 140737488355328) then bif decide (IntKind.i64.wrap (IntKind.i64.wrap (n + (1 : Int)) - b) ≥ bif decide (most > (1 : Int)) then most else (1 : Int)) then bif decide (f.length ≤ 1000000000) then K Ex.normal { slots := [(0, AV.ptr 0 (Elt.tl 0) 0), (2, AV.int IntKind.i64 most), (7, AV.int IntKind.i64 n), (8, AV.bool true), (14, AV.vl recTy l), (15, AV.int IntKind.i64 m), (16, AV.int IntKind.i64 (IntKind.i64.wrap (i + (1 : Int))))], objs := [(0, AObj.arr 1 Ty.bool [] [[AV.hw 1]]), (1, AObj.arr 10 segTy (sealP (f, b, IntKind.i64.wrap (n + (1 : Int)), IntKind.i64.wrap (z + (↑(bytS [(n, (l.getD i.toNat recTy.zero).snd)]).length : Int)), rs ++ [(n, (l.getD i.toNat recTy.zero).snd)])).fst [[AV.int IntKind.i64 (sealP (f, b, IntKind.i64.wrap (n + (1 : Int)), IntKind.i64.wrap (z + (↑(bytS [(n, (l.getD i.toNat recTy.zero).snd)]).length : Int)), rs ++ [(n, (l.getD i.toNat recTy.zero).snd)])).snd.fst, AV.int IntKind.i64 (sealP (f, b, IntKind.i64.wrap (n + (1 : Int)), IntKind.i64.wrap (z + (↑(bytS [(n, (l.getD i.toNat recTy.zero).snd)]).length : Int)), rs ++ [(n, (l.getD i.toNat recTy.zero).snd)])).snd.snd.fst, AV.int IntKind.i64 (0 : Int), AV.int IntKind.i64 (0 : Int), AV.hw 2, AV.bool false, AV.bool false, AV.bool false, AV.int IntKind.i64 (sealP (f, b, IntKind.i64.wrap (n + (1 : Int)), IntKind.i64.wrap (z + (↑(bytS [(n, (l.getD i.toNat recTy.zero).snd)]).length : Int)), rs ++ [(n, (l.getD i.toNat recTy.zero).snd)])).snd.snd.snd.fst, AV.int IntKind.u32 (0 : Int)]]), (2, AObj.log recTy (sealP (f, b, IntKind.i64.wrap (n + (1 : Int)), IntKind.i64.wrap (z + (↑(bytS [(n, (l.getD i.toNat recTy.zero).snd)]).length : Int)), rs ++ [(n, (l.getD i.toNat recTy.zero).snd)])).snd.snd.snd.snd)], nx := 3 } else none else K Ex.normal { slots := [(0, AV.ptr 0 (Elt.tl 0) 0), (2, AV.int IntKind.i64 most), (7, AV.int IntKind.i64 n), (8, AV.bool true), (14, AV.vl recTy l), (15, AV.int IntKind.i64 m), (16, AV.int IntKind.i64 (IntKind.i64.wrap (i + (1 : Int))))], objs := [(0, AObj.arr 1 Ty.bool [] [[AV.hw 1]]), (1, AObj.arr 10 segTy f [[AV.int IntKind.i64 b, AV.int IntKind.i64 (IntKind.i64.wrap (n + (1 : Int))), AV.int IntKind.i64 (0 : Int), AV.int IntKind.i64 (0 : Int), AV.hw 2, AV.bool false, AV.bool false, AV.bool false, AV.int IntKind.i64 (IntKind.i64.wrap (z + (↑(bytS [(n, (l.getD i.toNat recTy.zero).snd)]).length : Int))), AV.int IntKind.u32 (0 : Int)]]), (2, AObj.log recTy (rs ++ [(n, (l.getD i.toNat recTy.zero).snd)]))], nx := 3 } else none else bif decide ((rs ++ [(n, (l.getD i.toNat recTy.zero).snd)]).length * 56 ≤ 140737488355328) then bif decide (IntKind.i64.wrap (IntKind.i64.wrap (n + (1 : Int)) - b) ≥ bif decide (most > (1 : Int)) then most else (1 : Int)) then bif decide (f.length ≤ 1000000000) then K Ex.normal { slots := [(0, AV.ptr 0 (Elt.tl 0) 0), (2, AV.int IntKind.i64 most), (7, AV.int IntKind.i64 fi), (8, AV.bool so), (14, AV.vl recTy l), (15, AV.int IntKind.i64 m), (16, AV.int IntKind.i64 (IntKind.i64.wrap (i + (1 : Int))))], objs := [(0, AObj.arr 1 Ty.bool [] [[AV.hw 1]]), (1, AObj.arr 10 segTy (sealP (f, b, IntKind.i64.wrap (n + (1 : Int)), IntKind.i64.wrap (z + (↑(bytS [(n, (l.getD i.toNat recTy.zero).snd)]).length : Int)), rs ++ [(n, (l.getD i.toNat recTy.zero).snd)])).fst [[AV.int IntKind.i64 (sealP (f, b, IntKind.i64.wrap (n + (1 : Int)), IntKind.i64.wrap (z + (↑(bytS [(n, (l.getD i.toNat recTy.zero).snd)]).length : Int)), rs ++ [(n, (l.getD i.toNat recTy.zero).snd)])).snd.fst, AV.int IntKind.i64 (sealP (f, b, IntKind.i64.wrap (n + (1 : Int)), IntKind.i64.wrap (z + (↑(bytS [(n, (l.getD i.toNat recTy.zero).snd)]).length : Int)), rs ++ [(n, (l.getD i.toNat recTy.zero).snd)])).snd.snd.fst, AV.int IntKind.i64 (0 : Int), AV.int IntKind.i64 (0 : Int), AV.hw 2, AV.bool false, AV.bool false, AV.bool false, AV.int IntKind.i64 (sealP (f, b, IntKind.i64.wrap (n + (1 : Int)), IntKind.i64.wrap (z + (↑(bytS [(n, (l.getD i.toNat recTy.zero).snd)]).length : Int)), rs ++ [(n, (l.getD i.toNat recTy.zero).snd)])).snd.snd.snd.fst, AV.int IntKind.u32 (0 : Int)]]), (2, AObj.log recTy (sealP (f, b, IntKind.i64.wrap (n + (1 : Int)), IntKind.i64.wrap (z + (↑(bytS [(n, (l.getD i.toNat recTy.zero).snd)]).length : Int)), rs ++ [(n, (l.getD i.toNat recTy.zero).snd)])).snd.snd.snd.snd)], nx := 3 } else none else K Ex.normal { slots := [(0, AV.ptr 0 (Elt.tl 0) 0), (2, AV.int IntKind.i64 most), (7, AV.int IntKind.i64 fi), (8, AV.bool so), (14, AV.vl recTy l), (15, AV.int IntKind.i64 m), (16, AV.int IntKind.i64 (IntKind.i64.wrap (i + (1 : Int))))], objs := [(0, AObj.arr 1 Ty.bool [] [[AV.hw 1]]), (1, AObj.arr 10 segTy f [[AV.int IntKind.i64 b, AV.int IntKind.i64 (IntKind.i64.wrap (n + (1 : Int))), AV.int IntKind.i64 (0 : Int), AV.int IntKind.i64 (0 : Int), AV.hw 2, AV.bool false, AV.bool false, AV.bool false, AV.int IntKind.i64 (IntKind.i64.wrap (z + (↑(bytS [(n, (l.getD i.toNat recTy.zero).snd)]).length : Int))), AV.int IntKind.u32 (0 : Int)]]), (2, AObj.log recTy (rs ++ [(n, (l.getD i.toNat recTy.zero).snd)]))], nx := 3 } else none else none else none else K (Ex.exit 0) { slots := [(0, AV.ptr 0 (Elt.tl 0) 0), (2, AV.int IntKind.i64 most), (7, AV.int IntKind.i64 fi), (8, AV.bool so), (14, AV.vl recTy l), (15, AV.int IntKind.i64 m), (16, AV.int IntKind.i64 i)], objs := [(0, AObj.arr 1 Ty.bool [] [[AV.hw 1]]), (1, AObj.arr 10 segTy f [[AV.int IntKind.i64 b, AV.int IntKind.i64 n, AV.int IntKind.i64 (0 : Int), AV.int IntKind.i64 (0 : Int), AV.hw 2, AV.bool false, AV.bool false, AV.bool false, AV.int IntKind.i64 z, AV.int IntKind.u32 (0 : Int)]]), (2, AObj.log recTy rs)], nx := 3 } := by kernel_rfl

end Go.Sim
namespace Go.Sim
set_option linter.unusedSimpArgs false
set_option linter.unusedVariables false
set_option maxRecDepth 10000
def mxI (most : Int) : Int := bif decide (most > 1) then most else 1
/-- One record more. -/
def pushP (L : LogS) (r : Rec) : LogS := (L.1, L.2.1, L.2.2.1 + 1, L.2.2.2.1 + ((bytS [(L.2.2.1, r.2)]).length : Nat), L.2.2.2.2 ++ [(L.2.2.1, r.2)])
def apR (most : Int) (L : LogS) (r : Rec) : LogS := bif recR (0, r.2) then (bif decide (L.2.2.1 + 1 - L.2.1 ≥ mxI most) then sealP (pushP L r) else pushP L r) else L
def apL (most : Int) (l : List Rec) (L : LogS) : Nat → LogS
  | 0 => L
  | i + 1 => apR most (apL most l L i) (l.getD i recTy.zero)
def someI (l : List Rec) : Nat → Bool
  | 0 => false
  | i + 1 => someI l i || recR (0, (l.getD i recTy.zero).2)
theorem pushP_ok {c : Nat} {L : LogS} (r : Rec) (h : okB c L = true) : okB (c + 1) (pushP L r) = true := by
  obtain ⟨h1, h2, h3, h4, h5, h6, h7, h9⟩ := okB_iff.1 h
  have h8 := bytS_len [(L.2.2.1, r.2)]
  simp only [List.length_singleton] at h8
  exact okB_iff.2 ⟨h1, by simp [pushP]; omega, by simp [pushP]; omega, by simp [pushP]; omega, by simp [pushP]; omega, by simp [pushP]; omega, by simp [pushP]; omega, h9⟩
theorem apR_ok {c : Nat} {L : LogS} (most : Int) (r : Rec) (h : okB c L = true) (hc : c + 1 ≤ 1000000000) : okB (c + 2) (apR most L r) = true := by
  unfold apR
  cases recR (0, r.2) with
  | false => exact okB_mono h (by omega)
  | true =>
    have := pushP_ok r h
    cases decide (L.2.2.1 + 1 - L.2.1 ≥ mxI most) with
    | true => exact sealP_ok this hc
    | false => exact okB_mono this (by omega)
theorem apL_ok {c : Nat} {L : LogS} (most : Int) (l : List Rec) (h : okB c L = true) : ∀ i, c + 2 * i ≤ 1000000000 → okB (c + 2 * i) (apL most l L i) = true
  | 0, _ => h
  | i + 1, hi => apR_ok (c := c + 2 * i) most _ (apL_ok most l h i (by omega)) (by omega)
theorem sealP_next (L : LogS) : (sealP L).2.2.1 = L.2.2.1 := by
  unfold sealP
  cases L.2.1 == L.2.2.1 <;> rfl
theorem someI_next {most : Int} {l : List Rec} {L : LogS} : ∀ {i : Nat}, someI l i = false → apL most l L i = L
  | 0, _ => rfl
  | i + 1, h => by
    simp only [someI, Bool.or_eq_false_iff] at h
    show apR most (apL most l L i) _ = L
    unfold apR
    rw [h.2, cond_false]
    exact someI_next h.1
def logO (L : LogS) : List (Nat × AObj) := [(0, .arr 1 .bool [] [[.hw 1]]), (1, .arr 10 segT L.1 [actC L.2.1 L.2.2.1 L.2.2.2.1]), (2, .log recT L.2.2.2.2)]
def apSt (most fi : Int) (so : Bool) (l : List Rec) (i : Nat) (L : LogS) : St := ⟨[(0, .ptr 0 (.tl 0) 0), (2, .int .i64 most), (7, .int .i64 fi), (8, .bool so), (14, .vl recT l), (15, .int .i64 l.length), (16, .int .i64 i)], logO L, 3⟩
theorem ap_round {R : Type} (most fi : Int) (so : Bool) (l : List Rec) (hl : l.length ≤ 400000000) (i : Nat) (hi : i < l.length) (M : LogS) {c : Nat} (h : okB c M = true) (hc : c ≤ 2000000000) (hf : M.1.length ≤ 1000000000) (hso : so = false → M.2.2.1 = fi) (K : Ex → St → Option R) :
    roundK (env consS2) H.segs_Log_Append 1 (LPof []) V.segs_Log_Append_3 L.segs_Log_Append_3 (apSt most fi so l i M) K = K .normal (apSt most fi (so || recR (0, (l.getD i recTy.zero).2)) l (i + 1) (apR most M (l.getD i recTy.zero))) := by
  obtain ⟨f, b, n, z, rs⟩ := M
  obtain ⟨h1, h2, h3, h4, h5, h6, h7, h9⟩ := okB_iff.1 h
  simp only at h1 h2 h3 h4 h5 h6 h7 hf hso
  refine (append_rd _ _ _ _ _ _ _ _ _ _ _ _).trans ?_
  have e3 : IntKind.i64.wrap ((i : Int) + 1) = ((i + 1 : Nat) : Int) := by rw [wrap64 (by omega) (by omega)]; omega
  have h8 := bytS_len [(n, (l.getD i recTy.zero).2)]
  simp only [List.length_singleton] at h8
  have e4 : IntKind.i64.wrap (n + 1) = n + 1 := wrap64 (by omega) (by omega)
  have e5 : IntKind.i64.wrap (n + 1 - b) = n + 1 - b := wrap64 (by omega) (by omega)
  have e6 : IntKind.i64.wrap (z + ((bytS [(n, (l.getD i recTy.zero).2)]).length : Int)) = z + ((bytS [(n, (l.getD i recTy.zero).2)]).length : Int) := wrap64 (by omega) (by omega)
  have b1 : decide ((rs ++ [(n, (l.getD i recTy.zero).2)]).length * 56 ≤ 140737488355328) = true := by simp; omega
  have b2 : decide (f.length ≤ 1000000000) = true := decide_eq_true hf
  rw [cond_pos (by omega), cond_pos2 (by omega) (by omega), Int.toNat_natCast, e3, e4, e5, e6, b1, b2]
  unfold apR
  cases hr : recR (0, (l.getD i recTy.zero).2) with
  | false =>
    simp only [Bool.not_false, cond_true, cond_false, Bool.or_false]
    rfl
  | true =>
    simp only [Bool.not_true, cond_true, cond_false, Bool.or_true]
    show (bif !so then bif decide (n + 1 - b ≥ mxI most) then _ else _ else bif decide (n + 1 - b ≥ mxI most) then _ else _) = K .normal (apSt most fi true l (i + 1) (bif decide (n + 1 - b ≥ mxI most) then _ else _))
    cases so with
    | false =>
      obtain rfl := hso rfl
      cases decide (n + 1 - b ≥ mxI most) <;> rfl
    | true => cases decide (n + 1 - b ≥ mxI most) <;> rfl
theorem ap_rounds {R : Type} (most : Int) (l : List Rec) (hl : l.length ≤ 200000000) (M : LogS) (h : okB 500000000 M = true) (K : Ex → St → Option R) : ∀ (m i : Nat), i + m = l.length →
    rounds (env consS2) H.segs_Log_Append 1 (LPof []) V.segs_Log_Append_3 L.segs_Log_Append_3 (m + 1) (apSt most M.2.2.1 (someI l i) l i (apL most l M i)) K = K (.exit 0) (apSt most M.2.2.1 (someI l l.length) l l.length (apL most l M l.length))
  | 0, i, hi => by
    obtain rfl : i = l.length := by omega
    rw [rounds_succ']
    refine (append_rd _ _ _ _ _ _ _ _ _ _ _ _).trans ?_
    rw [cond_neg (by omega)]
    rfl
  | m + 1, i, hi => by
    have ih := ap_rounds most l hl M h K m (i + 1) (by omega)
    have hk := apL_ok most l h i (by omega)
    have h6 := (okB_iff.1 hk).2.2.2.2.2.1
    rw [rounds_succ']
    refine (ap_round most M.2.2.1 (someI l i) l (by omega) i (by omega) _ hk (by omega) (by omega) (fun hs => by rw [someI_next hs]) _).trans ?_
    exact ih
abbrev apLC : LoopC := LoopC.of ⟨[(0, .lit (.ptr 0 (.tl 0) 0)), (2, .int .i64), (7, .int .i64), (8, .bool), (14, .vl recT), (15, .int .i64), (16, .int .i64)], logP⟩
  (fun ⟨⟨_, most, fi, so, l, m, i, _⟩, ⟨_, ⟨f, ⟨b, n, _, _, _, _, _, _, z, _, _⟩, _⟩, rs, _⟩⟩ => decide (i = (0 : Int)) && decide (m = (List.length l : Int)) && !so && decide (fi = n) && decide (List.length l ≤ 200000000) && okB 500000000 (f, b, n, z, rs))
  fun ⟨⟨_, most, fi, so, l, m, i, _⟩, ⟨_, ⟨f, ⟨b, n, _, _, _, _, _, _, z, _, _⟩, _⟩, rs, _⟩⟩ => [(true, .exit 0, apSt most fi (someI l (List.length l)) l (List.length l) (apL most l (f, b, n, z, rs) (List.length l)))]
theorem ap_lok : LoopOK P0 H.segs_Log_Append 1 L.segs_Log_Append_3 apLC :=
  loop_ok_of (env_ok consS2_ok) glob0 mixed0 noLoops V.segs_Log_Append_3 (by decide) fun ⟨⟨_, most, fi, so, l, m, i, _⟩, ⟨_, ⟨f, ⟨b, n, _, _, _, _, _, _, z, _, _⟩, _⟩, rs, _⟩⟩ h hw => by
    simp only [Bool.and_eq_true, decide_eq_true_eq, Bool.not_eq_true'] at h
    obtain ⟨⟨⟨⟨⟨rfl, rfl⟩, rfl⟩, rfl⟩, h5⟩, h6⟩ := h
    exact ⟨_, ap_rounds most l h5 (f, b, fi, z, rs) h6 _ (List.length l) 0 (Nat.zero_add _)⟩
theorem append_ev (most : Int) (l : List Rec) (f : List Seg) (b n z : Int) (rs : List Rec) : evFnM 1 (env consS2) H.segs_Log_Append (LPof [(3, apLC)]) F.segs_Log_Append [.ptr 0 (.tl 0) 0, .vl recT l, .int .i64 most] [.arr 1 .bool [] [[.hw 1]], .arr 10 segT f [actC b n z], .log recT rs] (finVM (.int .i64) logQ 1 3) = bif decide (f.length ≤ 1000000000) then bif decide ((↑l.length : Int) = (↑l.length : Int)) && true && decide (n = n) && decide (l.length ≤ 200000000) && okB 500000000 (f, b, n, z, rs) && true then some (n, (((), ()), ()), (), (), ((apL most l (f, b, n, z, rs) l.length).fst, ((apL most l (f, b, n, z, rs) l.length).snd.fst, (apL most l (f, b, n, z, rs) l.length).snd.snd.fst, (), (), (), (), (), (), (apL most l (f, b, n, z, rs) l.length).snd.snd.snd.fst, (), ()), ()), (apL most l (f, b, n, z, rs) l.length).snd.snd.snd.snd, ()) else none else none := by kernel_rfl

end Go.Sim
namespace Go.Sim
set_option linter.unusedSimpArgs false
set_option linter.unusedVariables false
set_option maxRecDepth 10000
def caseAppend : VCase := ⟨[.lit (.ptr 0 (.tl 0) 0), .vl recT, .int .i64], logP, .int .i64, logQ, fun ⟨_, l, most, _⟩ ⟨_, ⟨f, ⟨b, n, _, _, _, _, _, _, z, _, _⟩, _⟩, rs, _⟩ => [(decide (List.length l ≤ 200000000) && okB 500000000 (f, b, n, z, rs), (n, ((((), ()), ()), (), (), ((apL most l (f, b, n, z, rs) (List.length l)).1, ((apL most l (f, b, n, z, rs) (List.length l)).2.1, (apL most l (f, b, n, z, rs) (List.length l)).2.2.1, (), (), (), (), (), (), (apL most l (f, b, n, z, rs) (List.length l)).2.2.2.1, (), ()), ()), (apL most l (f, b, n, z, rs) (List.length l)).2.2.2.2, ())))]⟩
theorem append_ok : caseAppend.e.ok P0 I.segs_Log_Append := vcase_okM (c := caseAppend) (H := H.segs_Log_Append) (E := env consS2) (env_ok consS2_ok) glob0 mixed0 G.segs_Log_Append Bd.segs_Log_Append 1 rfl (by kernel_rfl) (loops_good (tab := [(3, apLC)]) (by kernel_rfl) (fun x hx => by simp at hx; subst hx; exact ap_lok)) fun ⟨_, l, most, _⟩ ⟨_, ⟨f, ⟨b, n, _, _, _, _, _, _, z, _, _⟩, _⟩, rs, _⟩ r h hw1 hw2 => by
  obtain ⟨hc, rfl⟩ := pick_pre h
  simp only [Bool.and_eq_true] at hc
  refine (append_ev most l f b n z rs).trans ?_
  have h6 : List.length f ≤ 500000000 := (okB_iff.1 hc.2).2.2.2.2.2.1
  rw [cond_pos (by omega), hc.1, hc.2]
  simp only [decide_true, Bool.and_self, cond_true]
  rfl
theorem rclone_ev (xs : List Rec) : evFn (env []) H.slices_Clone_api_Record_api_Record (LPof []) F.slices_Clone_api_Record_api_Record [.vl recT xs] [] (finT [.sl recT]) = bif decide (0 < xs.length) then bif decide (([] ++ xs).length * 56 ≤ 140737488355328) then some ([] ++ xs, ()) else none else none := by kernel_rfl

theorem rclone0_ev (b : Bool) : evFn (env []) H.slices_Clone_api_Record_api_Record (LPof []) F.slices_Clone_api_Record_api_Record [.ve b] [] (finV (.vl recT) [] 0) = bif b then some ([], ()) else some ([] ++ [], ()) := by kernel_rfl

def caseRcloneA : PCase := ⟨[.ty (.sl recT)], [.sl recT], fun x => [(decide (0 < List.length x.1) && decide (List.length x.1 ≤ 1000000000), (x.1, ()))]⟩
theorem rcloneA_ok : caseRcloneA.ok P0 I.slices_Clone_api_Record_api_Record := case_ok2 (H := H.slices_Clone_api_Record_api_Record) (E := env []) (env_ok env_nil) glob0 mixed0 G.slices_Clone_api_Record_api_Record Bd.slices_Clone_api_Record_api_Record (by kernel_rfl) noLoops fun ⟨xs, ()⟩ y h hw => by
  obtain ⟨hc, rfl⟩ := pick_pre h
  simp only [Bool.and_eq_true, decide_eq_true_eq] at hc
  refine (rclone_ev xs).trans ?_
  rw [cond_pos hc.1, cond_pos (by simp only [List.nil_append]; omega), List.nil_append]
  rfl
def caseRclone : PCase := ⟨[.ty (.sl recT)], [.sl recT], fun x => [(decide (List.length x.1 ≤ 1000000000), (x.1, ()))]⟩
theorem rclone_zero (b : Bool) : EffGood P0 I.slices_Clone_api_Record_api_Record [.ve b] [] (.vl recT []) [] :=
  eff_of_ev (H := H.slices_Clone_api_Record_api_Record) (E := env []) (env_ok env_nil) glob0 mixed0 G.slices_Clone_api_Record_api_Record Bd.slices_Clone_api_Record_api_Record (args := [.ve b]) (objs := []) (by kernel_rfl) (out := .vl recT) (outs := []) (LP := LPof []) noLoops (a := ([] : List Rec)) (b := ()) ((rclone0_ev b).trans (by cases b <;> rfl))
theorem rclone_ok : caseRclone.ok P0 I.slices_Clone_api_Record_api_Record := fun ⟨xs, ()⟩ y h hw => by
  obtain ⟨hc, rfl⟩ := pick_pre h
  by_cases h0 : 0 < List.length xs
  · have hp : pick (caseRcloneA.f (xs, ())) = some (xs, ()) := by
      show pick [(decide (0 < List.length xs) && decide (List.length xs ≤ 1000000000), _)] = _
      rw [decide_eq_true h0, hc]
      rfl
    exact rcloneA_ok (xs, ()) _ hp hw
  · obtain rfl : xs = [] := List.eq_nil_of_length_eq_zero (by omega)
    refine ⟨[], fun own φ β w vs hV hW ht => ?_⟩
    obtain ⟨u, us, rfl, hu, hus⟩ : ∃ u us, vs = u :: us ∧ V φ β w (.vl recT []) u ∧ VL φ β w [] us := hV
    simp only [VL] at hus
    subst hus
    simp only [V, Vt] at hu
    obtain ⟨_, A, cap, hu, _⟩ := hu
    simp at hu
    subst hu
    exact rclone_zero A.isNone own φ β w _ ⟨_, [], rfl, ⟨A, cap, rfl, rfl⟩, rfl⟩ hW ht
noncomputable abbrev consC1 : List (FuncId × Con) := [(I.slices_Clone_api_Record_api_Record, .pure (pureOf [caseRclone]))]
theorem consC1_ok : ∀ x ∈ consC1, HoldsC P0 x.1 x.2 := by
  intro x hx
  simp at hx
  subst hx
  exact ⟨pureOf_holds (by simp; exact rclone_ok), C.slices_Clone_api_Record_api_Record⟩
theorem copied_ev (g : Seg) : evFn (env consC1) H.segs_copied (LPof []) F.segs_copied [valOf segT g] [] (finT [segT]) = bif decide (List.length g.snd.snd.snd.snd.fst ≤ 1000000000) then some (g, ()) else none := by kernel_rfl

def caseCopied : PCase := ⟨[.ty segT], [segT], fun x => (fun (g : Seg) => [(decide (List.length g.2.2.2.2.1 ≤ 1000000000), (g, ()))]) x.1⟩
theorem copied_val (g : Seg) (hc : (decide (List.length g.2.2.2.2.1 ≤ 1000000000)) = true) : evFn (env consC1) H.segs_copied (LPof []) F.segs_copied [valOf segT g] [] (finT [segT]) = some (g, ()) := by
  rw [copied_ev, hc]; rfl
theorem copied_ok : caseCopied.ok P0 I.segs_copied := case_ok2 (H := H.segs_copied) (E := env consC1) (env_ok consC1_ok) glob0 mixed0 G.segs_copied Bd.segs_copied (by kernel_rfl) noLoops fun ⟨g, ()⟩ y h hw => by
  obtain ⟨hc, rfl⟩ := pick_pre h
  exact copied_val g hc
noncomputable abbrev consC2 : List (FuncId × Con) := [(I.segs_copied, .pure (pureOf [caseCopied]))]
theorem consC2_ok : ∀ x ∈ consC2, HoldsC P0 x.1 x.2 := by
  intro x hx
  simp at hx
  subst hx
  exact ⟨pureOf_holds (by simp; exact copied_ok), C.segs_copied⟩
abbrev actR (b n z : Int) : List AV := [.int .i64 b, .int .i64 n, .int .i64 0, .int .i64 0, .hw 1, .bool false, .bool false, .bool false, .int .i64 z, .int .u32 0]
theorem all_rd {R : Type} (m i : Int) (f o : List Seg) (b n z : Int) (rs : List Rec) (K : Ex → St → Option R) : roundK (env consC2) H.segs_all 2 (LPof []) V.segs_all_3 L.segs_all_3 ⟨[(3, .hw 2), (6, .hw 0), (7, .int .i64 m), (8, .int .i64 i)], [(0, .arr 10 segT f [actR b n z]), (1, .log recT rs), (2, .arr 10 segT o [])], 3⟩ K = bif decide (i < m) then bif decide ((0 : Int) ≤ i) && decide (i < (↑(f.length + 1) : Int)) then bif decide (i.toNat < f.length) then bif decide ((f.getD i.toNat segTy.zero).snd.snd.snd.snd.fst.length ≤ 1000000000) then bif decide ((o ++ [f.getD i.toNat segTy.zero]).length * 80 ≤ 140737488355328) then K Ex.normal { slots := [(3, AV.hw 2), (6, AV.hw 0), (7, AV.int IntKind.i64 m), (8, AV.int IntKind.i64 (IntKind.i64.wrap (i + (1 : Int))))], objs := [(0, AObj.arr 10 segTy f [[AV.int IntKind.i64 b, AV.int IntKind.i64 n, AV.int IntKind.i64 (0 : Int), AV.int IntKind.i64 (0 : Int), AV.hw 1, AV.bool false, AV.bool false, AV.bool false, AV.int IntKind.i64 z, AV.int IntKind.u32 (0 : Int)]]), (1, AObj.log recTy rs), (2, AObj.arr 10 segTy (o ++ [f.getD i.toNat segTy.zero]) [])], nx := 3 } else none else none else bif decide (i.toNat - f.length = 0) then bif decide (rs.length ≤ 1000000000) then bif decide ((o ++ [(b, n, (0 : Int), (0 : Int), rs, false, false, false, z, (0 : Int))]).length * 80 ≤ 140737488355328) then K Ex.normal { slots := [(3, AV.hw 2), (6, AV.hw 0), (7, AV.int IntKind.i64 m), (8, AV.int IntKind.i64 (IntKind.i64.wrap (i + (1 : Int))))], objs := [(0, AObj.arr 10 segTy f [[AV.int IntKind.i64 b, AV.int IntKind.i64 n, AV.int IntKind.i64 (0 : Int), AV.int IntKind.i64 (0 : Int), AV.hw 1, AV.bool false, AV.bool false, AV.bool false, AV.int IntKind.i64 z, AV.int IntKind.u32 (0 : Int)]]), (1, AObj.log recTy rs), (2, AObj.arr 10 segTy (o ++ [(b, n, (0 : Int), (0 : Int), rs, false, false, false, z, (0 : Int))]) [])], nx := 3 } else none else none else none else none else K (Ex.exit 0) { slots := [(3, AV.hw 2), (6, AV.hw 0), (7, AV.int IntKind.i64 m), (8, AV.int IntKind.i64 i)], objs := [(0, AObj.arr 10 segTy f [[AV.int IntKind.i64 b, AV.int IntKind.i64 n, AV.int IntKind.i64 (0 : Int), AV.int IntKind.i64 (0 : Int), AV.hw 1, AV.bool false, AV.bool false, AV.bool false, AV.int IntKind.i64 z, AV.int IntKind.u32 (0 : Int)]]), (1, AObj.log recTy rs), (2, AObj.arr 10 segTy o [])], nx := 3 } := by kernel_rfl

def smallL (l : List Seg) : Bool := decide (List.length l ≤ 1000000000) && List.all l smallS
theorem small_at {l : List Seg} (h : l.all smallS = true) {i : Nat} (hi : i < l.length) : (l.getD i segTy.zero).2.2.2.2.1.length ≤ 1000000000 := by
  have : l.getD i segTy.zero ∈ l := by
    rw [List.getD_eq_getElem?_getD, List.getElem?_eq_getElem hi]
    exact List.getElem_mem hi
  exact of_decide_eq_true (List.all_eq_true.1 h _ this)
theorem stake_snoc {l : List Seg} {i : Nat} (h : i < l.length) : l.take (i + 1) = l.take i ++ [l.getD i segTy.zero] := by
  rw [List.getD_eq_getElem?_getD, List.getElem?_eq_getElem h, List.take_add_one, List.getElem?_eq_getElem h]
  rfl
def alSt (L : LogS) (i : Nat) : St := ⟨[(3, .hw 2), (6, .hw 0), (7, .int .i64 (L.1.length + 1 : Nat)), (8, .int .i64 i)], [(0, .arr 10 segT L.1 [actR L.2.1 L.2.2.1 L.2.2.2.1]), (1, .log recT L.2.2.2.2), (2, .arr 10 segT ((segsL L).take i) [])], 3⟩
theorem segsL_len (L : LogS) : (segsL L).length = L.1.length + 1 := by simp [segsL]
theorem segsL_lt {L : LogS} {i : Nat} (h : i < L.1.length) : (segsL L).getD i segTy.zero = L.1.getD i segTy.zero := by
  unfold segsL
  rw [List.getD_eq_getElem?_getD, List.getElem?_append_left h, List.getD_eq_getElem?_getD]
theorem segsL_last (L : LogS) : (segsL L).getD L.1.length segTy.zero = actS L := by
  unfold segsL
  rw [List.getD_eq_getElem?_getD, List.getElem?_append_right (Nat.le_refl _)]
  simp
theorem all_rounds {R : Type} (M : LogS) (h1 : M.1.length ≤ 1000000000) (h2 : M.1.all smallS = true) (h3 : M.2.2.2.2.length ≤ 1000000000) (K : Ex → St → Option R) : ∀ (m i : Nat), i + m = M.1.length + 1 → rounds (env consC2) H.segs_all 2 (LPof []) V.segs_all_3 L.segs_all_3 (m + 1) (alSt M i) K = K (.exit 0) (alSt M (M.1.length + 1))
  | 0, i, h => by
    obtain rfl : i = M.1.length + 1 := by omega
    rw [rounds_succ']
    refine (all_rd _ _ _ _ _ _ _ _ _).trans ?_
    rw [cond_neg (by omega)]
    rfl
  | m + 1, i, h => by
    have ih := all_rounds M h1 h2 h3 K m (i + 1) (by omega)
    have e1 := stake_snoc (l := segsL M) (i := i) (by rw [segsL_len]; omega)
    have e3 : IntKind.i64.wrap ((i : Int) + 1) = ((i + 1 : Nat) : Int) := by rw [wrap64 (by omega) (by omega)]; omega
    have e4 : ((segsL M).take i ++ [(segsL M).getD i segTy.zero]).length = i + 1 := by rw [← e1, List.length_take, segsL_len]; omega
    rw [rounds_succ']
    refine (all_rd _ _ _ _ _ _ _ _ _).trans ?_
    rw [cond_pos (by omega), cond_pos2 (by omega) (by omega), Int.toNat_natCast, e3]
    unfold alSt at ih
    rw [e1] at ih
    by_cases hi : i < M.1.length
    · rw [segsL_lt hi] at ih e4
      have h5 := small_at h2 hi
      rw [cond_pos hi, cond_pos h5, cond_pos (by omega)]
      exact ih
    · obtain rfl : i = M.1.length := by omega
      rw [segsL_last] at ih e4
      rw [cond_neg hi, cond_pos (by omega), cond_pos h3]
      have e5 : ((segsL M).take M.1.length ++ [(M.2.1, M.2.2.1, (0 : Int), (0 : Int), M.2.2.2.2, false, false, false, M.2.2.2.1, (0 : Int))]).length = M.1.length + 1 := e4
      rw [cond_pos (by rw [e5]; omega)]
      exact ih
abbrev actRP : List Pat := [.int .i64, .int .i64, .lit (.int .i64 0), .lit (.int .i64 0), .lit (.hw 1), .lit (.bool false), .lit (.bool false), .lit (.bool false), .int .i64, .lit (.int .u32 0)]
abbrev rowP : List OPat := [.arr 10 segT [actRP], .log recT]
abbrev alLC : LoopC := LoopC.of ⟨[(3, .lit (.hw 2)), (6, .lit (.hw 0)), (7, .int .i64), (8, .int .i64)], [.arr 10 segT [actRP], .log recT, .arr 10 segT []]⟩
  (fun ⟨⟨_, _, m, i, _⟩, ⟨⟨f, ⟨b, n, _, _, _, _, _, _, z, _, _⟩, _⟩, rs, ⟨o, _⟩, _⟩⟩ => decide (i = (0 : Int)) && decide (m = ((List.length f + 1 : Nat) : Int)) && List.isEmpty o && smallL f && decide (List.length rs ≤ 1000000000))
  fun ⟨⟨_, _, m, i, _⟩, ⟨⟨f, ⟨b, n, _, _, _, _, _, _, z, _, _⟩, _⟩, rs, ⟨o, _⟩, _⟩⟩ => [(true, .exit 0, alSt (f, b, n, z, rs) (List.length f + 1))]
theorem al_lok : LoopOK P0 H.segs_all 2 L.segs_all_3 alLC :=
  loop_ok_of (env_ok consC2_ok) glob0 mixed0 noLoops V.segs_all_3 (by decide) fun ⟨⟨_, _, m, i, _⟩, ⟨⟨f, ⟨b, n, _, _, _, _, _, _, z, _, _⟩, _⟩, rs, ⟨o, _⟩, _⟩⟩ h hw => by
    simp only [Bool.and_eq_true, decide_eq_true_eq, smallL] at h
    obtain ⟨⟨⟨⟨rfl, rfl⟩, h3⟩, h4, h5⟩, h6⟩ := h
    obtain rfl : o = [] := List.isEmpty_iff.1 h3
    exact ⟨_, all_rounds (f, b, n, z, rs) h4 h5 h6 _ (List.length f + 1) 0 (Nat.zero_add _)⟩
theorem all_ev (f : List Seg) (b n z : Int) (rs : List Rec) : evFn (env consC2) H.segs_all (LPof [(3, alLC)]) F.segs_all [.hw 0] [.arr 10 segT f [actR b n z], .log recT rs] (finV (.vl segT) rowP 2) = bif decide ((↑(f.length + 1) : Int) = (↑(f.length + 1) : Int)) && true && smallL f && decide (rs.length ≤ 1000000000) && true then some (List.take (f.length + 1) (segsL (f, b, n, z, rs)), (f, (b, n, (), (), (), (), (), (), z, (), ()), ()), rs, ()) else none := by kernel_rfl

end Go.Sim
namespace Go.Sim
set_option linter.unusedSimpArgs false
set_option linter.unusedVariables false
set_option maxRecDepth 10000
def caseAll : VCase := ⟨[.lit (.hw 0)], rowP, .vl segT, rowP, fun _ ⟨⟨f, ⟨b, n, _, _, _, _, _, _, z, _, _⟩, _⟩, rs, _⟩ => [(smallL f && decide (List.length rs ≤ 1000000000), (segsL (f, b, n, z, rs), (f, (b, n, (), (), (), (), (), (), z, (), ()), ()), rs, ()))]⟩
theorem all_ok : caseAll.e.ok P0 I.segs_all := vcase_ok (c := caseAll) (H := H.segs_all) (E := env consC2) (env_ok consC2_ok) glob0 mixed0 G.segs_all Bd.segs_all (by kernel_rfl) (loops_good (tab := [(3, alLC)]) (by kernel_rfl) (fun x hx => by simp at hx; subst hx; exact al_lok)) fun _ ⟨⟨f, ⟨b, n, _, _, _, _, _, _, z, _, _⟩, _⟩, rs, _⟩ r h hw1 hw2 => by
  obtain ⟨hc, rfl⟩ := pick_pre h
  simp only [Bool.and_eq_true] at hc
  refine (all_ev f b n z rs).trans ?_
  have e : List.take (List.length f + 1) (segsL (f, b, n, z, rs)) = segsL (f, b, n, z, rs) := List.take_of_length_le (by rw [segsL_len]; exact Nat.le_refl _)
  rw [hc.1, hc.2, e]
  simp only [decide_true, Bool.and_self, cond_true]
  rfl
noncomputable abbrev consD1 : List (FuncId × Con) := [(I.segs_all, .eff (effOf [caseAll.e]))]
theorem consD1_ok : ∀ x ∈ consD1, HoldsC P0 x.1 x.2 := by
  intro x hx
  simp at hx
  subst hx
  exact ⟨fun args objs r objs2 h _ => effOf_holds (by simp; exact all_ok) args objs r objs2 h, C.segs_all⟩
theorem segments_ev (f : List Seg) (b n z : Int) (rs : List Rec) : evFn (env consD1) H.segs_Log_Segments (LPof []) F.segs_Log_Segments [.ptr 0 (.tl 0) 0] [.arr 1 .bool [] [[.hw 1]], .arr 10 segT f [actC b n z], .log recT rs] (finV (.vl segT) logP 3) = bif smallL f && decide (rs.length ≤ 1000000000) then some (segsL (f, b, n, z, rs), (((), ()), ()), (f, (b, n, (), (), (), (), (), (), z, (), ()), ()), rs, ()) else none := by kernel_rfl

def caseSegments : VCase := ⟨[.lit (.ptr 0 (.tl 0) 0)], logP, .vl segT, logP, fun _ ⟨_, ⟨f, ⟨b, n, _, _, _, _, _, _, z, _, _⟩, _⟩, rs, _⟩ => [(smallL f && decide (List.length rs ≤ 1000000000), (segsL (f, b, n, z, rs), ((((), ()), ()), (f, (b, n, (), (), (), (), (), (), z, (), ()), ()), rs, ())))]⟩
theorem segments_ok : caseSegments.e.ok P0 I.segs_Log_Segments := vcase_ok (c := caseSegments) (H := H.segs_Log_Segments) (E := env consD1) (env_ok consD1_ok) glob0 mixed0 G.segs_Log_Segments Bd.segs_Log_Segments (by kernel_rfl) noLoops fun _ ⟨_, ⟨f, ⟨b, n, _, _, _, _, _, _, z, _, _⟩, _⟩, rs, _⟩ r h hw1 hw2 => by
  obtain ⟨hc, rfl⟩ := pick_pre h
  refine (segments_ev f b n z rs).trans ?_
  have hc : (smallL f && decide (List.length rs ≤ 1000000000)) = true := hc
  rw [hc]
  rfl
noncomputable abbrev consD2 : List (FuncId × Con) := [(I.segs_Log_Segments, .eff (effOf [caseSegments.e])), (I.segs_Log_Append, .eff (effOf [caseAppend.e]))] ++ consS2
theorem consD2_ok : ∀ x ∈ consD2, HoldsC P0 x.1 x.2 := by
  intro x hx
  rcases List.mem_append.1 hx with hx | hx
  · simp at hx
    rcases hx with rfl | rfl
    · exact ⟨fun args objs r objs2 h _ => effOf_holds (by simp; exact segments_ok) args objs r objs2 h, C.segs_Log_Segments⟩
    · exact ⟨fun args objs r objs2 h _ => effOf_holds (by simp; exact append_ok) args objs r objs2 h, C.segs_Log_Append⟩
  · exact consS2_ok x hx
def H.al15 : Hint := { H.cooperagelaw15_alive with join := [] }
theorem alive15_ev : evFn (env consD2) H.al15 (LPof []) F.cooperagelaw15_alive [] [] (finT [.bool]) = some (true, ()) := by kernel_rfl

def caseAlive15 : PCase := ⟨[], [.bool], fun _ => [(true, (true, ()))]⟩
theorem alive15_ok : caseAlive15.ok P0 I.cooperagelaw15_alive := case_ok2 (H := H.al15) (E := env consD2) (env_ok consD2_ok) glob0 mixed0 G.cooperagelaw15_alive Bd.cooperagelaw15_alive (by kernel_rfl) noLoops fun x y h hw => by
  obtain ⟨hc, rfl⟩ := pick_pre h
  exact alive15_ev
noncomputable abbrev consD3 : List (FuncId × Con) := [(I.cooperagelaw15_alive, .pure (pureOf [caseAlive15]))] ++ consD2
theorem consD3_ok : ∀ x ∈ consD3, HoldsC P0 x.1 x.2 := by
  intro x hx
  rcases List.mem_append.1 hx with hx | hx
  · simp at hx
    subst hx
    exact ⟨pureOf_holds (by simp; exact alive15_ok), C.cooperagelaw15_alive⟩
  · exact consD2_ok x hx
def recK (j : Int) : Rec := (j, j, [107], [], false)
def recsK (b : Int) (c : Nat) : List Rec := (List.range c).map fun j => recK (b + (j : Nat))
def goodF (most : Int) (g : Seg) : Bool := g.2.2.2.2.2.1 && decide (IntKind.i64.wrap (g.2.1 - g.1) ≤ most) && decide (g.2.2.1 = IntKind.i64.wrap (g.2.1 - 1))
structure InvK (most : Int) (i : Nat) (L : LogS) : Prop where
  next : L.2.2.1 = (i : Int)
  base : 0 ≤ L.2.1 ∧ L.2.1 ≤ (i : Int) ∧ (i : Int) - L.2.1 < most
  recs : L.2.2.2.2 = recsK L.2.1 ((i : Int) - L.2.1).toNat
  good : L.1.all (goodF most) = true
  low : lowP L = 0
  ok : okB (4 * i) L = true
/-- What is left of a step before it is known whether the log is sealed. -/
structure MidK (most : Int) (i : Nat) (L : LogS) : Prop where
  next : L.2.2.1 = (i : Int)
  base : 0 ≤ L.2.1 ∧ L.2.1 ≤ (i : Int) ∧ (i : Int) - L.2.1 ≤ most
  recs : L.2.2.2.2 = recsK L.2.1 ((i : Int) - L.2.1).toNat
  good : L.1.all (goodF most) = true
  low : lowP L = 0
theorem InvK.mid {most : Int} {i : Nat} {L : LogS} (h : InvK most i L) : MidK most i L := ⟨h.next, ⟨h.base.1, h.base.2.1, by have := h.base.2.2; omega⟩, h.recs, h.good, h.low⟩
end Go.Sim
namespace Go.Sim
set_option linter.unusedSimpArgs false
set_option linter.unusedVariables false
set_option maxRecDepth 10000
theorem rsame_rd {R : Type} (a b : List Rec) (f : Bool) (i : Int) (K : Ex → St → Option R) : roundK (env []) H.cooperageref1_SameRecords 0 (LPof []) V.cooperageref1_SameRecords_4 L.cooperageref1_SameRecords_4 ⟨[(0, .vl recT a), (1, .vl recT b), (4, .bool f), (5, .int .i64 i)], [], 0⟩ K = bif decide (i < (↑a.length : Int)) then bif decide ((0 : Int) ≤ i) && decide (i < (↑a.length : Int)) then bif decide ((0 : Int) ≤ i) && decide (i < (↑b.length : Int)) then bif !((a.getD i.toNat recTy.zero).fst == (b.getD i.toNat recTy.zero).fst && ((a.getD i.toNat recTy.zero).snd.fst == (b.getD i.toNat recTy.zero).snd.fst && ((a.getD i.toNat recTy.zero).snd.snd.fst == (b.getD i.toNat recTy.zero).snd.snd.fst && ((a.getD i.toNat recTy.zero).snd.snd.snd.fst == (b.getD i.toNat recTy.zero).snd.snd.snd.fst && ((a.getD i.toNat recTy.zero).snd.snd.snd.snd == (b.getD i.toNat recTy.zero).snd.snd.snd.snd && true))))) then K Ex.ret { slots := [(0, AV.vl recTy a), (1, AV.vl recTy b), (4, AV.bool false), (5, AV.int IntKind.i64 i)], objs := [], nx := 0 } else K Ex.normal { slots := [(0, AV.vl recTy a), (1, AV.vl recTy b), (4, AV.bool f), (5, AV.int IntKind.i64 (IntKind.i64.wrap (i + (1 : Int))))], objs := [], nx := 0 } else none else none else K (Ex.exit 0) { slots := [(0, AV.vl recTy a), (1, AV.vl recTy b), (4, AV.bool f), (5, AV.int IntKind.i64 i)], objs := [], nx := 0 } := by kernel_rfl

theorem big8_rd {R : Type} (l : List Rec) (f : Bool) (i : Int) (K : Ex → St → Option R) : roundK (env []) H.cooperagelaw8_Big 0 (LPof []) V.cooperagelaw8_Big_2 L.cooperagelaw8_Big_2 ⟨[(0, .vl recT l), (2, .bool f), (3, .int .i64 i)], [], 0⟩ K = bif decide (i < (↑l.length : Int)) then Option.bind (bif decide ((0 : Int) ≤ i) && decide (i < (↑l.length : Int)) then bif decide ((↑(List.length (l.getD i.toNat recTy.zero).snd.snd.fst) : Int) > (250 : Int)) then some true else bif decide ((0 : Int) ≤ i) && decide (i < (↑l.length : Int)) then some (decide ((↑(List.length (l.getD i.toNat recTy.zero).snd.snd.snd.fst) : Int) > (300 : Int))) else none else none) fun v => bif v then K Ex.ret { slots := [(0, AV.vl recTy l), (2, AV.bool true), (3, AV.int IntKind.i64 i)], objs := [], nx := 0 } else K Ex.normal { slots := [(0, AV.vl recTy l), (2, AV.bool f), (3, AV.int IntKind.i64 (IntKind.i64.wrap (i + (1 : Int))))], objs := [], nx := 0 } else K (Ex.exit 0) { slots := [(0, AV.vl recTy l), (2, AV.bool f), (3, AV.int IntKind.i64 i)], objs := [], nx := 0 } := by kernel_rfl

def sameSt (a b : List Rec) (f : Bool) (i : Nat) : St := ⟨[(0, .vl recT a), (1, .vl recT b), (4, .bool f), (5, .int .i64 i)], [], 0⟩
def difB (a b : List Rec) (i : Nat) : Bool := !(recEqB (a.getD i recTy.zero) (b.getD i recTy.zero))
abbrev sameLC : LoopC := LoopC.of ⟨[(0, .vl recT), (1, .vl recT), (4, .bool), (5, .int .i64)], []⟩ (fun x => decide (List.length x.1.2.1 = List.length x.1.1) && decide (x.1.2.2.2.1 = (0 : Int)))
    fun x => [((firstFrom (difB x.1.1 x.1.2.1) 0 (List.length x.1.1)).isSome, .ret, sameSt x.1.1 x.1.2.1 false ((firstFrom (difB x.1.1 x.1.2.1) 0 (List.length x.1.1)).getD 0)), (true, .exit 0, sameSt x.1.1 x.1.2.1 x.1.2.2.1 (List.length x.1.1))]
theorem same_lok : LoopOK P0 H.cooperageref1_SameRecords 0 L.cooperageref1_SameRecords_4 sameLC :=
  loop_ok_of (env_ok env_nil) glob0 mixed0 noLoops V.cooperageref1_SameRecords_4 (by decide) fun ⟨⟨a, b, f, i, _⟩, _⟩ h hw => by
    simp only [Bool.and_eq_true, decide_eq_true_eq] at h
    obtain ⟨h1, h2⟩ := h
    subst h2
    have hm : List.length a ≤ maxL := hw.1.1.1
    unfold maxL at hm
    refine ⟨_, Eq.trans (search_rounds (S := sameSt a b f) (T := sameSt a b false) (p := difB a b) (n := List.length a) (e1 := .ret) (e2 := .exit 0) (s2 := sameSt a b f (List.length a)) (by simp) (by simp) (fun i hi K => ?_) (fun K => ?_) _ (List.length a) 0 (by omega)) search_pick⟩
    · unfold sameSt
      rw [rsame_rd, cond_pos (by omega), cond_pos2 (by omega) (by omega), cond_pos2 (by omega) (by omega), Int.toNat_natCast, wrap64 (by omega) (by omega)]
      rfl
    · unfold sameSt
      rw [rsame_rd, cond_neg (by omega)]
theorem rsame_ev (a b : List Rec) : evFn (env []) H.cooperageref1_SameRecords (LPof [(4, sameLC)]) F.cooperageref1_SameRecords [.vl recT a, .vl recT b] [] (finT [.bool]) = bif (↑a.length : Int) != (↑b.length : Int) then some (false, ()) else bif decide (b.length = a.length) && true && (firstFrom (difB a b) 0 a.length).isSome then some (false, ()) else bif decide (b.length = a.length) && true && true then some (true, ()) else none := by kernel_rfl

def caseSameR : PCase := ⟨[.ty (.sl recT), .ty (.sl recT)], [.bool], fun x => (fun (a b : List Rec) => [(true, (decide (a = b), ()))]) x.1 x.2.1⟩
theorem rsame_val (a b : List Rec) : evFn (env []) H.cooperageref1_SameRecords (LPof [(4, sameLC)]) F.cooperageref1_SameRecords [.vl recT a, .vl recT b] [] (finT [.bool]) = some (decide (a = b), ()) := by
  rw [rsame_ev]
  by_cases h : b.length = a.length
  · have h1 : ((a.length : Int) != (b.length : Int)) = false := by simp; omega
    have := firstFrom_eq recEqB_eq recTy.zero h
    unfold difB
    rw [h1, this, decide_eq_true h]
    cases decide (a = b) <;> rfl
  · have h1 : ((a.length : Int) != (b.length : Int)) = true := by simp; omega
    have h2 : a ≠ b := fun e => h (by rw [e])
    rw [h1, decide_eq_false h2]; rfl
theorem rsame_ok : caseSameR.ok P0 I.cooperageref1_SameRecords := case_ok2 (H := H.cooperageref1_SameRecords) (E := env []) (env_ok env_nil) glob0 mixed0 G.cooperageref1_SameRecords Bd.cooperageref1_SameRecords (by kernel_rfl) (loops_good (tab := [(4, sameLC)]) (by kernel_rfl) (fun x hx => by simp at hx; subst hx; exact same_lok)) fun ⟨a, b, ()⟩ y h hw => by
  obtain ⟨hc, rfl⟩ := pick_pre h
  exact rsame_val a b
abbrev segP : List Pat := [.int .i64, .int .i64, .int .i64, .int .i64, .vl recT, .bool, .bool, .bool, .int .i64, .int .u32]
end Go.Sim
namespace Go.Sim
set_option linter.unusedSimpArgs false
set_option linter.unusedVariables false
set_option maxRecDepth 10000
instance segDec0 : DecidableEq (Bool × Bool × Bool × Int × Int) := inferInstance
instance segDec1 : DecidableEq (List Rec × Bool × Bool × Bool × Int × Int) := @instDecidableEqProd _ _ recsDec segDec0
instance segDec2 : DecidableEq (Int × Int × List Rec × Bool × Bool × Bool × Int × Int) := @instDecidableEqProd _ _ _ (@instDecidableEqProd _ _ _ segDec1)
instance segDec : DecidableEq Seg := @instDecidableEqProd _ _ _ (@instDecidableEqProd _ _ _ segDec2)
instance segsDec : DecidableEq (List Seg) := @instDecidableEqList Seg segDec
end Go.Sim
namespace Go.Sim
set_option linter.unusedSimpArgs false
set_option linter.unusedVariables false
set_option maxRecDepth 10000
end Go.Sim
namespace Go.Sim
set_option linter.unusedSimpArgs false
set_option linter.unusedVariables false
set_option maxRecDepth 10000
def longQ (l : List Rec) (i : Nat) : Bool := decide (((List.length (l.getD i recTy.zero).2.2.1 : Nat) : Int) > 250) || decide (((List.length (l.getD i recTy.zero).2.2.2.1 : Nat) : Int) > 300)
def b8St (l : List Rec) (f : Bool) (i : Nat) : St := ⟨[(0, .vl recT l), (2, .bool f), (3, .int .i64 i)], [], 0⟩
abbrev b8LC : LoopC := LoopC.of ⟨[(0, .vl recT), (2, .bool), (3, .int .i64)], []⟩ (fun x => decide (x.1.2.2.1 = (0 : Int)))
    fun x => [((firstFrom (longQ x.1.1) 0 (List.length x.1.1)).isSome, .ret, b8St x.1.1 true ((firstFrom (longQ x.1.1) 0 (List.length x.1.1)).getD 0)), (true, .exit 0, b8St x.1.1 x.1.2.1 (List.length x.1.1))]
theorem b8_lok : LoopOK P0 H.cooperagelaw8_Big 0 L.cooperagelaw8_Big_2 b8LC :=
  loop_ok_of (env_ok env_nil) glob0 mixed0 noLoops V.cooperagelaw8_Big_2 (by decide) fun ⟨⟨l, f, i, _⟩, _⟩ h hw => by
    obtain rfl := of_decide_eq_true h
    have hm : List.length l ≤ maxL := hw.1.1.1
    unfold maxL at hm
    refine ⟨_, Eq.trans (search_rounds (S := b8St l f) (T := b8St l true) (p := longQ l) (n := List.length l) (e1 := .ret) (e2 := .exit 0) (s2 := b8St l f (List.length l)) (by simp) (by simp) (fun i hi K => ?_) (fun K => ?_) _ (List.length l) 0 (by omega)) search_pick⟩
    · refine (big8_rd l f i K).trans ?_
      rw [cond_pos (by omega), cond_pos2 (by omega) (by omega), cond_pos2 (by omega) (by omega), Int.toNat_natCast, or_bif, wrap64 (by omega) (by omega)]
      rfl
    · refine (big8_rd l f (List.length l : Nat) K).trans ?_
      rw [cond_neg (by omega)]
      rfl
theorem big8_ev (l : List Rec) : evFn (env []) H.cooperagelaw8_Big (LPof [(2, b8LC)]) F.cooperagelaw8_Big [.vl recT l] [] (finT [.bool]) = bif (firstFrom (longQ l) 0 l.length).isSome then some (true, ()) else some (decide ((↑l.length : Int) > (60 : Int)), ()) := by kernel_rfl

def big8B (l : List Rec) : Bool := (firstFrom (longQ l) 0 (List.length l)).isSome || decide ((List.length l : Int) > 60)
def caseBig8 : PCase := ⟨[.ty (.sl recT)], [.bool], fun x => (fun (l : List Rec) => [(true, (big8B l, ()))]) x.1⟩
theorem big8_val (l : List Rec) : evFn (env []) H.cooperagelaw8_Big (LPof [(2, b8LC)]) F.cooperagelaw8_Big [.vl recT l] [] (finT [.bool]) = some (big8B l, ()) := by
  rw [big8_ev]
  unfold big8B
  cases firstFrom (longQ l) 0 (List.length l) <;> simp
theorem big8_ok : caseBig8.ok P0 I.cooperagelaw8_Big := case_ok2 (H := H.cooperagelaw8_Big) (E := env []) (env_ok env_nil) glob0 mixed0 G.cooperagelaw8_Big Bd.cooperagelaw8_Big (by kernel_rfl) (loops_good (tab := [(2, b8LC)]) (by kernel_rfl) (fun x hx => by simp at hx; subst hx; exact b8_lok)) fun ⟨l, ()⟩ y h hw => by
  obtain ⟨hc, rfl⟩ := pick_pre h
  exact big8_val l
end Go.Sim
namespace Go.Sim
/-- Does one of them below the point have this key? -/
def metIn (point : Int) (rest : List Rec) (k : List UInt8) : Bool := rest.any fun q => decide (q.1 < point) && (k == q.2.2.1)
def dOld (now grace : Int) (dead : Bool) (r : Rec) : Bool := r.2.2.2.2 && dead && decide (now - r.2.1 > grace)
def staysR (point now grace : Int) (dead : Bool) (r : Rec) (rest : List Rec) : Bool := decide (r.1 ≥ point) || (!metIn point rest r.2.2.1 && !dOld now grace dead r)
def keepL (point now grace : Int) (dead : Bool) : List Rec → List Rec
  | [] => []
  | r :: rest => cond (staysR point now grace dead r rest) (r :: keepL point now grace dead rest) (keepL point now grace dead rest)
theorem keepL_length (point now grace : Int) (dead : Bool) : ∀ l, (keepL point now grace dead l).length ≤ l.length
  | [] => Nat.le_refl _
  | r :: rest => by
    have := keepL_length point now grace dead rest
    simp only [keepL]
    cases staysR point now grace dead r rest <;> simp <;> omega
abbrev Met := List (List UInt8 × Bool)
def putM (k : List UInt8) (v : Bool) (m : Met) : Met := mset (kt := .str) (vt := .bool) k v m
def getM (k : List UInt8) (m : Met) : Bool := (mget (kt := .str) (vt := .bool) k m).getD false
theorem keyEq_str (a b : List UInt8) : keyEq .str a b = (a == b) := rfl
theorem getM_put (k k' : List UInt8) (v : Bool) : ∀ m : Met, getM k (putM k' v m) = cond (k == k') v (getM k m)
  | [] => by
    unfold getM putM
    simp only [mset, mget, keyEq_str]
    cases k == k' <;> rfl
  | e :: es => by
    have ih := getM_put k k' v es
    unfold getM putM at ih ⊢
    simp only [mset, mget, keyEq_str]
    cases h : k' == e.1
    · simp only [cond_false, mget, keyEq_str]
      cases h2 : k == e.1
      · simp only [cond_false]; exact ih
      · simp only [cond_true]
        have h3 : (k == k') = false := by
          simp only [beq_eq_false_iff_ne, beq_iff_eq] at h h2 ⊢
          intro e'; exact h (by rw [← e', h2])
        rw [h3]; rfl
    · simp only [cond_true, mget, keyEq_str]
      simp only [beq_iff_eq] at h
      rw [h]
      cases k == e.1 <;> rfl
theorem putM_length (k : List UInt8) (v : Bool) : ∀ m : Met, (putM k v m).length ≤ m.length + 1
  | [] => by simp [putM, mset]
  | e :: es => by
    have := putM_length k v es
    unfold putM at this ⊢
    simp only [mset]
    cases keyEq .str k e.1 <;> simp <;> omega
/-- The keys that were met, the last record first. -/
def metL (point : Int) : List Rec → Met
  | [] => []
  | r :: rest => cond (decide (r.1 ≥ point)) (metL point rest) (putM r.2.2.1 true (metL point rest))
theorem metL_get (point : Int) (k : List UInt8) : ∀ l, getM k (metL point l) = metIn point l k
  | [] => rfl
  | r :: rest => by
    have ih := metL_get point k rest
    simp only [metL, metIn, List.any_cons]
    by_cases h : r.1 ≥ point
    · have h2 : ¬ r.1 < point := by omega
      simp only [h, h2, decide_true, decide_false, cond_true, Bool.false_and, Bool.false_or]
      exact ih
    · have h2 : r.1 < point := by omega
      simp only [h, h2, decide_true, decide_false, cond_false, Bool.true_and]
      rw [getM_put, ih]
      cases k == r.2.2.1 <;> rfl
theorem metL_length (point : Int) : ∀ l, (metL point l).length ≤ l.length
  | [] => Nat.le_refl _
  | r :: rest => by
    have := metL_length point rest
    have h2 := putM_length r.2.2.1 true (metL point rest)
    simp only [metL]
    cases decide (r.1 ≥ point) <;> simp <;> omega
/-! ### Again -/
/-! ### Records that are alike -/
end Go.Sim
namespace Go.Sim
set_option linter.unusedSimpArgs false
set_option linter.unusedVariables false
theorem sl_irrefl : ∀ a : List UInt8, strLess a a = false
  | [] => rfl
  | a :: x => by simp [strLess, sl_irrefl x]
theorem sl_trans : ∀ {a b c : List UInt8}, strLess a b = true → strLess b c = true → strLess a c = true
  | [], [], _, h, _ => by simp [strLess] at h
  | [], _ :: _, [], _, h => by simp [strLess] at h
  | [], _ :: _, _ :: _, _, _ => by simp [strLess]
  | _ :: _, [], _, h, _ => by simp [strLess] at h
  | _ :: _, _ :: _, [], _, h => by simp [strLess] at h
  | a :: x, b :: y, c :: z, h, g => by
    simp only [strLess, Bool.or_eq_true, decide_eq_true_eq, Bool.and_eq_true, beq_iff_eq] at h g ⊢
    rcases h with h | ⟨rfl, h⟩ <;> rcases g with g | ⟨rfl, g⟩
    · exact .inl (UInt8.lt_trans h g)
    · exact .inl h
    · exact .inl g
    · exact .inr ⟨rfl, sl_trans h g⟩
theorem sl_tri : ∀ {a b : List UInt8}, strLess a b = false → strLess b a = false → a = b
  | [], [], _, _ => rfl
  | [], _ :: _, h, _ => by simp [strLess] at h
  | _ :: _, [], _, h => by simp [strLess] at h
  | a :: x, b :: y, h, g => by
    simp only [strLess, Bool.or_eq_false_iff, decide_eq_false_iff_not, Bool.and_eq_false_iff, beq_eq_false_iff_ne] at h g
    have e : a = b := UInt8.le_antisymm (UInt8.not_lt.1 g.1) (UInt8.not_lt.1 h.1)
    subst e
    rw [sl_tri (a := x) (b := y) (h.2.resolve_left fun k => k rfl) (g.2.resolve_left fun k => k rfl)]
theorem sl_ne {a b : List UInt8} (h : strLess a b = true) : a ≠ b := fun e => by subst e; rw [sl_irrefl] at h; cases h
end Go.Sim
namespace Go.Sim
set_option linter.unusedSimpArgs false
set_option linter.unusedVariables false
def keyR (r : Rec) : List UInt8 := r.2.2.1
def deadR (r : Rec) : Bool := r.2.2.2.2
def aliveM (r : Rec) : List Rec := bif deadR r then [] else [r]
/-- One record more. -/
def insM (r : Rec) : List Rec → List Rec
  | [] => aliveM r
  | x :: xs => bif strLess (keyR x) (keyR r) then x :: insM r xs else bif keyR x == keyR r then aliveM r ++ xs else aliveM r ++ x :: xs
def mapM (l : List Rec) : List Rec := l.foldl (fun m r => insM r m) []
def findK (k : List UInt8) (m : List Rec) : Option Rec := m.find? fun r => keyR r == k
def sortM : List Rec → Prop
  | [] => True
  | x :: xs => (∀ y ∈ xs, strLess (keyR x) (keyR y) = true) ∧ sortM xs
theorem aliveM_mem {r y : Rec} (h : y ∈ aliveM r) : y = r := by
  unfold aliveM at h
  cases hd : deadR r <;> rw [hd] at h <;> simp at h
  exact h
theorem insM_mem {r y : Rec} : ∀ {m : List Rec}, y ∈ insM r m → y = r ∨ y ∈ m
  | [], h => .inl (aliveM_mem h)
  | x :: xs, h => by
    unfold insM at h
    cases h1 : strLess (keyR x) (keyR r) with
    | true =>
      rw [h1, cond_true] at h
      rcases List.mem_cons.1 h with h | h
      · exact .inr (h ▸ List.mem_cons_self)
      · rcases insM_mem h with h | h
        · exact .inl h
        · exact .inr (List.mem_cons_of_mem _ h)
    | false =>
      rw [h1, cond_false] at h
      cases h2 : keyR x == keyR r with
      | true =>
        rw [h2, cond_true] at h
        rcases List.mem_append.1 h with h | h
        · exact .inl (aliveM_mem h)
        · exact .inr (List.mem_cons_of_mem _ h)
      | false =>
        rw [h2, cond_false] at h
        rcases List.mem_append.1 h with h | h
        · exact .inl (aliveM_mem h)
        · exact .inr h
theorem sortM_alive {r : Rec} {xs : List Rec} (h : sortM xs) (h2 : ∀ y ∈ xs, strLess (keyR r) (keyR y) = true) : sortM (aliveM r ++ xs) := by
  unfold aliveM
  cases deadR r with
  | true => exact h
  | false => exact ⟨h2, h⟩
theorem insM_sort (r : Rec) : ∀ {m : List Rec}, sortM m → sortM (insM r m)
  | [], _ => by
    have := sortM_alive (r := r) (xs := []) trivial (fun y hy => by cases hy)
    rw [List.append_nil] at this
    exact this
  | x :: xs, h => by
    unfold insM
    cases h1 : strLess (keyR x) (keyR r) with
    | true =>
      rw [cond_true]
      refine ⟨fun y hy => ?_, insM_sort r h.2⟩
      rcases insM_mem hy with rfl | hy
      · exact h1
      · exact h.1 y hy
    | false =>
      rw [cond_false]
      cases h2 : keyR x == keyR r with
      | true =>
        rw [cond_true]
        refine sortM_alive h.2 fun y hy => ?_
        rw [← eq_of_beq h2]
        exact h.1 y hy
      | false =>
        rw [cond_false]
        have hlt : strLess (keyR r) (keyR x) = true := by
          cases h3 : strLess (keyR r) (keyR x) with
          | true => rfl
          | false => rw [sl_tri h1 h3] at h2; simp at h2
        refine sortM_alive h fun y hy => ?_
        rcases List.mem_cons.1 hy with rfl | hy
        · exact hlt
        · exact sl_trans hlt (h.1 y hy)
theorem findK_none {k : List UInt8} {m : List Rec} (h : ∀ y ∈ m, strLess k (keyR y) = true) : findK k m = none := by
  unfold findK
  rw [List.find?_eq_none]
  intro y hy he
  have := h y hy
  rw [eq_of_beq he, sl_irrefl] at this
  cases this
theorem findK_alive (k : List UInt8) (r : Rec) (xs : List Rec) : findK k (aliveM r ++ xs) = bif keyR r == k then (aliveM r).head?.or (findK k xs) else findK k xs := by
  unfold findK aliveM
  cases deadR r with
  | true => cases keyR r == k <;> rfl
  | false =>
    simp only [cond_false, List.cons_append, List.nil_append, List.find?_cons, List.head?_cons]
    cases keyR r == k <;> rfl
theorem insM_find (k : List UInt8) (r : Rec) : ∀ {m : List Rec}, sortM m → findK k (insM r m) = bif keyR r == k then (aliveM r).head? else findK k m
  | [], _ => by
    have := findK_alive k r []
    rw [List.append_nil] at this
    show findK k (aliveM r) = _
    rw [this]
    have e : findK k [] = none := rfl
    rw [e, Option.or_none]
  | x :: xs, h => by
    unfold insM
    have hx : findK k (x :: xs) = bif keyR x == k then some x else findK k xs := by
      unfold findK
      rw [List.find?_cons]
      cases keyR x == k <;> rfl
    cases h1 : strLess (keyR x) (keyR r) with
    | true =>
      rw [cond_true]
      have ih := insM_find k r h.2
      have hx2 : findK k (x :: insM r xs) = bif keyR x == k then some x else findK k (insM r xs) := by
        unfold findK
        rw [List.find?_cons]
        cases keyR x == k <;> rfl
      rw [hx2, hx, ih]
      cases ha : keyR x == k with
      | true =>
        cases hb : keyR r == k with
        | true =>
          have := sl_ne h1
          rw [eq_of_beq ha, eq_of_beq hb] at this
          exact absurd rfl this
        | false => rfl
      | false => rfl
    | false =>
      rw [cond_false]
      cases h2 : keyR x == keyR r with
      | true =>
        rw [cond_true, findK_alive, hx]
        have e := eq_of_beq h2
        cases ha : keyR r == k with
        | true =>
          have hn : findK k xs = none := findK_none fun y hy => by rw [← eq_of_beq ha, ← e]; exact h.1 y hy
          rw [hn, Option.or_none]
          rfl
        | false => rw [e, ha]; rfl
      | false =>
        rw [cond_false, findK_alive]
        cases ha : keyR r == k with
        | true =>
          have hlt : strLess (keyR r) (keyR x) = true := by
            cases h3 : strLess (keyR r) (keyR x) with
            | true => rfl
            | false => rw [sl_tri h1 h3] at h2; simp at h2
          have hn : findK k (x :: xs) = none := findK_none fun y hy => by
            rw [← eq_of_beq ha]
            rcases List.mem_cons.1 hy with rfl | hy
            · exact hlt
            · exact sl_trans hlt (h.1 y hy)
          rw [hn, Option.or_none]
        | false => rfl
theorem sortM_ext : ∀ {m m' : List Rec}, sortM m → sortM m' → (∀ k, findK k m = findK k m') → m = m'
  | [], [], _, _, _ => rfl
  | [], y :: ys, _, _, h => by
    have := h (keyR y)
    unfold findK at this
    rw [List.find?_cons] at this
    simp at this
  | x :: xs, [], _, _, h => by
    have := h (keyR x)
    unfold findK at this
    rw [List.find?_cons] at this
    simp at this
  | x :: xs, y :: ys, h1, h2, h => by
    have fx : ∀ (z : Rec) (zs : List Rec) k, findK k (z :: zs) = bif keyR z == k then some z else findK k zs := fun z zs k => by
      unfold findK
      rw [List.find?_cons]
      cases keyR z == k <;> rfl
    have hk : keyR x = keyR y := by
      cases ha : strLess (keyR x) (keyR y) with
      | true =>
        have h3 := h (keyR x)
        have hn : findK (keyR x) (y :: ys) = none := findK_none fun z hz => by
          rcases List.mem_cons.1 hz with rfl | hz
          · exact ha
          · exact sl_trans ha (h2.1 z hz)
        rw [hn, fx] at h3
        simp at h3
      | false =>
        cases hb : strLess (keyR y) (keyR x) with
        | true =>
          have h3 := h (keyR y)
          have hn : findK (keyR y) (x :: xs) = none := findK_none fun z hz => by
            rcases List.mem_cons.1 hz with rfl | hz
            · exact hb
            · exact sl_trans hb (h1.1 z hz)
          rw [hn, fx] at h3
          simp at h3
        | false => exact sl_tri ha hb
    have hxy : x = y := by
      have h3 := h (keyR x)
      rw [fx, fx, ← hk] at h3
      simpa using h3
    subst hxy
    have ht : xs = ys := sortM_ext h1.2 h2.2 fun k => by
      have h3 := h k
      rw [fx, fx] at h3
      cases hkx : keyR x == k with
      | true =>
        have e1 : findK k xs = none := findK_none fun z hz => by rw [← eq_of_beq hkx]; exact h1.1 z hz
        have e2 : findK k ys = none := findK_none fun z hz => by rw [← eq_of_beq hkx]; exact h2.1 z hz
        rw [e1, e2]
      | false => rw [hkx] at h3; exact h3
    rw [ht]
/-! the last record of a key -/
def hasK (k : List UInt8) (l : List Rec) : Bool := l.any fun r => keyR r == k
def lastA (k : List UInt8) : List Rec → Option Rec
  | [] => none
  | r :: l => bif hasK k l then lastA k l else bif keyR r == k then (aliveM r).head? else none
theorem hasK_cons (k : List UInt8) (r : Rec) (l : List Rec) : hasK k (r :: l) = (keyR r == k || hasK k l) := rfl
theorem lastA_cons (k : List UInt8) (r : Rec) (l : List Rec) : lastA k (r :: l) = bif hasK k l then lastA k l else bif keyR r == k then (aliveM r).head? else none := rfl
theorem lastA_none {k : List UInt8} : ∀ {l : List Rec}, hasK k l = false → lastA k l = none
  | [], _ => rfl
  | r :: l, h => by
    rw [hasK_cons, Bool.or_eq_false_iff] at h
    rw [lastA_cons, h.2, h.1]
    rfl
theorem fold_find (k : List UInt8) : ∀ (l m : List Rec), sortM m → sortM (l.foldl (fun m r => insM r m) m) ∧ findK k (l.foldl (fun m r => insM r m) m) = bif hasK k l then lastA k l else findK k m
  | [], m, h => ⟨h, rfl⟩
  | r :: l, m, h => by
    obtain ⟨h1, h2⟩ := fold_find k l (insM r m) (insM_sort r h)
    refine ⟨h1, ?_⟩
    show findK k (l.foldl (fun m r => insM r m) (insM r m)) = _
    rw [h2, insM_find k r h, hasK_cons, lastA_cons]
    cases hasK k l <;> cases keyR r == k <;> rfl
theorem mapM_find (k : List UInt8) (l : List Rec) : findK k (mapM l) = lastA k l := by
  have := (fold_find k l [] trivial).2
  unfold mapM
  rw [this]
  cases h : hasK k l with
  | true => rfl
  | false => rw [lastA_none h]; rfl
theorem mapM_sort (l : List Rec) : sortM (mapM l) := (fold_find [] l [] trivial).1
theorem mapM_eq {l l' : List Rec} (h : ∀ k, lastA k l = lastA k l') : mapM l = mapM l' := sortM_ext (mapM_sort l) (mapM_sort l') fun k => by rw [mapM_find, mapM_find, h]
/-! what Keep leaves -/
def sortO : List Rec → Prop
  | [] => True
  | r :: l => (∀ q ∈ l, r.1 < q.1) ∧ sortO l
theorem keepL_mem {pt nw gr : Int} {d : Bool} {q : Rec} : ∀ {l : List Rec}, q ∈ keepL pt nw gr d l → q ∈ l
  | r :: l, h => by
    simp only [keepL] at h
    cases hs : staysR pt nw gr d r l with
    | true =>
      rw [hs, cond_true] at h
      rcases List.mem_cons.1 h with h | h
      · exact h ▸ List.mem_cons_self
      · exact List.mem_cons_of_mem _ (keepL_mem h)
    | false => rw [hs, cond_false] at h; exact List.mem_cons_of_mem _ (keepL_mem h)
theorem hasK_mem {k : List UInt8} {l : List Rec} : hasK k l = true ↔ ∃ q ∈ l, keyR q = k := by
  unfold hasK
  rw [List.any_eq_true]
  simp only [beq_iff_eq]
theorem keepL_hasK {pt nw gr : Int} {d : Bool} {k : List UInt8} {l : List Rec} (h : hasK k l = false) : hasK k (keepL pt nw gr d l) = false := by
  cases hh : hasK k (keepL pt nw gr d l) with
  | false => rfl
  | true =>
    obtain ⟨q, h1, h2⟩ := hasK_mem.1 hh
    rw [hasK_mem.2 ⟨q, keepL_mem h1, h2⟩] at h
    cases h
theorem keepL_high {pt nw gr : Int} {d : Bool} {q : Rec} : ∀ {l : List Rec}, q ∈ l → q.1 ≥ pt → q ∈ keepL pt nw gr d l
  | r :: l, h, hq => by
    simp only [keepL]
    rcases List.mem_cons.1 h with rfl | h
    · have : staysR pt nw gr d q l = true := by unfold staysR; rw [decide_eq_true hq]; rfl
      rw [this, cond_true]
      exact List.mem_cons_self
    · have := keepL_high (nw := nw) (gr := gr) (d := d) h hq
      cases staysR pt nw gr d r l with
      | true => exact List.mem_cons_of_mem _ this
      | false => exact this
theorem keepL_last (pt nw gr : Int) (d : Bool) (k : List UInt8) : ∀ {l : List Rec}, sortO l → lastA k (keepL pt nw gr d l) = lastA k l
  | [], _ => rfl
  | r :: l, h => by
    have ih := keepL_last pt nw gr d k h.2
    simp only [keepL]
    cases hk : hasK k l with
    | true =>
      have e : lastA k (r :: l) = lastA k l := by rw [lastA_cons, hk]; rfl
      rw [e]
      cases hs : staysR pt nw gr d r l with
      | false => exact ih
      | true =>
        rw [cond_true, lastA_cons]
        cases hkk : hasK k (keepL pt nw gr d l) with
        | true => exact ih
        | false =>
          rw [cond_false, ← ih, lastA_none hkk]
          cases hr : keyR r == k with
          | false => rfl
          | true =>
            exfalso
            obtain ⟨q, q1, q2⟩ := hasK_mem.1 hk
            have hq : q.1 < pt := Int.not_le.1 fun hge => by
              rw [hasK_mem.2 ⟨q, keepL_high q1 hge, q2⟩] at hkk
              cases hkk
            have hlt := h.1 q q1
            have hm : metIn pt l r.2.2.1 = true := by
              unfold metIn
              rw [List.any_eq_true]
              refine ⟨q, q1, ?_⟩
              rw [decide_eq_true hq, Bool.true_and]
              have e1 : r.2.2.1 = k := eq_of_beq hr
              have e2 : q.2.2.1 = k := q2
              rw [e1, e2]
              simp
            unfold staysR at hs
            rw [hm, decide_eq_false (show ¬ r.1 ≥ pt by omega)] at hs
            cases hs
    | false =>
      have hn := keepL_hasK (pt := pt) (nw := nw) (gr := gr) (d := d) hk
      have e : lastA k (r :: l) = bif keyR r == k then (aliveM r).head? else none := by rw [lastA_cons, hk]; rfl
      rw [e]
      cases hs : staysR pt nw gr d r l with
      | true =>
        rw [cond_true, lastA_cons, hn]
        rfl
      | false =>
        rw [cond_false, lastA_none hn]
        cases hr : keyR r == k with
        | false => rfl
        | true =>
          rw [cond_true]
          unfold staysR at hs
          rw [Bool.or_eq_false_iff] at hs
          have hm : metIn pt l r.2.2.1 = false := by
            cases hm : metIn pt l r.2.2.1 with
            | false => rfl
            | true =>
              unfold metIn at hm
              rw [List.any_eq_true] at hm
              obtain ⟨q, q1, q2⟩ := hm
              simp only [Bool.and_eq_true, beq_iff_eq] at q2
              have : hasK k l = true := hasK_mem.2 ⟨q, q1, by
                have e1 : r.2.2.1 = k := eq_of_beq hr
                show q.2.2.1 = k
                rw [← q2.2, e1]⟩
              rw [this] at hk
              cases hk
          have h2 := hs.2
          rw [hm] at h2
          have hd : dOld nw gr d r = true := by simpa using h2
          unfold dOld at hd
          simp only [Bool.and_eq_true] at hd
          have : deadR r = true := hd.1.1
          unfold aliveM
          rw [this]
          rfl
/-- What is kept of records that others follow. -/
def keptP (pt nw gr : Int) (d : Bool) (ys : List Rec) : List Rec → List Rec
  | [] => []
  | r :: xs => bif staysR pt nw gr d r (xs ++ ys) then r :: keptP pt nw gr d ys xs else keptP pt nw gr d ys xs
theorem keepL_append (pt nw gr : Int) (d : Bool) (ys : List Rec) : ∀ xs, keepL pt nw gr d (xs ++ ys) = keptP pt nw gr d ys xs ++ keepL pt nw gr d ys
  | [] => rfl
  | r :: xs => by
    have ih := keepL_append pt nw gr d ys xs
    simp only [List.cons_append, keepL, keptP, ih]
    cases staysR pt nw gr d r (xs ++ ys) <;> rfl
theorem keptP_mem {pt nw gr : Int} {d : Bool} {ys : List Rec} {q : Rec} : ∀ {xs : List Rec}, q ∈ keptP pt nw gr d ys xs → q ∈ xs
  | r :: xs, h => by
    unfold keptP at h
    cases hs : staysR pt nw gr d r (xs ++ ys) with
    | true =>
      rw [hs, cond_true] at h
      rcases List.mem_cons.1 h with h | h
      · exact h ▸ List.mem_cons_self
      · exact List.mem_cons_of_mem _ (keptP_mem h)
    | false => rw [hs, cond_false] at h; exact List.mem_cons_of_mem _ (keptP_mem h)
theorem keepL_all {pt nw gr : Int} {d : Bool} : ∀ {l : List Rec}, (∀ q ∈ l, q.1 ≥ pt) → keepL pt nw gr d l = l
  | [], _ => rfl
  | r :: l, h => by
    have ih := keepL_all (nw := nw) (gr := gr) (d := d) fun q hq => h q (List.mem_cons_of_mem _ hq)
    have : staysR pt nw gr d r l = true := by unfold staysR; rw [decide_eq_true (h r List.mem_cons_self)]; rfl
    simp only [keepL, this, cond_true, ih]
end Go.Sim
namespace Go.Sim
set_option linter.unusedSimpArgs false
set_option linter.unusedVariables false
set_option maxRecDepth 10000
theorem ble_selfK (n : Nat) : Nat.ble n n = true := Nat.ble_eq_true_of_le (Nat.le_refl n)
theorem env_nilK : ∀ x ∈ ([] : List (FuncId × Con)), HoldsC P0 x.1 x.2 := fun x h => by cases h
theorem behind_ev (a b c : Int) : evFn (env []) H.clean_behind (LPof []) F.clean_behind [.int .i64 a, .int .i64 b, .int .i64 c] [] (finK 0) = bif decide (a < b) then Option.bind (bif decide (c < (0 : Int)) then some (decide (IntKind.u64.wrap (IntKind.u64.wrap b - IntKind.u64.wrap a) < IntKind.u64.wrap (IntKind.u64.wrap (IntKind.i64.wrap ((0 : Int) - IntKind.i64.wrap (c + (1 : Int)))) + (1 : Int)))) else some false) fun v => some (AV.bool v, []) else Option.bind (bif decide (c < (0 : Int)) then some true else some (decide (IntKind.u64.wrap (IntKind.u64.wrap a - IntKind.u64.wrap b) > IntKind.u64.wrap c))) fun v => some (AV.bool v, []) := by kernel_rfl

theorem rev_rd {R : Type} (l : List Rec) (i j : Int) (K : Ex → St → Option R) : roundK (env []) H.slices_Reverse_api_Record_api_Record 1 (LPof []) V.slices_Reverse_api_Record_api_Record_1 L.slices_Reverse_api_Record_api_Record_1 ⟨[(0, .hw 0), (2, .int .i64 i), (3, .int .i64 j)], [(0, .arr 5 recTy l [])], 1⟩ K = bif decide (i < j) then bif decide ((0 : Int) ≤ j) && decide (j < (↑l.length : Int)) then bif decide ((0 : Int) ≤ i) && decide (i < (↑l.length : Int)) then bif decide ((0 : Int) ≤ i) && decide (i < (↑l.length : Int)) then Option.bind (bif l.length.ble l.length then some (l.set i.toNat (l.getD j.toNat recTy.zero)) else none) fun v => bif decide ((0 : Int) ≤ j) && decide (j < (↑v.length : Int)) then Option.bind (bif v.length.ble v.length then some (v.set j.toNat (l.getD i.toNat recTy.zero)) else none) fun v => K Ex.normal { slots := [(0, AV.hw 0), (2, AV.int IntKind.i64 (IntKind.i64.wrap (i + (1 : Int)))), (3, AV.int IntKind.i64 (IntKind.i64.wrap (j - (1 : Int))))], objs := [(0, AObj.arr 5 recTy v [])], nx := 1 } else none else none else none else none else K (Ex.exit 0) { slots := [(0, AV.hw 0), (2, AV.int IntKind.i64 i), (3, AV.int IntKind.i64 j)], objs := [(0, AObj.arr 5 recTy l [])], nx := 1 } := by kernel_rfl

theorem behind_val (a b c : Int) (ha : In .i64 a) (hb : In .i64 b) (hc : In .i64 c) : evFn (env []) H.clean_behind (LPof []) F.clean_behind [.int .i64 a, .int .i64 b, .int .i64 c] [] (finK 0) = some (.bool (decide (a - b > c)), []) := by
  rw [behind_ev]
  rw [In.i64] at ha hb hc
  simp only [wrapu64_mod]
  by_cases h1 : a < b
  · rw [cond_pos h1]
    by_cases h2 : c < 0
    · rw [cond_pos h2]
      have e1 : IntKind.i64.wrap (c + (1 : Int)) = c + 1 := wrap64 (by omega) (by omega)
      have e2 : IntKind.i64.wrap ((0 : Int) - (c + 1)) = -c - 1 := by rw [wrap64 (by omega) (by omega)]; omega
      rw [e1, e2]
      simp only [Option.bind_some]
      congr 3
      exact decide_eq_decide.2 (by omega)
    · rw [cond_neg h2]
      have : ¬ (a - b > c) := by omega
      simp [this]
  · rw [cond_neg h1]
    by_cases h2 : c < 0
    · rw [cond_pos h2]
      have : a - b > c := by omega
      simp [this]
    · rw [cond_neg h2]
      simp only [Option.bind_some]
      congr 3
      exact decide_eq_decide.2 (by omega)
def caseBeh : PCase := ⟨[.ty (.int .i64), .ty (.int .i64), .ty (.int .i64)], [.bool], fun x => [(true, (decide (x.1 - x.2.1 > x.2.2.1), ()))]⟩
theorem behind_ok : caseBeh.ok P0 I.clean_behind := case_ok (H := H.clean_behind) (E := env []) (env_ok env_nilK) glob0 mixed0 G.clean_behind Bd.clean_behind (by kernel_rfl) noLoops fun ⟨a, b, c, ()⟩ y h hw => by
  obtain rfl := pick_one h
  exact ⟨[], behind_val a b c hw.1 hw.2.1 hw.2.2.1⟩

/-! ### Reverse -/
def revSt (l : List Rec) (i j : Int) : St := ⟨[(0, .hw 0), (2, .int .i64 i), (3, .int .i64 j)], [(0, .arr 5 recTy l [])], 1⟩
theorem getD_mid (pre post : List Rec) (x d : Rec) (n : Nat) (h : n = pre.length) : (pre ++ x :: post).getD n d = x := by
  subst h; simp
theorem set_mid (pre post : List Rec) (x y : Rec) (n : Nat) (h : n = pre.length) : (pre ++ x :: post).set n y = pre ++ y :: post := by
  subst h; simp
theorem rev_loop {R : Type} (K : Ex → St → Option R) : ∀ (k : Nat) (pre mid post : List Rec), mid.length ≤ k → (pre ++ (mid ++ post)).length ≤ maxL →
    rounds (env []) H.slices_Reverse_api_Record_api_Record 1 (LPof []) V.slices_Reverse_api_Record_api_Record_1 L.slices_Reverse_api_Record_api_Record_1 (k + 1) (revSt (pre ++ (mid ++ post)) pre.length ((pre.length : Int) + mid.length - 1)) K =
      K (.exit 0) (revSt (pre ++ (mid.reverse ++ post)) ((pre.length + mid.length / 2 : Nat) : Int) ((pre.length : Int) + mid.length - 1 - ((mid.length / 2 : Nat) : Int)))
  | k, pre, [], post, hk, hL => by
    rw [rounds_succ']
    unfold revSt
    rw [rev_rd, cond_neg (by simp; omega)]
    simp
  | k, pre, [x], post, hk, hL => by
    rw [rounds_succ']
    unfold revSt
    rw [rev_rd, cond_neg (by simp)]
    simp
  | 0, pre, x :: z :: mid, post, hk, hL => by simp at hk
  | k + 1, pre, x :: z :: mid, post, hk, hL => by
    obtain ⟨mid', y, hm⟩ : ∃ mid' y, z :: mid = mid' ++ [y] := ⟨_, _, (List.dropLast_concat_getLast (List.cons_ne_nil z mid)).symm⟩
    rw [hm] at hk hL ⊢
    unfold maxL at hL
    simp only [List.length_cons, List.length_append, List.length_nil] at hk hL
    have e0 : pre ++ (x :: (mid' ++ [y]) ++ post) = pre ++ x :: (mid' ++ y :: post) := by simp
    have e1 : pre ++ x :: (mid' ++ y :: post) = (pre ++ x :: mid') ++ y :: post := by simp
    have hj : ((pre.length : Int) + ((x :: (mid' ++ [y])).length : Nat) - 1) = ((pre.length + 1 + mid'.length : Nat) : Int) := by simp; omega
    rw [hj, e0, rounds_succ']
    unfold revSt
    rw [rev_rd, cond_pos (by omega), cond_pos2 (by omega) (by simp; omega), cond_pos2 (by omega) (by simp; omega), cond_pos2 (by omega) (by simp; omega), ble_selfK, cond_true, Option.bind_some, cond_pos2 (by omega) (by simp; omega), ble_selfK, cond_true, Option.bind_some]
    simp only [Int.toNat_natCast]
    rw [getD_mid pre (mid' ++ y :: post) x _ _ rfl]
    have g1 : (pre ++ x :: (mid' ++ y :: post)).getD (pre.length + 1 + mid'.length) recTy.zero = y := by
      rw [e1]
      exact getD_mid _ _ _ _ _ (by simp; omega)
    rw [g1, set_mid pre (mid' ++ y :: post) x y _ rfl]
    have g2 : (pre ++ y :: (mid' ++ y :: post)).set (pre.length + 1 + mid'.length) x = (pre ++ [y]) ++ (mid' ++ (x :: post)) := by
      rw [show pre ++ y :: (mid' ++ y :: post) = (pre ++ y :: mid') ++ y :: post by simp, set_mid _ _ _ _ _ (by simp; omega)]
      simp
    rw [g2, wrap64 (by omega) (by omega), wrap64 (by omega) (by omega)]
    have ih := rev_loop K k (pre ++ [y]) mid' (x :: post) (by omega) (by unfold maxL; simp; omega)
    unfold revSt at ih
    have hp : ((pre ++ [y]).length : Int) = (pre.length : Int) + 1 := by simp
    rw [hp] at ih
    rw [show ((pre.length + 1 + mid'.length : Nat) : Int) - 1 = (pre.length : Int) + 1 + mid'.length - 1 by omega]
    refine Eq.trans ih ?_
    have f1 : (pre ++ [y]) ++ (mid'.reverse ++ x :: post) = pre ++ ((x :: (mid' ++ [y])).reverse ++ post) := by simp
    have f2 : (((pre ++ [y]).length + mid'.length / 2 : Nat) : Int) = ((pre.length + (x :: (mid' ++ [y])).length / 2 : Nat) : Int) := by simp; omega
    have f3 : (pre.length : Int) + 1 + mid'.length - 1 - ((mid'.length / 2 : Nat) : Int) = (pre.length : Int) + ((x :: (mid' ++ [y])).length : Nat) - 1 - (((x :: (mid' ++ [y])).length / 2 : Nat) : Int) := by simp; omega
    rw [f1, f2, f3, hj]
def revPat : SPat := ⟨[(0, .lit (.hw 0)), (2, .int .i64), (3, .int .i64)], [.arr 5 recTy []]⟩
def revLC : LoopC := LoopC.of revPat (fun x => decide (x.1.2.1 = (0 : Int)) && decide (x.1.2.2.1 = ((List.length x.2.1.1 : Nat) : Int) - 1))
  fun x => [(true, .exit 0, revSt (List.reverse x.2.1.1) ((List.length x.2.1.1 / 2 : Nat) : Int) (((List.length x.2.1.1 : Nat) : Int) - 1 - ((List.length x.2.1.1 / 2 : Nat) : Int)))]
theorem rev_all (l : List Rec) (h : l.length ≤ maxL) : ∃ n, rounds (env []) H.slices_Reverse_api_Record_api_Record 1 (LPof []) V.slices_Reverse_api_Record_api_Record_1 L.slices_Reverse_api_Record_api_Record_1 n (revSt l 0 ((l.length : Int) - 1)) (fun e s => some (e, s)) =
    some (.exit 0, revSt l.reverse ((l.length / 2 : Nat) : Int) ((l.length : Int) - 1 - ((l.length / 2 : Nat) : Int))) := by
  have := rev_loop (fun e s => some (e, s)) l.length [] l [] (Nat.le_refl _) (by simpa using h)
  simp only [List.nil_append, List.append_nil, List.length_nil, Int.zero_add, Nat.zero_add, Int.natCast_zero] at this
  exact ⟨_, this⟩
theorem rev_lok : LoopOK P0 H.slices_Reverse_api_Record_api_Record 1 L.slices_Reverse_api_Record_api_Record_1 revLC := loop_ok_of (env_ok env_nilK) glob0 mixed0 noLoops V.slices_Reverse_api_Record_api_Record_1 (by decide) fun ⟨⟨_, i, j, _⟩, ⟨l, _⟩, _⟩ h hw => by
  simp only [Bool.and_eq_true, decide_eq_true_eq] at h
  obtain ⟨h1, h2⟩ := h
  subst h1; subst h2
  exact rev_all l hw.2.1.1.1

theorem rev_ev (l : List Rec) : evFn (env []) H.slices_Reverse_api_Record_api_Record (LPof [(1, revLC)]) F.slices_Reverse_api_Record_api_Record [.hw 0] [.arr 5 recTy l []] (finK 1) = bif decide (IntKind.i64.wrap ((↑l.length : Int) - (1 : Int)) = (↑l.length : Int) - (1 : (Pat.int IntKind.i64).den)) && true then some (AV.tup [], [AObj.arr 5 recTy l.reverse []]) else none := by kernel_rfl

def caseRev : ECase := ⟨[.lit (.hw 0)], [.arr 5 recTy []], fun _ y => [(decide (List.length y.1.1 ≤ maxL), .tup [], [.arr 5 recTy (List.reverse y.1.1) []])]⟩
theorem rev_val (l : List Rec) (h : l.length ≤ maxL) : evFn (env []) H.slices_Reverse_api_Record_api_Record (LPof [(1, revLC)]) F.slices_Reverse_api_Record_api_Record [.hw 0] [.arr 5 recTy l []] (finK 1) = some (.tup [], [.arr 5 recTy l.reverse []]) := by
  unfold maxL at h
  rw [rev_ev, wrap64 (by omega) (by omega)]
  simp
theorem rev_ok : caseRev.ok P0 I.slices_Reverse_api_Record_api_Record := ecase_ok (H := H.slices_Reverse_api_Record_api_Record) (E := env []) (env_ok env_nilK) glob0 mixed0 G.slices_Reverse_api_Record_api_Record Bd.slices_Reverse_api_Record_api_Record (by kernel_rfl) (loops_good (tab := [(1, revLC)]) (by kernel_rfl) (fun x hx => by simp at hx; subst hx; exact rev_lok)) fun ⟨_, ()⟩ ⟨⟨l, ()⟩, ()⟩ r objs' h hw1 hw2 => by
  obtain ⟨hc, hy⟩ := pick_pre h
  cases hy
  exact rev_val l (of_decide_eq_true hc)

/-! ### Keep -/
noncomputable abbrev consK : List (FuncId × Con) := [(I.clean_behind, .pure (pureOf [caseBeh])), (I.slices_Reverse_api_Record_api_Record, .eff (effOf [caseRev]))]
theorem consK_ok : ∀ x ∈ consK, HoldsC P0 x.1 x.2 := by
  intro x hx
  simp at hx
  rcases hx with rfl | rfl
  · exact ⟨pureOf_holds (by simp; exact behind_ok), C.clean_behind⟩
  · exact ⟨fun args objs r objs' h _ => effOf_holds (by simp; exact rev_ok) args objs r objs' h, C.slices_Reverse_api_Record_api_Record⟩

theorem keep_rd {R : Type} (l out : List Rec) (m : Met) (a b c i : Int) (d : Bool) (K : Ex → St → Option R) : roundK (env consK) H.clean_Keep 0 (LPof []) V.clean_Keep_4 L.clean_Keep_4 ⟨[(0, .vl recTy l), (1, .int .i64 a), (2, .int .i64 b), (3, .int .i64 c), (4, .bool d), (11, .hw 0), (12, .mp 1), (13, .int .i64 i)], [(0, .arr 5 recTy out []), (1, .map .str .bool m)], 2⟩ K = bif decide (i ≥ (0 : Int)) then bif decide ((0 : Int) ≤ i) && decide (i < (↑l.length : Int)) then bif decide ((l.getD i.toNat recTy.zero).fst ≥ a) then bif decide ((out ++ [l.getD i.toNat recTy.zero]).length * 56 ≤ 140737488355328) then K Ex.normal { slots := [(0, AV.vl recTy l), (1, AV.int IntKind.i64 a), (2, AV.int IntKind.i64 b), (3, AV.int IntKind.i64 c), (4, AV.bool d), (11, AV.hw 0), (12, AV.mp 1), (13, AV.int IntKind.i64 (IntKind.i64.wrap (i - (1 : Int))))], objs := [(0, AObj.arr 5 recTy (out ++ [l.getD i.toNat recTy.zero]) []), (1, AObj.map Ty.str Ty.bool m)], nx := 2 } else none else Option.bind (bif !((mget (kt := Ty.str) (vt := Ty.bool)) (l.getD i.toNat recTy.zero).snd.snd.fst m).getD false then bif (l.getD i.toNat recTy.zero).snd.snd.snd.snd then bif d then some !decide (b - (l.getD i.toNat recTy.zero).snd.fst > c) else some true else some true else some false) fun v => bif v then bif decide ((out ++ [l.getD i.toNat recTy.zero]).length * 56 ≤ 140737488355328) then bif decide (List.length m < 9223372036854775807) then K Ex.normal { slots := [(0, AV.vl recTy l), (1, AV.int IntKind.i64 a), (2, AV.int IntKind.i64 b), (3, AV.int IntKind.i64 c), (4, AV.bool d), (11, AV.hw 0), (12, AV.mp 1), (13, AV.int IntKind.i64 (IntKind.i64.wrap (i - (1 : Int))))], objs := [(0, AObj.arr 5 recTy (out ++ [l.getD i.toNat recTy.zero]) []), (1, AObj.map Ty.str Ty.bool ((mset (kt := Ty.str) (vt := Ty.bool)) (l.getD i.toNat recTy.zero).snd.snd.fst true m))], nx := 2 } else none else none else bif decide (List.length m < 9223372036854775807) then K Ex.normal { slots := [(0, AV.vl recTy l), (1, AV.int IntKind.i64 a), (2, AV.int IntKind.i64 b), (3, AV.int IntKind.i64 c), (4, AV.bool d), (11, AV.hw 0), (12, AV.mp 1), (13, AV.int IntKind.i64 (IntKind.i64.wrap (i - (1 : Int))))], objs := [(0, AObj.arr 5 recTy out []), (1, AObj.map Ty.str Ty.bool ((mset (kt := Ty.str) (vt := Ty.bool)) (l.getD i.toNat recTy.zero).snd.snd.fst true m))], nx := 2 } else none else none else K (Ex.exit 0) { slots := [(0, AV.vl recTy l), (1, AV.int IntKind.i64 a), (2, AV.int IntKind.i64 b), (3, AV.int IntKind.i64 c), (4, AV.bool d), (11, AV.hw 0), (12, AV.mp 1), (13, AV.int IntKind.i64 i)], objs := [(0, AObj.arr 5 recTy out []), (1, AObj.map Ty.str Ty.bool m)], nx := 2 } := by kernel_rfl

def keepSt (l out : List Rec) (m : Met) (a b c i : Int) (d : Bool) : St := ⟨[(0, .vl recTy l), (1, .int .i64 a), (2, .int .i64 b), (3, .int .i64 c), (4, .bool d), (11, .hw 0), (12, .mp 1), (13, .int .i64 i)], [(0, .arr 5 recTy out []), (1, .map .str .bool m)], 2⟩
theorem getD_dropR (l : List Rec) (n : Nat) (h : n < l.length) : l.drop n = l.getD n recTy.zero :: l.drop (n + 1) := by
  rw [List.getD_eq_getElem?_getD, List.getElem?_eq_getElem h]
  simp
theorem keep_loop (l : List Rec) (a b c : Int) (d : Bool) (hl : l.length ≤ 1048576) {R : Type} (K : Ex → St → Option R) : ∀ (k : Nat), k ≤ l.length →
    rounds (env consK) H.clean_Keep 0 (LPof []) V.clean_Keep_4 L.clean_Keep_4 (k + 1) (keepSt l (keepL a b c d (l.drop k)).reverse (metL a (l.drop k)) a b c ((k : Int) - 1) d) K =
      K (.exit 0) (keepSt l (keepL a b c d l).reverse (metL a l) a b c (-1) d)
  | 0, _ => by
    rw [rounds_succ']
    unfold keepSt
    rw [keep_rd]
    simp
  | k + 1, h => by
    have hlen : k < l.length := by omega
    have ih := keep_loop l a b c d hl K k (by omega)
    rw [getD_dropR l k hlen] at ih
    rw [rounds_succ']
    unfold keepSt at ih ⊢
    have hi : ((k + 1 : Nat) : Int) - 1 = (k : Int) := by omega
    have hkl := keepL_length a b c d (l.drop (k + 1))
    have hml := metL_length a (l.drop (k + 1))
    have hdl : (l.drop (k + 1)).length ≤ 1048576 := by simp; omega
    rw [hi, keep_rd, cond_pos (by omega), cond_pos2 (by omega) (by omega)]
    simp only [Int.toNat_natCast]
    rw [wrap64 (by omega) (by omega)]
    simp only [keepL, metL] at ih
    by_cases h1 : (l.getD k recTy.zero).1 ≥ a
    · rw [cond_pos h1, cond_pos (by simp; omega)]
      simp only [staysR, h1, decide_true, Bool.true_or, cond_true, List.reverse_cons] at ih
      exact ih
    · rw [cond_neg h1]
      have hg : (mget (kt := .str) (vt := .bool) (l.getD k recTy.zero).2.2.1 (metL a (l.drop (k + 1)))).getD false = metIn a (l.drop (k + 1)) (l.getD k recTy.zero).2.2.1 := metL_get a (l.getD k recTy.zero).2.2.1 (l.drop (k + 1))
      have hb : (bif !(mget (kt := .str) (vt := .bool) (l.getD k recTy.zero).2.2.1 (metL a (l.drop (k + 1)))).getD false then bif (l.getD k recTy.zero).2.2.2.2 then bif d then some !decide (b - (l.getD k recTy.zero).2.1 > c) else some true else some true else some false) = some (staysR a b c d (l.getD k recTy.zero) (l.drop (k + 1))) := by
        rw [hg]
        unfold staysR dOld
        simp only [h1, decide_false, Bool.false_or]
        cases metIn a (l.drop (k + 1)) (l.getD k recTy.zero).2.2.1 <;> cases (l.getD k recTy.zero).2.2.2.2 <;> cases d <;> rfl
      rw [hb]
      simp only [Option.bind_some]
      simp only [h1, decide_false, cond_false] at ih
      cases hs : staysR a b c d (l.getD k recTy.zero) (l.drop (k + 1))
      · rw [hs] at ih
        simp only [cond_false] at ih ⊢
        rw [cond_pos (by omega)]
        exact ih
      · rw [hs] at ih
        simp only [cond_true, List.reverse_cons] at ih ⊢
        rw [cond_pos (by simp; omega), cond_pos (by omega)]
        exact ih
def keepPat : SPat := ⟨[(0, .vl recTy), (1, .int .i64), (2, .int .i64), (3, .int .i64), (4, .bool), (11, .lit (.hw 0)), (12, .lit (.mp 1)), (13, .int .i64)], [.arr 5 recTy [], .map .str .bool]⟩
def keepLC : LoopC := LoopC.of keepPat (fun x => decide (List.length x.1.1 ≤ 1048576) && decide (x.1.2.2.2.2.2.2.2.1 = ((List.length x.1.1 : Nat) : Int) - 1) && List.isEmpty x.2.1.1 && List.isEmpty x.2.2.1)
  fun x => [(true, .exit 0, keepSt x.1.1 (keepL x.1.2.1 x.1.2.2.1 x.1.2.2.2.1 x.1.2.2.2.2.1 x.1.1).reverse (metL x.1.2.1 x.1.1) x.1.2.1 x.1.2.2.1 x.1.2.2.2.1 (-1) x.1.2.2.2.2.1)]
theorem keep_lok : LoopOK P0 H.clean_Keep 0 L.clean_Keep_4 keepLC := loop_ok_of (env_ok consK_ok) glob0 mixed0 noLoops V.clean_Keep_4 (by decide) fun ⟨⟨l, a, b, c, d, _, _, i, _⟩, ⟨out, _⟩, m, _⟩ h hw => by
  simp only [Bool.and_eq_true, decide_eq_true_eq, List.isEmpty_iff] at h
  obtain ⟨⟨⟨h1, h2⟩, h3⟩, h4⟩ := h
  subst h2; subst h3; subst h4
  have := keep_loop l a b c d h1 (fun e s => some (e, s)) (List.length l) (Nat.le_refl _)
  rw [List.drop_length] at this
  exact ⟨_, this⟩

theorem keep_ev (l : List Rec) (a b c : Int) (d : Bool) : evFn (env consK) H.clean_Keep (LPof [(4, keepLC)]) F.clean_Keep [.vl recTy l, .int .i64 a, .int .i64 b, .int .i64 c, .bool d] [] (finK 0) = bif decide (l.length ≤ 1048576) && decide (IntKind.i64.wrap ((↑l.length : Int) - (1 : Int)) = (↑l.length : Int) - (1 : (Pat.int IntKind.i64).den)) && true && true && true then bif decide ((keepL a b c d l).reverse.length ≤ 9223372036854775807) then some (AV.vl recTy (keepL a b c d l).reverse.reverse, []) else none else none := by kernel_rfl

def caseKeep : PCase := ⟨[.ty (.sl recTy), .ty (.int .i64), .ty (.int .i64), .ty (.int .i64), .ty .bool], [.sl recTy], fun x => [(decide (List.length x.1 ≤ 1048576), (keepL x.2.1 x.2.2.1 x.2.2.2.1 x.2.2.2.2.1 x.1, ()))]⟩
theorem keep_val (l : List Rec) (a b c : Int) (d : Bool) (h : l.length ≤ 1048576) : evFn (env consK) H.clean_Keep (LPof [(4, keepLC)]) F.clean_Keep [.vl recTy l, .int .i64 a, .int .i64 b, .int .i64 c, .bool d] [] (finK 0) = some (.vl recTy (keepL a b c d l), []) := by
  have := keepL_length a b c d l
  rw [keep_ev, wrap64 (by omega) (by omega)]
  have h2 : (keepL a b c d l).reverse.length ≤ 9223372036854775807 := by simp; omega
  rw [cond_pos h2]
  simp [h]
theorem keep_ok : caseKeep.ok P0 I.clean_Keep := case_ok (H := H.clean_Keep) (E := env consK) (env_ok consK_ok) glob0 mixed0 G.clean_Keep Bd.clean_Keep (by kernel_rfl) (loops_good (tab := [(4, keepLC)]) (by kernel_rfl) (fun x hx => by simp at hx; subst hx; exact keep_lok)) fun ⟨l, a, b, c, d, ()⟩ y h hw => by
  obtain ⟨hc, rfl⟩ := pick_pre h
  exact ⟨[], keep_val l a b c d (of_decide_eq_true hc)⟩

/-! ### Big, SameRecords -/
end Go.Sim
namespace Go.Sim
set_option linter.unusedSimpArgs false
set_option linter.unusedVariables false
set_option maxRecDepth 10000
abbrev ractT : Ty := .pair (.int .i64) (.pair (.int .i64) (.pair (.int .i64) (.pair (.int .i64) (.pair (.sl recT) (.pair (.pair (.int .i64) (.pair (.int .i64) (.pair (.int .i64) (.int .i64)))) .bool)))))
theorem mp7_rd {R : Type} (l out : List Rec) (i k : Int) (r : Rec) (K : Ex → St → Option R) : roundK (env []) H.cooperageref10_Map 0 (LPof []) V.cooperageref10_Map_7 L.cooperageref10_Map_7 ⟨[(0, .vl recT l), (3, .hw 0), (4, .int .i64 i), (5, .ptr 1 (.tl 0) 0), (6, .int .i64 k)], [(0, .arr 5 recT out []), (1, .arr 5 .bool [] [[.int .i64 r.1, .int .i64 r.2.1, .str r.2.2.1, .str r.2.2.2.1, .bool r.2.2.2.2]])], 2⟩ K = Option.bind (bif decide (k < (↑out.length : Int)) then bif decide ((0 : Int) ≤ k) && decide (k < (↑out.length : Int)) then some (strLess (out.getD k.toNat recTy.zero).snd.snd.fst r.snd.snd.fst) else none else some false) fun v => bif v then K Ex.normal { slots := [(0, AV.vl recTy l), (3, AV.hw 0), (4, AV.int IntKind.i64 i), (5, AV.ptr 1 (Elt.tl 0) 0), (6, AV.int IntKind.i64 (IntKind.i64.wrap (k + (1 : Int))))], objs := [(0, AObj.arr 5 recTy out []), (1, AObj.arr 5 Ty.bool [] [[AV.int IntKind.i64 r.fst, AV.int IntKind.i64 r.snd.fst, AV.str r.snd.snd.fst, AV.str r.snd.snd.snd.fst, AV.bool r.snd.snd.snd.snd]])], nx := 2 } else K (Ex.exit 2) { slots := [(0, AV.vl recTy l), (3, AV.hw 0), (4, AV.int IntKind.i64 i), (5, AV.ptr 1 (Elt.tl 0) 0), (6, AV.int IntKind.i64 k)], objs := [(0, AObj.arr 5 recTy out []), (1, AObj.arr 5 Ty.bool [] [[AV.int IntKind.i64 r.fst, AV.int IntKind.i64 r.snd.fst, AV.str r.snd.snd.fst, AV.str r.snd.snd.snd.fst, AV.bool r.snd.snd.snd.snd]])], nx := 2 } := by kernel_rfl

noncomputable abbrev consV1 : List (FuncId × Con) := [(I.cooperagelaw8_Big, .pure (pureOf [caseBig8]))]
theorem consV1_ok : ∀ x ∈ consV1, HoldsC P0 x.1 x.2 := by
  intro x hx
  simp at hx
  subst hx
  exact ⟨pureOf_holds (by simp; exact big8_ok), C.cooperagelaw8_Big⟩
theorem bga_rd {R : Type} (l : List ractT.den) (q : Bool) (n i : Int) (K : Ex → St → Option R) : roundK (env consV1) H.cooperagelaw15_Big 0 (LPof []) V.cooperagelaw15_Big_3 L.cooperagelaw15_Big_3 ⟨[(0, .vl ractT l), (2, .bool q), (3, .int .i64 n), (4, .int .i64 i)], [], 0⟩ K = bif decide (i < (↑l.length : Int)) then bif decide ((0 : Int) ≤ i) && decide (i < (↑l.length : Int)) then Option.bind (bif big8B (l.getD i.toNat ractT.zero).snd.snd.snd.snd.fst then some true else bif decide ((0 : Int) ≤ i) && decide (i < (↑l.length : Int)) then some (decide ((↑(List.length (l.getD i.toNat ractT.zero).snd.snd.snd.snd.fst) : Int) > (12 : Int))) else none) fun v => bif v then K Ex.ret { slots := [(0, AV.vl ((Ty.int IntKind.i64).pair ((Ty.int IntKind.i64).pair ((Ty.int IntKind.i64).pair ((Ty.int IntKind.i64).pair (recTy.sl.pair (confTy.pair Ty.bool)))))) l), (2, AV.bool true), (3, AV.int IntKind.i64 n), (4, AV.int IntKind.i64 i)], objs := [], nx := 0 } else bif decide ((0 : Int) ≤ i) && decide (i < (↑l.length : Int)) then K Ex.normal { slots := [(0, AV.vl ((Ty.int IntKind.i64).pair ((Ty.int IntKind.i64).pair ((Ty.int IntKind.i64).pair ((Ty.int IntKind.i64).pair (recTy.sl.pair (confTy.pair Ty.bool)))))) l), (2, AV.bool q), (3, AV.int IntKind.i64 (IntKind.i64.wrap (n + (↑(List.length (l.getD i.toNat ractT.zero).snd.snd.snd.snd.fst) : Int)))), (4, AV.int IntKind.i64 (IntKind.i64.wrap (i + (1 : Int))))], objs := [], nx := 0 } else none else none else K (Ex.exit 0) { slots := [(0, AV.vl ((Ty.int IntKind.i64).pair ((Ty.int IntKind.i64).pair ((Ty.int IntKind.i64).pair ((Ty.int IntKind.i64).pair (recTy.sl.pair (confTy.pair Ty.bool)))))) l), (2, AV.bool q), (3, AV.int IntKind.i64 n), (4, AV.int IntKind.i64 i)], objs := [], nx := 0 } := by kernel_rfl

def posM (k : List UInt8) : List Rec → Nat
  | [] => 0
  | x :: xs => bif strLess (keyR x) k then posM k xs + 1 else 0
theorem posM_le (k : List UInt8) : ∀ l : List Rec, posM k l ≤ l.length
  | [] => Nat.le_refl _
  | x :: xs => by
    have := posM_le k xs
    unfold posM
    cases strLess (keyR x) k <;> simp only [cond_true, cond_false, List.length_cons] <;> omega
theorem posM_below (k : List UInt8) : ∀ {l : List Rec} {i : Nat}, i < posM k l → strLess (keyR (l.getD i recTy.zero)) k = true
  | [], i, h => by cases h
  | x :: xs, i, h => by
    unfold posM at h
    cases hx : strLess (keyR x) k with
    | false => rw [hx] at h; cases h
    | true =>
      rw [hx, cond_true] at h
      cases i with
      | zero => exact hx
      | succ i =>
        have := posM_below k (l := xs) (i := i) (by omega)
        simpa using this
theorem posM_at (k : List UInt8) : ∀ {l : List Rec}, posM k l < l.length → strLess (keyR (l.getD (posM k l) recTy.zero)) k = false
  | [], h => by cases h
  | x :: xs, h => by
    unfold posM at h ⊢
    cases hx : strLess (keyR x) k with
    | false => exact hx
    | true =>
      rw [hx, cond_true, List.length_cons] at h
      have := posM_at k (l := xs) (by omega)
      simpa using this
def sameM (k : List UInt8) (l : List Rec) : Bool := decide (posM k l < l.length) && keyR (l.getD (posM k l) recTy.zero) == k
theorem insM_pos (r : Rec) : ∀ l : List Rec, insM r l = l.take (posM (keyR r) l) ++ aliveM r ++ l.drop (bif sameM (keyR r) l then posM (keyR r) l + 1 else posM (keyR r) l)
  | [] => by simp [insM, posM, sameM]
  | x :: xs => by
    have ih := insM_pos r xs
    unfold insM
    cases hx : strLess (keyR x) (keyR r) with
    | true =>
      have e : posM (keyR r) (x :: xs) = posM (keyR r) xs + 1 := by
        show (bif strLess (keyR x) (keyR r) then posM (keyR r) xs + 1 else 0) = _
        rw [hx]
        rfl
      have e2 : sameM (keyR r) (x :: xs) = sameM (keyR r) xs := by
        unfold sameM
        rw [e]
        have : decide (posM (keyR r) xs + 1 < (x :: xs).length) = decide (posM (keyR r) xs < xs.length) := by simp
        rw [this]
        simp
      rw [cond_true, ih, e, e2]
      cases sameM (keyR r) xs <;> simp
    | false =>
      have e : posM (keyR r) (x :: xs) = 0 := by
        show (bif strLess (keyR x) (keyR r) then posM (keyR r) xs + 1 else 0) = _
        rw [hx]
        rfl
      have e2 : sameM (keyR r) (x :: xs) = (keyR x == keyR r) := by
        unfold sameM
        rw [e]
        simp
      rw [cond_false, e, e2]
      cases keyR x == keyR r <;> simp
def mp7St (l out : List Rec) (i : Int) (r : Rec) (k : Nat) : St := ⟨[(0, .vl recT l), (3, .hw 0), (4, .int .i64 i), (5, .ptr 1 (.tl 0) 0), (6, .int .i64 k)], [(0, .arr 5 recT out []), (1, .arr 5 .bool [] [[.int .i64 r.1, .int .i64 r.2.1, .str r.2.2.1, .str r.2.2.2.1, .bool r.2.2.2.2]])], 2⟩
theorem mp7_rounds {R : Type} (l out : List Rec) (i : Int) (r : Rec) (ho : out.length ≤ maxL) (K : Ex → St → Option R) : ∀ (m k : Nat), k + m = posM (keyR r) out →
    rounds (env []) H.cooperageref10_Map 0 (LPof []) V.cooperageref10_Map_7 L.cooperageref10_Map_7 (m + 1) (mp7St l out i r k) K = K (.exit 2) (mp7St l out i r (posM (keyR r) out))
  | 0, k, h => by
    obtain rfl : k = posM (keyR r) out := by omega
    have hp := posM_le (keyR r) out
    rw [rounds_succ']
    refine (mp7_rd _ _ _ _ _ _).trans ?_
    by_cases hk : posM (keyR r) out < out.length
    · have h1 := posM_at (keyR r) hk
      have h1 : strLess (out.getD (posM (keyR r) out) recTy.zero).2.2.1 r.2.2.1 = false := h1
      rw [cond_pos (Int.ofNat_lt.2 hk), cond_pos2 (Int.natCast_nonneg _) (Int.ofNat_lt.2 hk), Int.toNat_natCast, h1, Option.bind_some]
      rfl
    · rw [cond_neg (fun h => hk (Int.ofNat_lt.1 h)), Option.bind_some]
      rfl
  | m + 1, k, h => by
    have ih := mp7_rounds l out i r ho K m (k + 1) (by omega)
    have hp := posM_le (keyR r) out
    unfold maxL at ho
    have hb : strLess (out.getD k recTy.zero).2.2.1 r.2.2.1 = true := posM_below (keyR r) (l := out) (i := k) (by omega)
    have e1 : IntKind.i64.wrap ((k : Int) + 1) = ((k + 1 : Nat) : Int) := by rw [wrap64 (by omega) (by omega)]; omega
    rw [rounds_succ']
    refine (mp7_rd _ _ _ _ _ _).trans ?_
    rw [cond_pos (by omega), cond_pos2 (by omega) (by omega), Int.toNat_natCast, hb, Option.bind_some, e1]
    exact ih
abbrev mp7LC : LoopC := LoopC.of ⟨[(0, .vl recT), (3, .lit (.hw 0)), (4, .int .i64), (5, .lit (.ptr 1 (.tl 0) 0)), (6, .int .i64)], [.arr 5 recT [], .box 5 [[.int .i64, .int .i64, .str, .str, .bool]]]⟩
  (fun ⟨⟨l, _, i, _, k, _⟩, ⟨⟨out, _⟩, ⟨⟨r1, r2, r3, r4, r5, _⟩, _⟩, _⟩⟩ => decide (k = (0 : Int)))
  fun ⟨⟨l, _, i, _, k, _⟩, ⟨⟨out, _⟩, ⟨⟨r1, r2, r3, r4, r5, _⟩, _⟩, _⟩⟩ => [(true, .exit 2, mp7St l out i (r1, r2, r3, r4, r5) (posM r3 out))]
theorem mp7_lok : LoopOK P0 H.cooperageref10_Map 0 L.cooperageref10_Map_7 mp7LC :=
  loop_ok_of (env_ok env_nilK) glob0 mixed0 noLoops V.cooperageref10_Map_7 (by decide) fun ⟨⟨l, _, i, _, k, _⟩, ⟨⟨out, _⟩, ⟨⟨r1, r2, r3, r4, r5, _⟩, _⟩, _⟩⟩ h hw => by
    obtain rfl := of_decide_eq_true h
    exact ⟨_, mp7_rounds l out i (r1, r2, r3, r4, r5) hw.2.1.1.1 _ (posM r3 out) 0 (Nat.zero_add _)⟩
theorem mp3_rd {R : Type} (l out : List Rec) (i : Int) (K : Ex → St → Option R) : roundK (env []) H.cooperageref10_Map 0 (LPof [(7, mp7LC)]) V.cooperageref10_Map_3 L.cooperageref10_Map_3 ⟨[(0, .vl recT l), (3, .hw 0), (4, .int .i64 i)], [(0, .arr 5 recT out [])], 1⟩ K = bif decide (i < (↑l.length : Int)) then bif decide ((0 : Int) ≤ i) && decide (i < (↑l.length : Int)) then Option.bind (bif decide ((↑(posM (l.getD i.toNat recTy.zero).snd.snd.fst out) : Int) < (↑out.length : Int)) then bif decide ((0 : Int) ≤ (↑(posM (l.getD i.toNat recTy.zero).snd.snd.fst out) : Int)) && decide ((↑(posM (l.getD i.toNat recTy.zero).snd.snd.fst out) : Int) < (↑out.length : Int)) then some ((out.getD (posM (l.getD i.toNat recTy.zero).snd.snd.fst out) recTy.zero).snd.snd.fst == (l.getD i.toNat recTy.zero).snd.snd.fst) else none else some false) fun v => bif v then bif decide ((0 : Int) ≤ (↑(posM (l.getD i.toNat recTy.zero).snd.snd.fst out) : Int)) && decide ((↑(posM (l.getD i.toNat recTy.zero).snd.snd.fst out) : Int) ≤ (↑out.length : Int)) then bif decide ((List.take (posM (l.getD i.toNat recTy.zero).snd.snd.fst out) out).length * 56 ≤ 140737488355328) then bif !(l.getD i.toNat recTy.zero).snd.snd.snd.snd then bif decide ((List.take (posM (l.getD i.toNat recTy.zero).snd.snd.fst out) out ++ [l.getD i.toNat recTy.zero]).length * 56 ≤ 140737488355328) then bif decide ((0 : Int) ≤ IntKind.i64.wrap ((↑(posM (l.getD i.toNat recTy.zero).snd.snd.fst out) : Int) + (1 : Int))) && decide (IntKind.i64.wrap ((↑(posM (l.getD i.toNat recTy.zero).snd.snd.fst out) : Int) + (1 : Int)) ≤ (↑out.length : Int)) then bif decide ((List.take (posM (l.getD i.toNat recTy.zero).snd.snd.fst out) out ++ [l.getD i.toNat recTy.zero] ++ List.take (out.length - (IntKind.i64.wrap ((↑(posM (l.getD i.toNat recTy.zero).snd.snd.fst out) : Int) + (1 : Int))).toNat) (List.drop (IntKind.i64.wrap ((↑(posM (l.getD i.toNat recTy.zero).snd.snd.fst out) : Int) + (1 : Int))).toNat out)).length * 56 ≤ 140737488355328) then K Ex.normal { slots := [(0, AV.vl recTy l), (3, AV.hw 0), (4, AV.int IntKind.i64 (IntKind.i64.wrap (i + (1 : Int))))], objs := [(0, AObj.arr 5 recTy (List.take (posM (l.getD i.toNat recTy.zero).snd.snd.fst out) out ++ [l.getD i.toNat recTy.zero] ++ List.take (out.length - (IntKind.i64.wrap ((↑(posM (l.getD i.toNat recTy.zero).snd.snd.fst out) : Int) + (1 : Int))).toNat) (List.drop (IntKind.i64.wrap ((↑(posM (l.getD i.toNat recTy.zero).snd.snd.fst out) : Int) + (1 : Int))).toNat out)) [])], nx := 1 } else none else none else none else bif decide ((0 : Int) ≤ IntKind.i64.wrap ((↑(posM (l.getD i.toNat recTy.zero).snd.snd.fst out) : Int) + (1 : Int))) && decide (IntKind.i64.wrap ((↑(posM (l.getD i.toNat recTy.zero).snd.snd.fst out) : Int) + (1 : Int)) ≤ (↑out.length : Int)) then bif decide ((List.take (posM (l.getD i.toNat recTy.zero).snd.snd.fst out) out ++ List.take (out.length - (IntKind.i64.wrap ((↑(posM (l.getD i.toNat recTy.zero).snd.snd.fst out) : Int) + (1 : Int))).toNat) (List.drop (IntKind.i64.wrap ((↑(posM (l.getD i.toNat recTy.zero).snd.snd.fst out) : Int) + (1 : Int))).toNat out)).length * 56 ≤ 140737488355328) then K Ex.normal { slots := [(0, AV.vl recTy l), (3, AV.hw 0), (4, AV.int IntKind.i64 (IntKind.i64.wrap (i + (1 : Int))))], objs := [(0, AObj.arr 5 recTy (List.take (posM (l.getD i.toNat recTy.zero).snd.snd.fst out) out ++ List.take (out.length - (IntKind.i64.wrap ((↑(posM (l.getD i.toNat recTy.zero).snd.snd.fst out) : Int) + (1 : Int))).toNat) (List.drop (IntKind.i64.wrap ((↑(posM (l.getD i.toNat recTy.zero).snd.snd.fst out) : Int) + (1 : Int))).toNat out)) [])], nx := 1 } else none else none else none else none else bif decide ((0 : Int) ≤ (↑(posM (l.getD i.toNat recTy.zero).snd.snd.fst out) : Int)) && decide ((↑(posM (l.getD i.toNat recTy.zero).snd.snd.fst out) : Int) ≤ (↑out.length : Int)) then bif decide ((List.take (posM (l.getD i.toNat recTy.zero).snd.snd.fst out) out).length * 56 ≤ 140737488355328) then bif !(l.getD i.toNat recTy.zero).snd.snd.snd.snd then bif decide ((List.take (posM (l.getD i.toNat recTy.zero).snd.snd.fst out) out ++ [l.getD i.toNat recTy.zero]).length * 56 ≤ 140737488355328) then bif decide ((0 : Int) ≤ (↑(posM (l.getD i.toNat recTy.zero).snd.snd.fst out) : Int)) && decide ((↑(posM (l.getD i.toNat recTy.zero).snd.snd.fst out) : Int) ≤ (↑out.length : Int)) then bif decide ((List.take (posM (l.getD i.toNat recTy.zero).snd.snd.fst out) out ++ [l.getD i.toNat recTy.zero] ++ List.take (out.length - posM (l.getD i.toNat recTy.zero).snd.snd.fst out) (List.drop (posM (l.getD i.toNat recTy.zero).snd.snd.fst out) out)).length * 56 ≤ 140737488355328) then K Ex.normal { slots := [(0, AV.vl recTy l), (3, AV.hw 0), (4, AV.int IntKind.i64 (IntKind.i64.wrap (i + (1 : Int))))], objs := [(0, AObj.arr 5 recTy (List.take (posM (l.getD i.toNat recTy.zero).snd.snd.fst out) out ++ [l.getD i.toNat recTy.zero] ++ List.take (out.length - posM (l.getD i.toNat recTy.zero).snd.snd.fst out) (List.drop (posM (l.getD i.toNat recTy.zero).snd.snd.fst out) out)) [])], nx := 1 } else none else none else none else bif decide ((0 : Int) ≤ (↑(posM (l.getD i.toNat recTy.zero).snd.snd.fst out) : Int)) && decide ((↑(posM (l.getD i.toNat recTy.zero).snd.snd.fst out) : Int) ≤ (↑out.length : Int)) then bif decide ((List.take (posM (l.getD i.toNat recTy.zero).snd.snd.fst out) out ++ List.take (out.length - posM (l.getD i.toNat recTy.zero).snd.snd.fst out) (List.drop (posM (l.getD i.toNat recTy.zero).snd.snd.fst out) out)).length * 56 ≤ 140737488355328) then K Ex.normal { slots := [(0, AV.vl recTy l), (3, AV.hw 0), (4, AV.int IntKind.i64 (IntKind.i64.wrap (i + (1 : Int))))], objs := [(0, AObj.arr 5 recTy (List.take (posM (l.getD i.toNat recTy.zero).snd.snd.fst out) out ++ List.take (out.length - posM (l.getD i.toNat recTy.zero).snd.snd.fst out) (List.drop (posM (l.getD i.toNat recTy.zero).snd.snd.fst out) out)) [])], nx := 1 } else none else none else none else none else none else K (Ex.exit 0) { slots := [(0, AV.vl recTy l), (3, AV.hw 0), (4, AV.int IntKind.i64 i)], objs := [(0, AObj.arr 5 recTy out [])], nx := 1 } := by kernel_rfl

theorem insM_len (r : Rec) : ∀ l : List Rec, (insM r l).length ≤ l.length + 1
  | [] => by unfold insM aliveM; cases deadR r <;> simp
  | x :: xs => by
    have := insM_len r xs
    have ha : (aliveM r).length ≤ 1 := by unfold aliveM; cases deadR r <;> simp
    unfold insM
    cases strLess (keyR x) (keyR r) with
    | true => simp only [cond_true, List.length_cons]; omega
    | false => cases keyR x == keyR r <;> simp only [cond_true, cond_false, List.length_append, List.length_cons] <;> omega
theorem mapM_snoc (l : List Rec) (r : Rec) : mapM (l ++ [r]) = insM r (mapM l) := by unfold mapM; rw [List.foldl_append]; rfl
theorem mapM_take_len (l : List Rec) : ∀ i, i ≤ l.length → (mapM (l.take i)).length ≤ i
  | 0, _ => by simp [mapM]
  | i + 1, h => by
    have ih := mapM_take_len l i (by omega)
    rw [take_snoc (by omega), mapM_snoc]
    have := insM_len (l.getD i recTy.zero) (mapM (l.take i))
    omega
def mp3St (l : List Rec) (i : Nat) : St := ⟨[(0, .vl recT l), (3, .hw 0), (4, .int .i64 i)], [(0, .arr 5 recT (mapM (l.take i)) [])], 1⟩
theorem mp3_rounds {R : Type} (l : List Rec) (hl : l.length ≤ 1000000) (K : Ex → St → Option R) : ∀ (m i : Nat), i + m = l.length →
    rounds (env []) H.cooperageref10_Map 0 (LPof [(7, mp7LC)]) V.cooperageref10_Map_3 L.cooperageref10_Map_3 (m + 1) (mp3St l i) K = K (.exit 0) (mp3St l l.length)
  | 0, i, h => by
    obtain rfl : i = l.length := by omega
    rw [rounds_succ']
    refine (mp3_rd _ _ _ _).trans ?_
    rw [cond_neg (by omega)]
    rfl
  | m + 1, i, h => by
    have ih := mp3_rounds l hl K m (i + 1) (by omega)
    have hb := mapM_take_len l i (by omega)
    have e1 : IntKind.i64.wrap ((i : Int) + 1) = ((i + 1 : Nat) : Int) := by rw [wrap64 (by omega) (by omega)]; omega
    rw [rounds_succ']
    refine (mp3_rd _ _ _ _).trans ?_
    unfold mp3St at ih
    rw [take_snoc (by omega), mapM_snoc, insM_pos] at ih
    rw [cond_pos (by omega), cond_pos2 (by omega) (by omega), Int.toNat_natCast, e1]
    obtain ⟨out, ho⟩ : ∃ out, out = mapM (l.take i) := ⟨_, rfl⟩
    obtain ⟨r, hr⟩ : ∃ r, r = l.getD i recTy.zero := ⟨_, rfl⟩
    rw [← ho, ← hr] at ih
    rw [← ho] at hb
    rw [← ho, ← hr]
    have hp := posM_le (keyR r) out
    obtain ⟨p, hpp⟩ : ∃ p, p = posM (keyR r) out := ⟨_, rfl⟩
    have hs : sameM (keyR r) out = (decide (p < out.length) && (out.getD p recTy.zero).2.2.1 == r.2.2.1) := by rw [hpp]; rfl
    have hk : posM r.2.2.1 out = p := hpp.symm
    rw [← hpp] at ih hp
    rw [hk]
    have ev : (bif decide ((p : Int) < (out.length : Int)) then bif decide ((0 : Int) ≤ (p : Int)) && decide ((p : Int) < (out.length : Int)) then some ((out.getD p recTy.zero).2.2.1 == r.2.2.1) else none else some false) = some (sameM (keyR r) out) := by
      rw [hs]
      by_cases h : p < out.length
      · rw [cond_pos (Int.ofNat_lt.2 h), cond_pos2 (Int.natCast_nonneg _) (Int.ofNat_lt.2 h), decide_eq_true h, Bool.true_and]
      · rw [cond_neg (fun g => h (Int.ofNat_lt.1 g)), decide_eq_false h, Bool.false_and]
    rw [ev, Option.bind_some]
    have t1 : (List.take p out).length = p := by simp; omega
    have t2 : ∀ k, List.take (out.length - k) (List.drop k out) = List.drop k out := fun k => List.take_of_length_le (by simp)
    have t3 : ∀ k, (List.drop k out).length ≤ out.length := fun k => by simp
    have e2 : IntKind.i64.wrap ((p : Int) + 1) = ((p + 1 : Nat) : Int) := by rw [wrap64 (by omega) (by omega)]; omega
    have q1 := t3 (p + 1)
    have q2 := t3 p
    have hd : deadR r = r.2.2.2.2 := rfl
    unfold aliveM at ih
    rw [hd] at ih
    cases hv : sameM (keyR r) out with
    | true =>
      have hlt : p < out.length := by rw [hs, Bool.and_eq_true] at hv; exact of_decide_eq_true hv.1
      rw [hv, cond_true] at ih
      rw [cond_true, cond_pos2 (by omega) (by omega), t1, cond_pos (by omega), e2, Int.toNat_natCast, t2]
      cases hdd : r.2.2.2.2 with
      | true =>
        rw [hdd, cond_true, List.append_nil] at ih
        rw [Bool.not_true, cond_false, cond_pos2 (by omega) (by omega), cond_pos (by rw [List.length_append]; omega)]
        exact ih
      | false =>
        rw [hdd, cond_false] at ih
        rw [Bool.not_false, cond_true, cond_pos (by simp only [List.length_append, List.length_cons, List.length_nil]; omega), cond_pos2 (by omega) (by omega), cond_pos (by simp only [List.length_append, List.length_cons, List.length_nil]; omega)]
        exact ih
    | false =>
      rw [hv, cond_false] at ih
      rw [cond_false, cond_pos2 (by omega) (by omega), t1, cond_pos (by omega), t2]
      cases hdd : r.2.2.2.2 with
      | true =>
        rw [hdd, cond_true, List.append_nil] at ih
        rw [Bool.not_true, cond_false, cond_pos2 (by omega) (by omega), cond_pos (by rw [List.length_append]; omega)]
        exact ih
      | false =>
        rw [hdd, cond_false] at ih
        rw [Bool.not_false, cond_true, cond_pos (by simp only [List.length_append, List.length_cons, List.length_nil]; omega), cond_pos2 (by omega) (by omega), cond_pos (by simp only [List.length_append, List.length_cons, List.length_nil]; omega)]
        exact ih
abbrev mp3LC : LoopC := LoopC.of ⟨[(0, .vl recT), (3, .lit (.hw 0)), (4, .int .i64)], [.arr 5 recT []]⟩ (fun ⟨⟨l, _, i, _⟩, ⟨⟨out, _⟩, _⟩⟩ => decide (i = (0 : Int)) && List.isEmpty out && decide (List.length l ≤ 1000000))
  fun ⟨⟨l, _, i, _⟩, ⟨⟨out, _⟩, _⟩⟩ => [(true, .exit 0, mp3St l (List.length l))]
theorem mp3_lok : LoopOK P0 H.cooperageref10_Map 0 L.cooperageref10_Map_3 mp3LC :=
  loop_ok_of (env_ok env_nilK) glob0 mixed0 (loops_good (tab := [(7, mp7LC)]) (by kernel_rfl) (fun x hx => by simp at hx; subst hx; exact mp7_lok)) V.cooperageref10_Map_3 (by decide) fun ⟨⟨l, _, i, _⟩, ⟨⟨out, _⟩, _⟩⟩ h hw => by
    simp only [Bool.and_eq_true, decide_eq_true_eq] at h
    obtain ⟨⟨rfl, h2⟩, h3⟩ := h
    obtain rfl : out = [] := List.isEmpty_iff.1 h2
    exact ⟨_, mp3_rounds l h3 _ (List.length l) 0 (Nat.zero_add _)⟩
theorem map_ev (l : List Rec) : evFn (env []) H.cooperageref10_Map (LPof [(3, mp3LC), (7, mp7LC)]) F.cooperageref10_Map [.vl recT l] [] (finT [.sl recT]) = bif decide (l.length ≤ 1000000) && true then some (mapM (List.take l.length l), ()) else none := by kernel_rfl

def caseMap : PCase := ⟨[.ty (.sl recT)], [.sl recT], fun x => [(decide (List.length x.1 ≤ 1000000), (mapM x.1, ()))]⟩
theorem map_ok : caseMap.ok P0 I.cooperageref10_Map := case_ok2 (H := H.cooperageref10_Map) (E := env []) (env_ok env_nilK) glob0 mixed0 G.cooperageref10_Map Bd.cooperageref10_Map (by kernel_rfl) (loops_good (tab := [(3, mp3LC), (7, mp7LC)]) (by kernel_rfl) (fun x hx => by simp at hx; rcases hx with rfl | rfl; exact mp3_lok; exact mp7_lok)) fun ⟨l, ()⟩ y h hw => by
  obtain ⟨hc, rfl⟩ := pick_pre h
  have hc : decide (List.length l ≤ 1000000) = true := hc
  refine (map_ev l).trans ?_
  rw [hc]
  simp only [Bool.and_self, cond_true, List.take_length]
  rfl
def bigA (l : List ractT.den) (i : Nat) : Bool := big8B (l.getD i ractT.zero).2.2.2.2.1 || decide (((l.getD i ractT.zero).2.2.2.2.1.length : Int) > 12)
def totA (l : List ractT.den) : Nat → Int
  | 0 => 0
  | i + 1 => IntKind.i64.wrap (totA l i + ((l.getD i ractT.zero).2.2.2.2.1.length : Int))
def bgaSt (l : List ractT.den) (q : Bool) (i : Nat) : St := ⟨[(0, .vl ractT l), (2, .bool q), (3, .int .i64 (totA l i)), (4, .int .i64 i)], [], 0⟩
abbrev bgaLC : LoopC := LoopC.of ⟨[(0, .vl ractT), (2, .bool), (3, .int .i64), (4, .int .i64)], []⟩ (fun ⟨⟨l, q, n, i, _⟩, _⟩ => decide (n = (0 : Int)) && decide (i = (0 : Int)))
  fun ⟨⟨l, q, n, i, _⟩, _⟩ => [((firstFrom (bigA l) 0 (List.length l)).isSome, .ret, bgaSt l true ((firstFrom (bigA l) 0 (List.length l)).getD 0)), (true, .exit 0, bgaSt l q (List.length l))]
theorem bga_lok : LoopOK P0 H.cooperagelaw15_Big 0 L.cooperagelaw15_Big_3 bgaLC :=
  loop_ok_of (env_ok consV1_ok) glob0 mixed0 noLoops V.cooperagelaw15_Big_3 (by decide) fun ⟨⟨l, q, n, i, _⟩, _⟩ h hw => by
    simp only [Bool.and_eq_true, decide_eq_true_eq] at h
    obtain ⟨rfl, rfl⟩ := h
    have hm : List.length l ≤ maxL := hw.1.1.1
    unfold maxL at hm
    refine ⟨_, Eq.trans (search_rounds (S := bgaSt l q) (T := bgaSt l true) (p := bigA l) (n := List.length l) (e1 := .ret) (e2 := .exit 0) (s2 := bgaSt l q (List.length l)) (by simp) (by simp) (fun i hi K => ?_) (fun K => ?_) _ (List.length l) 0 (by omega)) search_pick⟩
    · refine (bga_rd _ _ _ _ _).trans ?_
      have e1 : IntKind.i64.wrap ((i : Int) + 1) = ((i + 1 : Nat) : Int) := by rw [wrap64 (by omega) (by omega)]; omega
      have e5 : ∀ (a b : Bool), (bif a then some true else some b) = some (a || b) := fun a b => by cases a <;> rfl
      rw [cond_pos (by omega), cond_pos2 (by omega) (by omega), cond_pos2 (by omega) (by omega), Int.toNat_natCast, e5, Option.bind_some, e1, cond_pos2 (by omega) (by omega)]
      rfl
    · refine (bga_rd _ _ _ _ _).trans ?_
      rw [cond_neg (by omega)]
      rfl
theorem bga_ev (l : List ractT.den) : evFn (env consV1) H.cooperagelaw15_Big (LPof [(3, bgaLC)]) F.cooperagelaw15_Big [.vl ractT l] [] (finT [.bool]) = bif (firstFrom (bigA l) 0 l.length).isSome then some (true, ()) else Option.bind (bif decide ((↑l.length : Int) > (40 : Int)) then some true else some (decide (totA l l.length > (80 : Int)))) fun v => some (v, ()) := by kernel_rfl

def bigAct (l : List ractT.den) : Bool := (firstFrom (bigA l) 0 (List.length l)).isSome || (decide ((l.length : Int) > 40) || decide (totA l l.length > 80))
def caseBigA : PCase := ⟨[.ty (.sl ractT)], [.bool], fun x => [(true, (bigAct x.1, ()))]⟩
theorem biga_ok : caseBigA.ok P0 I.cooperagelaw15_Big := case_ok2 (H := H.cooperagelaw15_Big) (E := env consV1) (env_ok consV1_ok) glob0 mixed0 G.cooperagelaw15_Big Bd.cooperagelaw15_Big (by kernel_rfl) (loops_good (tab := [(3, bgaLC)]) (by kernel_rfl) (fun x hx => by simp at hx; subst hx; exact bga_lok)) fun ⟨l, ()⟩ y h hw => by
  obtain ⟨hc, rfl⟩ := pick_pre h
  refine (bga_ev l).trans ?_
  unfold bigAct
  cases (firstFrom (bigA l) 0 (List.length l)).isSome <;> cases decide ((l.length : Int) > 40) <;> cases decide (totA l l.length > 80) <;> rfl
end Go.Sim
namespace Go.Sim
set_option linter.unusedSimpArgs false
set_option linter.unusedVariables false
set_option maxRecDepth 10000
abbrev rsegT : Ty := .pair (.int .i64) (.pair (.int .i64) (.pair (.int .i64) (.pair (.int .i64) (.pair .raw (.pair .bool (.pair .bool (.pair .bool (.pair (.int .i64) (.int .u32)))))))))
abbrev RSeg := Int × Int × Int × Int × Value × Bool × Bool × Bool × Int × Int
abbrev envR (cons : List (FuncId × Con)) : Env := mkEnv rows0 ((33, rsegT) :: tys0) cons globs0
theorem allR : allB P0 rows0 ((33, rsegT) :: tys0) = true := by kernel_rfl
theorem envR_ok {cons : List (FuncId × Con)} (hc : ∀ x ∈ cons, HoldsC P0 x.1 x.2) : EnvOK P0 (envR cons) := mkEnv_ok allR hc
theorem globR {cons : List (FuncId × Con)} : GlobOK P0 (envR cons) := .none rfl
def H.repl2 : Hint := { H.slices_Replace_api_Segment_api_Segment with vs := [] }
theorem repl_ev (xs : List RSeg) (y : RSeg) (c : Nat) (i j : Int) : evFn (envR []) H.repl2 (LPof []) F.slices_Replace_api_Segment_api_Segment [.hc 0 0 xs.length c, .int .i64 i, .int .i64 j, .hw 1] [.arr 10 rsegT xs [], .arr 10 rsegT [y] []] (finK 2) = bif decide ((0 : Int) ≤ j) && decide (j ≤ (↑xs.length : Int)) then bif decide ((0 : Int) ≤ i) && decide (i ≤ j) then bif i == j then none else bif j == (↑xs.length : Int) then bif decide ((0 : Int) ≤ i) && decide (i ≤ (↑xs.length : Int)) then bif decide ((List.take i.toNat xs ++ [y]).length * 80 ≤ 140737488355328) then bif decide ((↑(List.take i.toNat xs ++ [y]).length : Int) < (↑xs.length : Int)) then none else some (AV.hw 2, [AObj.dead, AObj.arr 10 ((Ty.int IntKind.i64).pair ((Ty.int IntKind.i64).pair ((Ty.int IntKind.i64).pair ((Ty.int IntKind.i64).pair (Ty.raw.pair (Ty.bool.pair (Ty.bool.pair (Ty.bool.pair ((Ty.int IntKind.i64).pair (Ty.int IntKind.u32)))))))))) [y] [], AObj.arr 10 ((Ty.int IntKind.i64).pair ((Ty.int IntKind.i64).pair ((Ty.int IntKind.i64).pair ((Ty.int IntKind.i64).pair (Ty.raw.pair (Ty.bool.pair (Ty.bool.pair (Ty.bool.pair ((Ty.int IntKind.i64).pair (Ty.int IntKind.u32)))))))))) (List.take i.toNat xs ++ [y]) []]) else none else bif decide (i = (↑xs.length : Int) + (1 : Int)) && decide (xs.length + 1 ≤ c) && decide (0 + xs.length = xs.length) && decide (xs.length < 9223372036854775807) && true then none else none else bif decide ((0 : Int) ≤ i) && decide (i ≤ (↑xs.length : Int)) then bif decide ((0 : Int) ≤ j) && decide (j ≤ (↑xs.length : Int)) then bif decide (IntKind.i64.wrap (IntKind.i64.wrap ((↑i.toNat : Int) + (1 : Int)) + (↑(xs.length - j.toNat) : Int)) > (↑c : Int)) then bif decide ((0 : Int) ≤ i) && decide (i ≤ (↑xs.length : Int)) then bif decide ((0 : Int) < IntKind.i64.wrap (IntKind.i64.wrap (IntKind.i64.wrap ((↑i.toNat : Int) + (1 : Int)) + (↑(xs.length - j.toNat) : Int)) - i)) && decide (c < i.toNat + (IntKind.i64.wrap (IntKind.i64.wrap (IntKind.i64.wrap ((↑i.toNat : Int) + (1 : Int)) + (↑(xs.length - j.toNat) : Int)) - i)).toNat) && decide (0 + i.toNat ≤ xs.length) && decide ((i.toNat + (IntKind.i64.wrap (IntKind.i64.wrap (IntKind.i64.wrap ((↑i.toNat : Int) + (1 : Int)) + (↑(xs.length - j.toNat) : Int)) - i)).toNat) * 80 ≤ 140737488355328) then bif decide ((0 : Int) ≤ i) && decide (i ≤ (↑(List.take i.toNat xs ++ List.replicate (IntKind.i64.wrap (IntKind.i64.wrap (IntKind.i64.wrap ((↑i.toNat : Int) + (1 : Int)) + (↑(xs.length - j.toNat) : Int)) - i)).toNat rsegT.zero).length : Int)) then bif decide (1 ≤ (List.take i.toNat xs ++ List.replicate (IntKind.i64.wrap (IntKind.i64.wrap (IntKind.i64.wrap ((↑i.toNat : Int) + (1 : Int)) + (↑(xs.length - j.toNat) : Int)) - i)).toNat rsegT.zero).length - i.toNat) && decide (i.toNat + 1 ≤ (List.take i.toNat xs ++ List.replicate (IntKind.i64.wrap (IntKind.i64.wrap (IntKind.i64.wrap ((↑i.toNat : Int) + (1 : Int)) + (↑(xs.length - j.toNat) : Int)) - i)).toNat rsegT.zero).length) then bif decide ((0 : Int) ≤ IntKind.i64.wrap (i + (1 : Int))) && decide (IntKind.i64.wrap (i + (1 : Int)) ≤ (↑(List.take i.toNat (List.take i.toNat xs ++ List.replicate (IntKind.i64.wrap (IntKind.i64.wrap (IntKind.i64.wrap ((↑i.toNat : Int) + (1 : Int)) + (↑(xs.length - j.toNat) : Int)) - i)).toNat rsegT.zero) ++ [y] ++ List.drop (i.toNat + 1) (List.take i.toNat xs ++ List.replicate (IntKind.i64.wrap (IntKind.i64.wrap (IntKind.i64.wrap ((↑i.toNat : Int) + (1 : Int)) + (↑(xs.length - j.toNat) : Int)) - i)).toNat rsegT.zero)).length : Int)) then bif decide ((0 : Int) ≤ j) && decide (j ≤ (↑xs.length : Int)) then bif decide ((List.take (xs.length - j.toNat) (List.drop j.toNat xs)).length ≤ (List.take i.toNat (List.take i.toNat xs ++ List.replicate (IntKind.i64.wrap (IntKind.i64.wrap (IntKind.i64.wrap ((↑i.toNat : Int) + (1 : Int)) + (↑(xs.length - j.toNat) : Int)) - i)).toNat rsegT.zero) ++ [y] ++ List.drop (i.toNat + 1) (List.take i.toNat xs ++ List.replicate (IntKind.i64.wrap (IntKind.i64.wrap (IntKind.i64.wrap ((↑i.toNat : Int) + (1 : Int)) + (↑(xs.length - j.toNat) : Int)) - i)).toNat rsegT.zero)).length - (IntKind.i64.wrap (i + (1 : Int))).toNat) && decide ((IntKind.i64.wrap (i + (1 : Int))).toNat + (List.take (xs.length - j.toNat) (List.drop j.toNat xs)).length ≤ (List.take i.toNat (List.take i.toNat xs ++ List.replicate (IntKind.i64.wrap (IntKind.i64.wrap (IntKind.i64.wrap ((↑i.toNat : Int) + (1 : Int)) + (↑(xs.length - j.toNat) : Int)) - i)).toNat rsegT.zero) ++ [y] ++ List.drop (i.toNat + 1) (List.take i.toNat xs ++ List.replicate (IntKind.i64.wrap (IntKind.i64.wrap (IntKind.i64.wrap ((↑i.toNat : Int) + (1 : Int)) + (↑(xs.length - j.toNat) : Int)) - i)).toNat rsegT.zero)).length) then some (AV.hw 2, [AObj.arr 10 ((Ty.int IntKind.i64).pair ((Ty.int IntKind.i64).pair ((Ty.int IntKind.i64).pair ((Ty.int IntKind.i64).pair (Ty.raw.pair (Ty.bool.pair (Ty.bool.pair (Ty.bool.pair ((Ty.int IntKind.i64).pair (Ty.int IntKind.u32)))))))))) xs [], AObj.arr 10 ((Ty.int IntKind.i64).pair ((Ty.int IntKind.i64).pair ((Ty.int IntKind.i64).pair ((Ty.int IntKind.i64).pair (Ty.raw.pair (Ty.bool.pair (Ty.bool.pair (Ty.bool.pair ((Ty.int IntKind.i64).pair (Ty.int IntKind.u32)))))))))) [y] [], AObj.arr 10 ((Ty.int IntKind.i64).pair ((Ty.int IntKind.i64).pair ((Ty.int IntKind.i64).pair ((Ty.int IntKind.i64).pair (Ty.raw.pair (Ty.bool.pair (Ty.bool.pair (Ty.bool.pair ((Ty.int IntKind.i64).pair (Ty.int IntKind.u32)))))))))) (List.take (IntKind.i64.wrap (i + (1 : Int))).toNat (List.take i.toNat (List.take i.toNat xs ++ List.replicate (IntKind.i64.wrap (IntKind.i64.wrap (IntKind.i64.wrap ((↑i.toNat : Int) + (1 : Int)) + (↑(xs.length - j.toNat) : Int)) - i)).toNat rsegT.zero) ++ [y] ++ List.drop (i.toNat + 1) (List.take i.toNat xs ++ List.replicate (IntKind.i64.wrap (IntKind.i64.wrap (IntKind.i64.wrap ((↑i.toNat : Int) + (1 : Int)) + (↑(xs.length - j.toNat) : Int)) - i)).toNat rsegT.zero)) ++ List.take (xs.length - j.toNat) (List.drop j.toNat xs) ++ List.drop ((IntKind.i64.wrap (i + (1 : Int))).toNat + (List.take (xs.length - j.toNat) (List.drop j.toNat xs)).length) (List.take i.toNat (List.take i.toNat xs ++ List.replicate (IntKind.i64.wrap (IntKind.i64.wrap (IntKind.i64.wrap ((↑i.toNat : Int) + (1 : Int)) + (↑(xs.length - j.toNat) : Int)) - i)).toNat rsegT.zero) ++ [y] ++ List.drop (i.toNat + 1) (List.take i.toNat xs ++ List.replicate (IntKind.i64.wrap (IntKind.i64.wrap (IntKind.i64.wrap ((↑i.toNat : Int) + (1 : Int)) + (↑(xs.length - j.toNat) : Int)) - i)).toNat rsegT.zero))) []]) else none else none else none else none else none else none else bif decide (i = (↑xs.length : Int) + (1 : Int)) && decide (xs.length + 1 ≤ c) && decide (0 + xs.length = xs.length) && decide (xs.length < 9223372036854775807) && true then none else none else bif decide ((0 : Int) ≤ IntKind.i64.wrap (IntKind.i64.wrap ((↑i.toNat : Int) + (1 : Int)) + (↑(xs.length - j.toNat) : Int))) && decide (IntKind.i64.wrap (IntKind.i64.wrap ((↑i.toNat : Int) + (1 : Int)) + (↑(xs.length - j.toNat) : Int)) ≤ (↑xs.length : Int)) then bif decide (IntKind.i64.wrap (i + (1 : Int)) ≤ j) then bif decide ((0 : Int) ≤ i) && decide (i ≤ (↑(IntKind.i64.wrap (IntKind.i64.wrap ((↑i.toNat : Int) + (1 : Int)) + (↑(xs.length - j.toNat) : Int))).toNat : Int)) then bif decide (1 ≤ (IntKind.i64.wrap (IntKind.i64.wrap ((↑i.toNat : Int) + (1 : Int)) + (↑(xs.length - j.toNat) : Int))).toNat - i.toNat) && decide (i.toNat + 1 ≤ xs.length) then bif decide ((0 : Int) ≤ IntKind.i64.wrap (i + (1 : Int))) && decide (IntKind.i64.wrap (i + (1 : Int)) ≤ (↑(IntKind.i64.wrap (IntKind.i64.wrap ((↑i.toNat : Int) + (1 : Int)) + (↑(xs.length - j.toNat) : Int))).toNat : Int)) then bif decide ((0 : Int) ≤ j) && decide (j ≤ (↑xs.length : Int)) then bif decide ((List.take (xs.length - j.toNat) (List.drop j.toNat (List.take i.toNat xs ++ [y] ++ List.drop (i.toNat + 1) xs))).length ≤ (IntKind.i64.wrap (IntKind.i64.wrap ((↑i.toNat : Int) + (1 : Int)) + (↑(xs.length - j.toNat) : Int))).toNat - (IntKind.i64.wrap (i + (1 : Int))).toNat) && decide ((IntKind.i64.wrap (i + (1 : Int))).toNat + (List.take (xs.length - j.toNat) (List.drop j.toNat (List.take i.toNat xs ++ [y] ++ List.drop (i.toNat + 1) xs))).length ≤ (List.take i.toNat xs ++ [y] ++ List.drop (i.toNat + 1) xs).length) then bif decide ((0 : Int) ≤ IntKind.i64.wrap (IntKind.i64.wrap ((↑i.toNat : Int) + (1 : Int)) + (↑(xs.length - j.toNat) : Int))) && decide (IntKind.i64.wrap (IntKind.i64.wrap ((↑i.toNat : Int) + (1 : Int)) + (↑(xs.length - j.toNat) : Int)) ≤ (↑xs.length : Int)) then bif decide (xs.length - (IntKind.i64.wrap (IntKind.i64.wrap ((↑i.toNat : Int) + (1 : Int)) + (↑(xs.length - j.toNat) : Int))).toNat = 1) && decide ((IntKind.i64.wrap (IntKind.i64.wrap ((↑i.toNat : Int) + (1 : Int)) + (↑(xs.length - j.toNat) : Int))).toNat < (List.take (IntKind.i64.wrap (i + (1 : Int))).toNat (List.take i.toNat xs ++ [y] ++ List.drop (i.toNat + 1) xs) ++ List.take (xs.length - j.toNat) (List.drop j.toNat (List.take i.toNat xs ++ [y] ++ List.drop (i.toNat + 1) xs)) ++ List.drop ((IntKind.i64.wrap (i + (1 : Int))).toNat + (List.take (xs.length - j.toNat) (List.drop j.toNat (List.take i.toNat xs ++ [y] ++ List.drop (i.toNat + 1) xs))).length) (List.take i.toNat xs ++ [y] ++ List.drop (i.toNat + 1) xs)).length) then some (AV.hc 0 0 (IntKind.i64.wrap (IntKind.i64.wrap ((↑i.toNat : Int) + (1 : Int)) + (↑(xs.length - j.toNat) : Int))).toNat c, [AObj.arr 10 ((Ty.int IntKind.i64).pair ((Ty.int IntKind.i64).pair ((Ty.int IntKind.i64).pair ((Ty.int IntKind.i64).pair (Ty.raw.pair (Ty.bool.pair (Ty.bool.pair (Ty.bool.pair ((Ty.int IntKind.i64).pair (Ty.int IntKind.u32)))))))))) (List.take (IntKind.i64.wrap (IntKind.i64.wrap ((↑i.toNat : Int) + (1 : Int)) + (↑(xs.length - j.toNat) : Int))).toNat (List.take (IntKind.i64.wrap (i + (1 : Int))).toNat (List.take i.toNat xs ++ [y] ++ List.drop (i.toNat + 1) xs) ++ List.take (xs.length - j.toNat) (List.drop j.toNat (List.take i.toNat xs ++ [y] ++ List.drop (i.toNat + 1) xs)) ++ List.drop ((IntKind.i64.wrap (i + (1 : Int))).toNat + (List.take (xs.length - j.toNat) (List.drop j.toNat (List.take i.toNat xs ++ [y] ++ List.drop (i.toNat + 1) xs))).length) (List.take i.toNat xs ++ [y] ++ List.drop (i.toNat + 1) xs)) ++ [rsegT.zero] ++ List.drop ((IntKind.i64.wrap (IntKind.i64.wrap ((↑i.toNat : Int) + (1 : Int)) + (↑(xs.length - j.toNat) : Int))).toNat + 1) (List.take (IntKind.i64.wrap (i + (1 : Int))).toNat (List.take i.toNat xs ++ [y] ++ List.drop (i.toNat + 1) xs) ++ List.take (xs.length - j.toNat) (List.drop j.toNat (List.take i.toNat xs ++ [y] ++ List.drop (i.toNat + 1) xs)) ++ List.drop ((IntKind.i64.wrap (i + (1 : Int))).toNat + (List.take (xs.length - j.toNat) (List.drop j.toNat (List.take i.toNat xs ++ [y] ++ List.drop (i.toNat + 1) xs))).length) (List.take i.toNat xs ++ [y] ++ List.drop (i.toNat + 1) xs))) [], AObj.arr 10 ((Ty.int IntKind.i64).pair ((Ty.int IntKind.i64).pair ((Ty.int IntKind.i64).pair ((Ty.int IntKind.i64).pair (Ty.raw.pair (Ty.bool.pair (Ty.bool.pair (Ty.bool.pair ((Ty.int IntKind.i64).pair (Ty.int IntKind.u32)))))))))) [y] []]) else none else none else none else none else none else none else none else bif decide ((0 : Int) ≤ IntKind.i64.wrap (i + (1 : Int))) && decide (IntKind.i64.wrap (i + (1 : Int)) ≤ (↑(IntKind.i64.wrap (IntKind.i64.wrap ((↑i.toNat : Int) + (1 : Int)) + (↑(xs.length - j.toNat) : Int))).toNat : Int)) then none else none else bif decide (IntKind.i64.wrap (IntKind.i64.wrap ((↑i.toNat : Int) + (1 : Int)) + (↑(xs.length - j.toNat) : Int)) = (↑xs.length : Int) + (1 : Int)) && decide (xs.length + 1 ≤ c) && decide (0 + xs.length = xs.length) && decide (xs.length < 9223372036854775807) && true then bif decide (IntKind.i64.wrap (i + (1 : Int)) ≤ j) then bif decide ((0 : Int) ≤ i) && decide (i ≤ (↑(xs.length + 1) : Int)) then none else none else bif decide ((0 : Int) ≤ IntKind.i64.wrap (i + (1 : Int))) && decide (IntKind.i64.wrap (i + (1 : Int)) ≤ (↑(xs.length + 1) : Int)) then none else none else none else none else bif decide (i = (↑xs.length : Int) + (1 : Int)) && decide (xs.length + 1 ≤ c) && decide (0 + xs.length = xs.length) && decide (xs.length < 9223372036854775807) && true then none else none else none else none := by kernel_rfl

/-- Two elements gone for one. -/
def twoOne {α : Type} (xs : List α) (i : Nat) (y : α) : List α := xs.take i ++ [y] ++ xs.drop (i + 2)
theorem twoOne_len {α : Type} {xs : List α} {i : Nat} {y : α} (h : i + 2 ≤ xs.length) : (twoOne xs i y).length = xs.length - 1 := by
  unfold twoOne
  simp only [List.length_append, List.length_take, List.length_singleton, List.length_drop]
  omega
theorem repl_list (xs : List RSeg) (y z : RSeg) (i : Nat) (h : i + 2 < xs.length) :
    List.take (xs.length - 1) (List.take (i + 1) (List.take i xs ++ [y] ++ List.drop (i + 1) xs) ++ List.take (xs.length - (i + 2)) (List.drop (i + 2) (List.take i xs ++ [y] ++ List.drop (i + 1) xs)) ++ List.drop (i + 1 + (xs.length - (i + 2))) (List.take i xs ++ [y] ++ List.drop (i + 1) xs)) ++ [z] ++
      List.drop (xs.length - 1 + 1) (List.take (i + 1) (List.take i xs ++ [y] ++ List.drop (i + 1) xs) ++ List.take (xs.length - (i + 2)) (List.drop (i + 2) (List.take i xs ++ [y] ++ List.drop (i + 1) xs)) ++ List.drop (i + 1 + (xs.length - (i + 2))) (List.take i xs ++ [y] ++ List.drop (i + 1) xs)) = twoOne xs i y ++ [z] := by
  have hl : (List.take i xs ++ [y]).length = i + 1 := by simp; omega
  have hA : (List.take i xs ++ [y] ++ List.drop (i + 1) xs).length = xs.length := by simp; omega
  have e1 : List.take (i + 1) (List.take i xs ++ [y] ++ List.drop (i + 1) xs) = List.take i xs ++ [y] := List.take_left' hl
  have e2 : List.drop (i + 2) (List.take i xs ++ [y] ++ List.drop (i + 1) xs) = List.drop (i + 2) xs := by
    rw [show i + 2 = (List.take i xs ++ [y]).length + 1 by omega, List.drop_append, hl]
    have e0 : List.drop (i + 1 + 1) (List.take i xs ++ [y]) = [] := List.drop_eq_nil_of_le (by omega)
    rw [e0, List.nil_append, List.drop_drop, show i + 1 + (i + 1 + 1 - (i + 1)) = i + 1 + 1 by omega]
  have e3 : List.take (xs.length - (i + 2)) (List.drop (i + 2) xs) = List.drop (i + 2) xs := List.take_of_length_le (by simp)
  rw [e1, e2, e3]
  have hT : (List.take i xs ++ [y] ++ List.drop (i + 2) xs).length = xs.length - 1 := twoOne_len (y := y) (by omega)
  rw [List.take_left' hT]
  have hD : List.drop (xs.length - 1 + 1) (List.take i xs ++ [y] ++ List.drop (i + 2) xs ++ List.drop (i + 1 + (xs.length - (i + 2))) (List.take i xs ++ [y] ++ List.drop (i + 1) xs)) = [] := by
    apply List.drop_eq_nil_of_le
    rw [List.length_append, hT, List.length_drop, hA]
    omega
  rw [hD, List.append_nil]
  rfl
theorem repl_raw (xs : List RSeg) (y : RSeg) (c i : Nat) (h : i + 2 < xs.length) (hl : xs.length ≤ 1000000000) (hc : xs.length ≤ c) :
    EffGood P0 I.slices_Replace_api_Segment_api_Segment [.hc 0 0 xs.length c, .int .i64 i, .int .i64 ((i + 2 : Nat) : Int), .hw 1] [.arr 10 rsegT xs [], .arr 10 rsegT [y] []] (.hc 0 0 (xs.length - 1) c) [.arr 10 rsegT (twoOne xs i y ++ [rsegT.zero]) [], .arr 10 rsegT [y] []] := by
  refine evFn_sound (H := H.repl2) (E := envR []) (envR_ok env_nil) globR mixed0 G.slices_Replace_api_Segment_api_Segment (by kernel_rfl) Bd.slices_Replace_api_Segment_api_Segment (LP := LPof []) noLoops ?_
  refine (repl_ev xs y c i ((i + 2 : Nat) : Int)).trans ?_
  have w1 : IntKind.i64.wrap ((i : Int) + 1) = ((i + 1 : Nat) : Int) := by rw [wrap64 (by omega) (by omega)]; omega
  have t2 : (((i + 2 : Nat) : Int)).toNat = i + 2 := Int.toNat_natCast _
  have w2 : IntKind.i64.wrap (((i + 1 : Nat) : Int) + ((xs.length - (i + 2) : Nat) : Int)) = ((xs.length - 1 : Nat) : Int) := by rw [wrap64 (by omega) (by omega)]; omega
  have e1 : ((i : Int) == ((i + 2 : Nat) : Int)) = false := by simp; omega
  have e2 : (((i + 2 : Nat) : Int) == (xs.length : Int)) = false := by simp; omega
  have e3 : decide (((xs.length - 1 : Nat) : Int) > (c : Int)) = false := decide_eq_false (by omega)
  have lA : (List.take i xs ++ [y] ++ List.drop (i + 1) xs).length = xs.length := by simp; omega
  have lB : (List.take (xs.length - (i + 2)) (List.drop (i + 2) (List.take i xs ++ [y] ++ List.drop (i + 1) xs))).length = xs.length - (i + 2) := by rw [List.length_take, List.length_drop, lA]; omega
  have lC : (List.take (i + 1) (List.take i xs ++ [y] ++ List.drop (i + 1) xs) ++ List.take (xs.length - (i + 2)) (List.drop (i + 2) (List.take i xs ++ [y] ++ List.drop (i + 1) xs)) ++ List.drop (i + 1 + (xs.length - (i + 2))) (List.take i xs ++ [y] ++ List.drop (i + 1) xs)).length = xs.length := by
    rw [List.length_append, List.length_append, lB, List.length_take, List.length_drop, lA]; omega
  simp only [Int.toNat_natCast, w1, w2, e1, e2, e3, cond_false, lA, lB, lC]
  rw [cond_pos2 (by omega) (by omega), cond_pos2 (by omega) (by omega), cond_pos2 (by omega) (by omega), cond_pos2 (by omega) (by omega)]
  rw [cond_pos2 (by omega) (by omega), cond_pos (by omega), cond_pos2 (by omega) (by omega), cond_pos2 (by omega) (by omega), cond_pos2 (by omega) (by omega), cond_pos2 (by omega) (by omega), cond_pos2 (by omega) (by omega), cond_pos2 (by omega) (by omega), cond_pos2 (by omega) (by omega), repl_list xs y rsegT.zero i h]
end Go.Sim
namespace Go.Sim
set_option linter.unusedSimpArgs false
set_option linter.unusedVariables false
set_option maxRecDepth 10000
def rcells (r : RSeg) : List Value := [.int .i64 r.1, .int .i64 r.2.1, .int .i64 r.2.2.1, .int .i64 r.2.2.2.1, r.2.2.2.2.1, .bool r.2.2.2.2.2.1, .bool r.2.2.2.2.2.2.1, .bool r.2.2.2.2.2.2.2.1, .int .i64 r.2.2.2.2.2.2.2.2.1, .int .u32 r.2.2.2.2.2.2.2.2.2]
theorem rseg_cells {φ : Nat → Nat} {w : World} {r : RSeg} {ds : List Value} (h : Vt φ w rsegT r ds) : ds = rcells r := by
  simp only [Vt] at h
  obtain ⟨_, _, rfl, ⟨rfl, _⟩, _, _, rfl, ⟨rfl, _⟩, _, _, rfl, ⟨rfl, _⟩, _, _, rfl, ⟨rfl, _⟩, _, _, rfl, ⟨rfl, _⟩, _, _, rfl, rfl, _, _, rfl, rfl, _, _, rfl, rfl, _, _, rfl, ⟨rfl, _⟩, rfl, _⟩ := h
  rfl
theorem rseg_told {φ : Nat → Nat} {w : World} {r : RSeg} (h1 : In .i64 r.1) (h2 : In .i64 r.2.1) (h3 : In .i64 r.2.2.1) (h4 : In .i64 r.2.2.2.1) (h5 : r.2.2.2.2.1.oneCell' = true) (h6 : In .i64 r.2.2.2.2.2.2.2.2.1) (h7 : In .u32 r.2.2.2.2.2.2.2.2.2) : Vt φ w rsegT r (rcells r) := by
  simp only [Vt]
  exact ⟨[_], _, rfl, ⟨rfl, h1⟩, [_], _, rfl, ⟨rfl, h2⟩, [_], _, rfl, ⟨rfl, h3⟩, [_], _, rfl, ⟨rfl, h4⟩, [_], _, rfl, ⟨rfl, h5⟩, [_], _, rfl, rfl, [_], _, rfl, rfl, [_], _, rfl, rfl, [_], _, rfl, ⟨rfl, h6⟩, rfl, h7⟩
theorem rseg_of_seg {φ : Nat → Nat} {w : World} {g : Seg} {ds : List Value} (h : Vt φ w segT g ds) : ∃ r : RSeg, Vt φ w rsegT r ds := by
  obtain ⟨b, n, t, e, l, s, c, m, z, u⟩ := g
  simp only [Vt] at h
  obtain ⟨_, _, rfl, ⟨rfl, h1⟩, _, _, rfl, ⟨rfl, h2⟩, _, _, rfl, ⟨rfl, h3⟩, _, _, rfl, ⟨rfl, h4⟩, _, _, rfl, ⟨_, A, cap, rfl, _⟩, _, _, rfl, rfl, _, _, rfl, rfl, _, _, rfl, rfl, _, _, rfl, ⟨rfl, h6⟩, rfl, h7⟩ := h
  exact ⟨(b, n, t, e, .slice A l.length cap, s, c, m, z, u), rseg_told h1 h2 h3 h4 rfl h6 h7⟩
theorem hw_slice {φ : Nat → Nat} {β : Beta} {w : World} {l : Nat} {v : Value} (h : V φ β w (.hw l) v) : ∃ A n c, v = .slice A n c := by
  simp only [V] at h
  split at h
  · obtain ⟨cap, rfl, _⟩ := h
    exact ⟨_, _, _, rfl⟩
  · obtain ⟨A, rfl⟩ := h
    exact ⟨_, _, _, rfl⟩
  · exact h.elim
theorem rseg_of_act {φ : Nat → Nat} {β : Beta} {w : World} {b n z : Int} {ds : List Value} (h : VL φ β w (actR b n z) ds) : ∃ r : RSeg, Vt φ w rsegT r ds := by
  simp only [VL] at h
  obtain ⟨_, _, rfl, h1, _, _, rfl, h2, _, _, rfl, h3, _, _, rfl, h4, u, _, rfl, h5, _, _, rfl, h6, _, _, rfl, h7, _, _, rfl, h8, _, _, rfl, h9, _, _, rfl, h10, rfl⟩ := h
  obtain ⟨A, m, c, rfl⟩ := hw_slice h5
  simp only [V] at h1 h2 h3 h4 h6 h7 h8 h9 h10
  obtain ⟨rfl, h1⟩ := h1
  obtain ⟨rfl, h2⟩ := h2
  obtain ⟨rfl, h3⟩ := h3
  obtain ⟨rfl, h4⟩ := h4
  obtain ⟨rfl, h9⟩ := h9
  obtain ⟨rfl, h10⟩ := h10
  subst h6 h7 h8
  exact ⟨(b, n, 0, 0, .slice A m c, false, false, false, z, 0), rseg_told h1 h2 h3 h4 rfl h9 h10⟩
theorem seg_of_cells {φ : Nat → Nat} {β : Beta} {w : World} {g : Seg} {ds : List Value} (h : VL φ β w (enc segT g) ds) : Vt φ w segT g ds := by
  obtain ⟨b, n, t, e, l, s, c, m, z, u⟩ := g
  simp only [enc, List.append_nil, List.cons_append, List.nil_append, VL] at h
  obtain ⟨_, _, rfl, h1, _, _, rfl, h2, _, _, rfl, h3, _, _, rfl, h4, _, _, rfl, h5, _, _, rfl, h6, _, _, rfl, h7, _, _, rfl, h8, _, _, rfl, h9, _, _, rfl, h10, rfl⟩ := h
  simp only [V] at h1 h2 h3 h4 h5 h6 h7 h8 h9 h10
  obtain ⟨rfl, h1⟩ := h1
  obtain ⟨rfl, h2⟩ := h2
  obtain ⟨rfl, h3⟩ := h3
  obtain ⟨rfl, h4⟩ := h4
  obtain ⟨rfl, h9⟩ := h9
  obtain ⟨rfl, h10⟩ := h10
  subst h6 h7 h8
  rw [Vt] 
  refine ⟨[_], _, rfl, ⟨rfl, h1⟩, ?_⟩
  rw [Vt]
  refine ⟨[_], _, rfl, ⟨rfl, h2⟩, ?_⟩
  rw [Vt]
  refine ⟨[_], _, rfl, ⟨rfl, h3⟩, ?_⟩
  rw [Vt]
  refine ⟨[_], _, rfl, ⟨rfl, h4⟩, ?_⟩
  rw [Vt]
  refine ⟨[_], _, rfl, h5, ?_⟩
  simp only [Vt]
  exact ⟨[_], _, rfl, rfl, [_], _, rfl, rfl, [_], _, rfl, rfl, [_], _, rfl, ⟨rfl, h9⟩, rfl, h10⟩
theorem ex_list {α : Type} {Q : Nat → α → Prop} : ∀ (n : Nat), (∀ k, k < n → ∃ r, Q k r) → ∃ xs : List α, xs.length = n ∧ ∀ k x, xs[k]? = some x → Q k x
  | 0, _ => ⟨[], rfl, fun k x h => by simp at h⟩
  | n + 1, h => by
    obtain ⟨xs, h1, h2⟩ := ex_list n fun k hk => h k (by omega)
    obtain ⟨r, hr⟩ := h n (by omega)
    refine ⟨xs ++ [r], by simp [h1], fun k x hk => ?_⟩
    rw [List.getElem?_append] at hk
    split at hk
    · exact h2 k x hk
    · rename_i hlt
      have hk0 : k - xs.length = 0 := by
        rcases Nat.eq_zero_or_pos (k - xs.length) with h0 | h0
        · exact h0
        · rw [List.getElem?_eq_none (by simp; omega)] at hk
          cases hk
      rw [hk0] at hk
      simp at hk
      subst hk
      obtain rfl : k = n := by omega
      exact hr
theorem twoOne_get {α : Type} {xs : List α} {i : Nat} {y : α} (h : i + 2 ≤ xs.length) (k : Nat) : (twoOne xs i y)[k]? = if k < i then xs[k]? else if k = i then some y else xs[k + 1]? := by
  have h1 : (List.take i xs).length = i := by simp; omega
  have h2 : (List.take i xs ++ [y]).length = i + 1 := by simp; omega
  unfold twoOne
  by_cases a : k < i
  · rw [if_pos a, List.append_assoc, List.getElem?_append_left (by omega), List.getElem?_take, if_pos a]
  · rw [if_neg a]
    by_cases b : k = i
    · rw [if_pos b, List.getElem?_append_left (by omega), List.getElem?_append_right (by omega), h1, b, Nat.sub_self]; rfl
    · rw [if_neg b, List.getElem?_append_right (by omega), h2, List.getElem?_drop]
      congr 1
      omega
theorem repl_eff (f : List Seg) (b n z : Int) (rs : List Rec) (g : Seg) (i : Nat) (hi : i + 2 ≤ f.length) (hl : f.length < 1000000000) :
    EffGood P0 I.slices_Replace_api_Segment_api_Segment [.hw 0, .int .i64 i, .int .i64 ((i + 2 : Nat) : Int), .hw 2] [.arr 10 segT f [actR b n z], .log recT rs, .arr 10 .bool [] [enc segT g]] (.hw 3) [.dead, .log recT rs, .dead, .arr 10 segT (twoOne f i g) [actR b n z]] := fun own φ β w vs hV hW ht => by
  have r0 := hW.rel 0
  have r1 := hW.rel 1
  have r2 := hW.rel 2
  simp only [List.getElem?_cons_zero, List.getElem?_cons_succ, Option.getD_some] at r0 r1 r2
  simp only [VL] at hV
  obtain ⟨v0, _, rfl, a0, v1, _, rfl, a1, v2, _, rfl, a2, v3, _, rfl, a3, rfl⟩ := hV
  rcases h0 : β 0 with _ | (_ | p)
  · simp only [ObjRel, h0] at r0
  · simp only [ObjRel, h0] at r0
    simp at r0
  rcases h2 : β 2 with _ | (_ | q)
  · simp only [ObjRel, h2] at r2
  · simp only [ObjRel, h2] at r2
    simp at r2
  simp only [ObjRel, h0] at r0
  simp only [ObjRel, h2] at r2
  obtain ⟨p1, p2, p3, p4, p5, p6, p7, p8, p9, p10⟩ := r0
  obtain ⟨q1, q2, q3, q4, q5, q6, q7, q8, q9, q10⟩ := r2
  simp only [List.length_singleton, List.length_nil, Nat.zero_add] at p3 q2 q3
  -- the cells
  obtain ⟨xs, x1, x2⟩ := ex_list (Q := fun k r => Vt φ w rsegT r (rcells r) ∧ CellsAt w p.block (p.off + k * 10) (rcells r) ∧ (∀ x, f[k]? = some x → Vt φ w segT x (rcells r)) ∧ (k = f.length → VL φ β w (actR b n z) (rcells r))) (f.length + 1) fun k hk => by
    by_cases hkf : k < f.length
    · obtain ⟨ds, d1, d2⟩ := p9 k _ (List.getElem?_eq_getElem hkf)
      obtain ⟨r, hr⟩ := rseg_of_seg d1
      have e := rseg_cells hr
      subst e
      exact ⟨r, hr, d2, fun x hx => by rw [List.getElem?_eq_getElem hkf] at hx; cases hx; exact d1, fun e => by omega⟩
    · obtain rfl : k = f.length := by omega
      obtain ⟨_, ds, d1, d2⟩ := p10 0 _ rfl
      obtain ⟨r, hr⟩ := rseg_of_act d1
      have e := rseg_cells hr
      subst e
      exact ⟨r, hr, d2, fun x hx => by simp at hx, fun _ => d1⟩
  obtain ⟨y, y1, y2, y3⟩ : ∃ r, Vt φ w rsegT r (rcells r) ∧ CellsAt w q.block (q.off + 0 * 10) (rcells r) ∧ Vt φ w segT g (rcells r) := by
    obtain ⟨_, ds, d1, d2⟩ := q10 0 _ rfl
    have d3 := seg_of_cells d1
    obtain ⟨r, hr⟩ := rseg_of_seg d3
    have e := rseg_cells hr
    subst e
    exact ⟨r, hr, d2, d3⟩
  have hd02 : p.block ≠ q.block := hW.dist 0 2 p q (by decide) (by simp) (by simp) h0 h2
  have m0 := hW.mine 0 p (by simp) h0
  have m2 := hW.mine 2 q (by simp) h2
  simp only [V, h0] at a0
  obtain ⟨cap, rfl, c1, c2, c3⟩ := a0
  simp only [V] at a1 a2
  simp only [V, h2] at a3
  obtain ⟨cap2, rfl, c4, c5, c6⟩ := a3
  have m1 : ∀ l, β 1 = some (some l) → l.block < w.heap.size := fun l hl => (hW.mine 1 l (by simp) hl).2
  obtain ⟨β1, hβ⟩ : ∃ β1 : Beta, β1 = fun l => if l = 0 then some (some ⟨p.block, p.off, 10, f.length + 1, f.length + 1⟩) else if l = 1 then some (some ⟨q.block, q.off, 10, 1, 1⟩) else none := ⟨_, rfl⟩
  have b0 : β1 0 = some (some ⟨p.block, p.off, 10, f.length + 1, f.length + 1⟩) := by rw [hβ]; rfl
  have b1 : β1 1 = some (some ⟨q.block, q.off, 10, 1, 1⟩) := by rw [hβ]; rfl
  have b2 : ∀ l, 2 ≤ l → β1 l = none := fun l hl => by rw [hβ]; show (if l = 0 then _ else if l = 1 then _ else none) = none; rw [if_neg (by omega), if_neg (by omega)]
  have hrun := repl_raw xs y cap i (by omega) (by omega) (by omega) (fun k => own k ∧ ∀ l, β 1 = some (some l) → k ≠ l.block) φ β1 w
    [.slice (some ⟨p.block, p.off, none⟩) p.len cap, v1, v2, .slice (some ⟨q.block, q.off, none⟩) q.len cap2] ?_ ?_ b2
  · refine hrun.mono fun e w' ⟨v, φ', β', he, hr, hVr, hWI, htop⟩ => ?_
    have e0 : β' 0 = some (some ⟨p.block, p.off, 10, f.length + 1, f.length + 1⟩) := (hr.agree 0 (by simp)).trans b0
    obtain ⟨β2, hβ2⟩ : ∃ β2 : Beta, β2 = fun l => if l < 3 then β l else if l = 3 then some (some ⟨p.block, p.off, 10, f.length - 1, f.length⟩) else none := ⟨_, rfl⟩
    have g0 : ∀ l, l < 3 → β2 l = β l := fun l hl => by rw [hβ2]; show (if l < 3 then _ else _) = _; rw [if_pos hl]
    have g3 : β2 3 = some (some ⟨p.block, p.off, 10, f.length - 1, f.length⟩) := by rw [hβ2]; rfl
    have g4 : ∀ l, 4 ≤ l → β2 l = none := fun l hl => by rw [hβ2]; show (if l < 3 then _ else if l = 3 then _ else none) = none; rw [if_neg (by omega), if_neg (by omega)]
    have hx : Ext β β2 := fun l x hl => by
      by_cases h : l < 3
      · rw [g0 l h]; exact hl
      · rw [ht l (by simp; omega)] at hl; cases hl
    have hold : ∀ l, β 1 = some (some l) → w'.heap[l.block]? = w.heap[l.block]? ∧ φ' l.block = φ l.block := fun l hl => hr.old _ (m1 l hl) fun h => h.2 l hl rfl
    have R0 := hWI.rel 0
    simp only [List.getElem?_cons_zero, Option.getD_some, ObjRel, e0] at R0
    obtain ⟨-, -, -, -, -, s6, s7, s8, s9, -⟩ := R0
    have tl : (twoOne f i g).length = f.length - 1 := twoOne_len (by omega)
    have tx : (twoOne xs i y).length = f.length := by rw [twoOne_len (by omega), x1]; rfl
    have cell : ∀ k r, (twoOne xs i y)[k]? = some r → CellsAt w' p.block (p.off + k * 10) (rcells r) := fun k r hk => by
      have hlt : k < (twoOne xs i y).length := (List.getElem?_eq_some_iff.1 hk).1
      obtain ⟨ds, d1, d2⟩ := s9 k r (by rw [List.getElem?_append_left hlt]; exact hk)
      rw [rseg_cells d1] at d2
      exact d2
    refine ⟨v, φ', β2, he, ⟨hr.keeps, fun l hl => g0 l (by simpa using hl), hr.grow, fun c hc ho => hr.old c hc fun h => ho h.1⟩, ?_, ?_, fun l hl => g4 l (by simpa using hl)⟩
    · simp only [V, e0] at hVr
      obtain ⟨k1, k2, A, rfl, k3, k4⟩ := hVr
      obtain ⟨rfl, k5⟩ := k4 (by omega)
      simp only [V, g3]
      refine ⟨cap, ?_, by omega, k2, by simpa using k5⟩
      simp [x1]
    · refine ⟨fun l => ?_, fun l u hl hu => ?_, fun l m u u' hlm hl hm hu hu' => ?_, fun c hc => ⟨(hWI.fresh c hc).1.1, (hWI.fresh c hc).2⟩, hWI.laid⟩
      · match l with
        | 0 => simp [ObjRel]
        | 1 => exact ObjRel.keep hr.keeps hx hold r1
        | 2 => simp [ObjRel]
        | 3 =>
          simp only [List.getElem?_cons_zero, List.getElem?_cons_succ, Option.getD_some, ObjRel, g3]
          refine ⟨trivial, tl.symm, by rw [tl]; simp; omega, by rw [p3] at p4; omega, fun _ => rfl, s6, s7, ?_, fun k x hk => ?_, fun k e hk => ?_⟩
          · obtain ⟨c, t, fr, u1, u2⟩ := s8
            exact ⟨c, t, fr, u1, by omega⟩
          · rw [twoOne_get hi] at hk
            by_cases a : k < i
            · rw [if_pos a] at hk
              have hkx : k < xs.length := by omega
              have h3 := cell k _ (by rw [twoOne_get (by omega), if_pos a]; exact List.getElem?_eq_getElem hkx)
              exact ⟨_, Vt.keep hr.keeps _ _ _ ((x2 k _ (List.getElem?_eq_getElem hkx)).2.2.1 x hk), h3⟩
            · rw [if_neg a] at hk
              by_cases b : k = i
              · rw [if_pos b] at hk
                cases hk
                have h3 := cell k y (by rw [twoOne_get (by omega), if_neg a, if_pos b])
                exact ⟨_, Vt.keep hr.keeps _ _ _ y3, h3⟩
              · rw [if_neg b] at hk
                have hkf : k + 1 < f.length := (List.getElem?_eq_some_iff.1 hk).1
                have hkx : k + 1 < xs.length := by omega
                have h3 := cell k _ (by rw [twoOne_get (by omega), if_neg a, if_neg b]; exact List.getElem?_eq_getElem hkx)
                exact ⟨_, Vt.keep hr.keeps _ _ _ ((x2 (k + 1) _ (List.getElem?_eq_getElem hkx)).2.2.1 x hk), h3⟩
          · match k, hk with
            | 0, hk =>
              simp at hk
              subst hk
              have hkx : f.length < xs.length := by omega
              have h3 := cell (f.length - 1) _ (by rw [twoOne_get (by omega), if_neg (by omega), if_neg (by omega), show f.length - 1 + 1 = f.length by omega]; exact List.getElem?_eq_getElem hkx)
              refine ⟨rfl, _, VL.keep hr.keeps hx _ _ ((x2 f.length _ (List.getElem?_eq_getElem hkx)).2.2.2 rfl), ?_⟩
              rw [tl]
              exact h3
        | l + 4 => simp [ObjRel]
      · match l, hl, hu with
        | 0, hl, _ => exact absurd (by simp) hl
        | 1, _, hu =>
          rw [g0 1 (by decide)] at hu
          have := hW.mine 1 u (by simp) hu
          exact ⟨this.1, Nat.lt_of_lt_of_le this.2 hr.grow⟩
        | 2, hl, _ => exact absurd (by simp) hl
        | 3, _, hu =>
          rw [g3] at hu
          cases hu
          exact ⟨m0.1, Nat.lt_of_lt_of_le m0.2 hr.grow⟩
        | l + 4, hl, _ => exact absurd (by simp) hl
      · match l, m, hl, hm, hu, hu' with
        | 0, _, hl, _, _, _ => exact absurd (by simp) hl
        | _, 0, _, hm, _, _ => exact absurd (by simp) hm
        | 2, _, hl, _, _, _ => exact absurd (by simp) hl
        | _, 2, _, hm, _, _ => exact absurd (by simp) hm
        | 1, 1, _, _, _, _ => exact absurd rfl hlm
        | 3, 3, _, _, _, _ => exact absurd rfl hlm
        | 1, 3, _, _, hu, hu' =>
          rw [g0 1 (by decide)] at hu
          rw [g3] at hu'
          cases hu'
          exact hW.dist 1 0 u p (by decide) (by simp) (by simp) hu h0
        | 3, 1, _, _, hu, hu' =>
          rw [g3] at hu
          rw [g0 1 (by decide)] at hu'
          cases hu
          exact hW.dist 0 1 p u' (by decide) (by simp) (by simp) h0 hu'
        | l + 4, _, hl, _, _, _ => exact absurd (by simp) hl
        | _, l + 4, _, hm, _, _ => exact absurd (by simp) hm
  · simp only [VL]
    refine ⟨_, _, rfl, ?_, _, _, rfl, ?_, _, _, rfl, ?_, _, _, rfl, ?_, rfl⟩
    · simp only [V, b0]
      refine ⟨by omega, c2, _, by rw [x1, p3], by omega, fun _ => ⟨by simp, ?_⟩⟩
      rw [p1] at c3
      simpa using c3
    · simp only [V]; exact a1
    · simp only [V]; exact a2
    · simp only [V, b1]
      refine ⟨cap2, by rw [q3], by omega, c5, ?_⟩
      rw [q1] at c6
      exact c6
  · refine ⟨fun l => ?_, fun l u hl hu => ?_, fun l m u u' hlm hl hm hu hu' => ?_, fun c hc => ?_, hW.laid⟩
    · match l with
      | 0 =>
        simp only [List.getElem?_cons_zero, Option.getD_some, ObjRel, b0]
        refine ⟨trivial, x1.symm, by simp [x1], by rw [← p3]; exact p4, fun _ => rfl, p6, p7, ?_, fun k x hx => ?_, fun k e he => by simp at he⟩
        · rw [p3] at p8
          exact p8
        · obtain ⟨d1, d2, _⟩ := x2 k x hx
          exact ⟨_, d1, d2⟩
      | 1 =>
        simp only [List.getElem?_cons_zero, List.getElem?_cons_succ, Option.getD_some, ObjRel, b1]
        refine ⟨trivial, rfl, rfl, by decide, fun _ => rfl, q6, q7, ?_, fun k x hx => ?_, fun k e he => by simp at he⟩
        · rw [q3] at q8
          exact q8
        · match k, hx with
          | 0, hx =>
            simp at hx
            subst hx
            exact ⟨_, y1, y2⟩
      | l + 2 => simp [ObjRel]
    · match l, hl, hu with
      | 0, _, hu =>
        rw [b0] at hu
        cases hu
        exact ⟨⟨m0.1, fun l hl => (hW.dist 0 1 p l (by decide) (by simp) (by simp) h0 hl)⟩, m0.2⟩
      | 1, _, hu =>
        rw [b1] at hu
        cases hu
        exact ⟨⟨m2.1, fun l hl => (hW.dist 2 1 q l (by decide) (by simp) (by simp) h2 hl)⟩, m2.2⟩
      | l + 2, hl, _ => exact absurd (by simp) hl
    · match l, m, hl, hm, hu, hu' with
      | 0, 0, _, _, _, _ => exact absurd rfl hlm
      | 1, 1, _, _, _, _ => exact absurd rfl hlm
      | 0, 1, _, _, hu, hu' =>
        rw [b0] at hu
        rw [b1] at hu'
        cases hu
        cases hu'
        exact hd02
      | 1, 0, _, _, hu, hu' =>
        rw [b1] at hu
        rw [b0] at hu'
        cases hu
        cases hu'
        exact fun e => hd02 e.symm
      | l + 2, _, hl, _, _, _ => exact absurd (by simp) hl
      | _, l + 2, _, hl, _, _ => exact absurd (by simp) hl
    · obtain ⟨h1, h2⟩ := hW.fresh c hc
      exact ⟨⟨h1, fun l hl e => by have := m1 l hl; omega⟩, h2⟩

end Go.Sim
namespace Go.Sim
set_option linter.unusedSimpArgs false
set_option linter.unusedVariables false
set_option maxRecDepth 10000
theorem kk3_rd {R : Type} (a b : List (List Rec)) (s n i : Int) (K : Ex → St → Option R) : roundK (env []) H.slices_Concat_api_Record_api_Record 0 (LPof []) V.slices_Concat_api_Record_api_Record_3 L.slices_Concat_api_Record_api_Record_3 ⟨[(0, .vl (.sl recT) a), (3, .int .i64 s), (9, .vl (.sl recT) b), (10, .int .i64 n), (11, .int .i64 i)], [], 0⟩ K = bif decide (i < n) then bif decide ((0 : Int) ≤ i) && decide (i < (↑b.length : Int)) then bif decide (IntKind.i64.wrap (s + (↑(List.length (b.getD i.toNat [])) : Int)) < (0 : Int)) then none else K Ex.normal { slots := [(0, AV.vl recTy.sl a), (3, AV.int IntKind.i64 (IntKind.i64.wrap (s + (↑(List.length (b.getD i.toNat [])) : Int)))), (9, AV.vl recTy.sl b), (10, AV.int IntKind.i64 n), (11, AV.int IntKind.i64 (IntKind.i64.wrap (i + (1 : Int))))], objs := [], nx := 0 } else none else K (Ex.exit 0) { slots := [(0, AV.vl recTy.sl a), (3, AV.int IntKind.i64 s), (9, AV.vl recTy.sl b), (10, AV.int IntKind.i64 n), (11, AV.int IntKind.i64 i)], objs := [], nx := 0 } := by kernel_rfl

theorem kk11a_rd {R : Type} (b : List (List Rec)) (n i : Int) (xs : List Rec) (K : Ex → St → Option R) : roundK (env []) H.slices_Concat_api_Record_api_Record 0 (LPof []) V.slices_Concat_api_Record_api_Record_11 L.slices_Concat_api_Record_api_Record_11 ⟨[(6, .hs 0 0 0), (25, .vl (.sl recT) b), (26, .int .i64 n), (27, .int .i64 i)], [(0, .arr 5 recT xs [])], 1⟩ K = bif decide (i < n) then bif decide ((0 : Int) ≤ i) && decide (i < (↑b.length : Int)) then bif decide ((List.take 0 xs ++ b.getD i.toNat []).length * 56 ≤ 140737488355328) then K Ex.normal { slots := [(6, AV.hw 0), (25, AV.vl recTy.sl b), (26, AV.int IntKind.i64 n), (27, AV.int IntKind.i64 (IntKind.i64.wrap (i + (1 : Int))))], objs := [(0, AObj.arr 5 recTy (List.take 0 xs ++ b.getD i.toNat []) [])], nx := 1 } else none else none else K (Ex.exit 2) { slots := [(6, AV.hs 0 0 0), (25, AV.vl recTy.sl b), (26, AV.int IntKind.i64 n), (27, AV.int IntKind.i64 i)], objs := [(0, AObj.arr 5 recTy xs [])], nx := 1 } := by kernel_rfl

theorem kk11b_rd {R : Type} (b : List (List Rec)) (n i : Int) (xs : List Rec) (K : Ex → St → Option R) : roundK (env []) H.slices_Concat_api_Record_api_Record 0 (LPof []) V.slices_Concat_api_Record_api_Record_11 L.slices_Concat_api_Record_api_Record_11 ⟨[(6, .hw 0), (25, .vl (.sl recT) b), (26, .int .i64 n), (27, .int .i64 i)], [(0, .arr 5 recT xs [])], 1⟩ K = bif decide (i < n) then bif decide ((0 : Int) ≤ i) && decide (i < (↑b.length : Int)) then bif decide ((xs ++ b.getD i.toNat []).length * 56 ≤ 140737488355328) then K Ex.normal { slots := [(6, AV.hw 0), (25, AV.vl recTy.sl b), (26, AV.int IntKind.i64 n), (27, AV.int IntKind.i64 (IntKind.i64.wrap (i + (1 : Int))))], objs := [(0, AObj.arr 5 recTy (xs ++ b.getD i.toNat []) [])], nx := 1 } else none else none else K (Ex.exit 2) { slots := [(6, AV.hw 0), (25, AV.vl recTy.sl b), (26, AV.int IntKind.i64 n), (27, AV.int IntKind.i64 i)], objs := [(0, AObj.arr 5 recTy xs [])], nx := 1 } := by kernel_rfl

theorem rgrow_ev (n : Int) : evFn (env []) H.slices_Grow_api_Record_api_Record (LPof []) F.slices_Grow_api_Record_api_Record [.nils, .int .i64 n] [] (finV (.hs 0) [.arr 5 recT []] 0) = bif decide (n < (0 : Int)) then none else bif decide (IntKind.i64.wrap (n - (0 : Int)) > (0 : Int)) then bif decide ((0 : Int) < IntKind.i64.wrap (n - (0 : Int))) && decide ((IntKind.i64.wrap (n - (0 : Int))).toNat * 56 ≤ 140737488355328) then some ((0, 0), (List.replicate (IntKind.i64.wrap (n - (0 : Int))).toNat recTy.zero, ()), ()) else none else none := by kernel_rfl

def H.rgrow2 : Hint := { H.slices_Grow_api_Record_api_Record with vs := [] }
theorem rgrow0_ev : evFn (env []) H.rgrow2 (LPof []) F.slices_Grow_api_Record_api_Record [.nils, .int .i64 0] [] (finV (.lit .nils) [] 0) = some ((), ()) := by kernel_rfl
def caseRgrow : VCase := ⟨[.lit .nils, .int .i64], [], .hs 0, [.arr 5 recT []], fun ⟨_, n, ()⟩ () => [(decide (0 < n) && decide (n ≤ 1000000000), (((0 : Nat), (0 : Nat)), ((List.replicate n.toNat recT.zero, ()), ())))]⟩
theorem rgrow_val (n : Int) (hc : (decide (0 < n) && decide (n ≤ 1000000000)) = true) : evFn (env []) H.slices_Grow_api_Record_api_Record (LPof []) F.slices_Grow_api_Record_api_Record [.nils, .int .i64 n] [] (finV (.hs 0) [.arr 5 recT []] 0) = some (((0 : Nat), (0 : Nat)), ((List.replicate n.toNat recT.zero, ()), ())) := by
  simp only [Bool.and_eq_true, decide_eq_true_eq] at hc
  have e : IntKind.i64.wrap (n - (0 : Int)) = n := by rw [wrap64 (by omega) (by omega)]; omega
  rw [rgrow_ev, e, cond_neg (by omega), cond_pos (by omega), cond_pos2 (by omega) (by omega)]
theorem rgrow_ok : caseRgrow.e.ok P0 I.slices_Grow_api_Record_api_Record := vcase_ok (c := caseRgrow) (H := H.slices_Grow_api_Record_api_Record) (E := env []) (env_ok env_nil) glob0 mixed0 G.slices_Grow_api_Record_api_Record Bd.slices_Grow_api_Record_api_Record (by kernel_rfl) noLoops fun ⟨_, n, ()⟩ () r h hw1 hw2 => by
  obtain ⟨hc, rfl⟩ := pick_pre h
  exact rgrow_val n hc
def caseRgrow0 : VCase := ⟨[.lit .nils, .lit (.int .i64 0)], [], .lit .nils, [], fun _ _ => [(true, ((), ()))]⟩
theorem rgrow0_ok : caseRgrow0.e.ok P0 I.slices_Grow_api_Record_api_Record := vcase_ok (c := caseRgrow0) (H := H.rgrow2) (E := env []) (env_ok env_nil) glob0 mixed0 G.slices_Grow_api_Record_api_Record Bd.slices_Grow_api_Record_api_Record (by kernel_rfl) noLoops fun _ _ r h hw1 hw2 => by
  obtain ⟨hc, rfl⟩ := pick_pre h
  exact rgrow0_ev
noncomputable abbrev consK20 : List (FuncId × Con) := [(I.slices_Grow_api_Record_api_Record, .eff (effOf [caseRgrow0.e]))]
theorem consK20_ok : ∀ x ∈ consK20, HoldsC P0 x.1 x.2 := by
  intro x hx
  simp at hx
  subst hx
  exact ⟨fun args objs r objs2 h _ => effOf_holds (by simp; exact rgrow0_ok) args objs r objs2 h, C.slices_Grow_api_Record_api_Record⟩
noncomputable abbrev consK2 : List (FuncId × Con) := [(I.slices_Grow_api_Record_api_Record, .eff (effOf [caseRgrow.e]))]
theorem consK2_ok : ∀ x ∈ consK2, HoldsC P0 x.1 x.2 := by
  intro x hx
  simp at hx
  subst hx
  exact ⟨fun args objs r objs2 h _ => effOf_holds (by simp; exact rgrow_ok) args objs r objs2 h, C.slices_Grow_api_Record_api_Record⟩
def lenR (b : List (List Rec)) (i : Nat) : Nat := ((b.take i).map List.length).sum
theorem lenR_succ {b : List (List Rec)} {i : Nat} (h : i < b.length) : lenR b (i + 1) = lenR b i + (b.getD i []).length := by
  unfold lenR
  rw [List.getD_eq_getElem?_getD, List.getElem?_eq_getElem h, List.take_add_one, List.getElem?_eq_getElem h]
  simp only [Option.toList_some, List.map_append, List.sum_append_nat, Option.getD_some, List.map_cons, List.map_nil, List.sum_cons, List.sum_nil, Nat.add_zero]
theorem lenR_mono (b : List (List Rec)) : ∀ (m i : Nat), i + m = b.length → lenR b i ≤ lenR b b.length
  | 0, i, h => by rw [show i = b.length by omega]; exact Nat.le_refl _
  | m + 1, i, h => by
    have := lenR_mono b m (i + 1) (by omega)
    rw [lenR_succ (by omega)] at this
    omega
theorem lenR_le {b : List (List Rec)} {i : Nat} (h : i ≤ b.length) : lenR b i ≤ lenR b b.length := lenR_mono b (b.length - i) i (by omega)
theorem rflat_len (b : List (List Rec)) (i : Nat) : (b.take i).flatten.length = lenR b i := by unfold lenR; rw [List.length_flatten]
theorem rflat_succ {b : List (List Rec)} {i : Nat} (h : i < b.length) : (b.take (i + 1)).flatten = (b.take i).flatten ++ b.getD i [] := by
  rw [List.getD_eq_getElem?_getD, List.getElem?_eq_getElem h, List.take_add_one, List.getElem?_eq_getElem h]
  simp only [Option.toList_some, List.flatten_append, Option.getD_some, List.flatten_cons, List.flatten_nil, List.append_nil]
def k3St (b : List (List Rec)) (i : Nat) : St := ⟨[(0, .vl (.sl recT) b), (3, .int .i64 (lenR b i : Nat)), (9, .vl (.sl recT) b), (10, .int .i64 b.length), (11, .int .i64 i)], [], 0⟩
theorem k3_rounds {R : Type} (b : List (List Rec)) (hb : lenR b b.length ≤ 1000000000) (hm : b.length ≤ maxL) (K : Ex → St → Option R) : ∀ (m i : Nat), i + m = b.length → rounds (env []) H.slices_Concat_api_Record_api_Record 0 (LPof []) V.slices_Concat_api_Record_api_Record_3 L.slices_Concat_api_Record_api_Record_3 (m + 1) (k3St b i) K = K (.exit 0) (k3St b b.length)
  | 0, i, h => by
    obtain rfl : i = b.length := by omega
    rw [rounds_succ']
    refine (kk3_rd _ _ _ _ _ _).trans ?_
    rw [cond_neg (by omega)]
    rfl
  | m + 1, i, h => by
    have ih := k3_rounds b hb hm K m (i + 1) (by omega)
    unfold maxL at hm
    have h1 := lenR_succ (b := b) (i := i) (by omega)
    have h2 := lenR_le (b := b) (i := i + 1) (by omega)
    have e1 : IntKind.i64.wrap ((lenR b i : Nat) + ((b.getD i []).length : Int)) = ((lenR b (i + 1) : Nat) : Int) := by rw [wrap64 (by omega) (by omega), h1]; omega
    have e3 : IntKind.i64.wrap ((i : Int) + 1) = ((i + 1 : Nat) : Int) := by rw [wrap64 (by omega) (by omega)]; omega
    rw [rounds_succ']
    refine (kk3_rd _ _ _ _ _ _).trans ?_
    rw [cond_pos (by omega), cond_pos2 (by omega) (by omega), Int.toNat_natCast, e1, cond_neg (by omega), e3]
    exact ih
abbrev k3LC : LoopC := LoopC.of ⟨[(0, .vl (.sl recT)), (3, .int .i64), (9, .vl (.sl recT)), (10, .int .i64), (11, .int .i64)], []⟩ (fun x => decide (x.1.2.2.2.2.1 = (0 : Int)) && decide (x.1.2.1 = (0 : Int)) && decide (x.1.2.2.1 = x.1.1) && decide (x.1.2.2.2.1 = (List.length x.1.1 : Int)) && decide (lenR x.1.1 (List.length x.1.1) ≤ 1000000000))
  fun x => [(true, .exit 0, k3St x.1.1 (List.length x.1.1))]
theorem k3_lok : LoopOK P0 H.slices_Concat_api_Record_api_Record 0 L.slices_Concat_api_Record_api_Record_3 k3LC :=
  loop_ok_of (env_ok env_nil) glob0 mixed0 noLoops V.slices_Concat_api_Record_api_Record_3 (by decide) fun ⟨⟨a, s, b, n, i, _⟩, _⟩ h hw => by
    simp only [Bool.and_eq_true, decide_eq_true_eq] at h
    obtain ⟨⟨⟨⟨rfl, rfl⟩, rfl⟩, rfl⟩, h5⟩ := h
    exact ⟨_, k3_rounds b h5 hw.1.1.1 _ b.length 0 (Nat.zero_add _)⟩
def k11St (b : List (List Rec)) (i : Nat) : St := ⟨[(6, .hw 0), (25, .vl (.sl recT) b), (26, .int .i64 b.length), (27, .int .i64 i)], [(0, .arr 5 recT (b.take i).flatten [])], 1⟩
theorem k11_rounds {R : Type} (b : List (List Rec)) (hb : lenR b b.length ≤ 1000000000) (hm : b.length ≤ maxL) (K : Ex → St → Option R) : ∀ (m i : Nat), i + m = b.length → rounds (env []) H.slices_Concat_api_Record_api_Record 0 (LPof []) V.slices_Concat_api_Record_api_Record_11 L.slices_Concat_api_Record_api_Record_11 (m + 1) (k11St b i) K = K (.exit 2) (k11St b b.length)
  | 0, i, h => by
    obtain rfl : i = b.length := by omega
    rw [rounds_succ']
    refine (kk11b_rd _ _ _ _ _).trans ?_
    rw [cond_neg (by omega)]
    rfl
  | m + 1, i, h => by
    have ih := k11_rounds b hb hm K m (i + 1) (by omega)
    unfold maxL at hm
    have h2 := lenR_le (b := b) (i := i + 1) (by omega)
    have e1 := rflat_succ (b := b) (i := i) (by omega)
    have e2 := rflat_len b (i + 1)
    have e3 : IntKind.i64.wrap ((i : Int) + 1) = ((i + 1 : Nat) : Int) := by rw [wrap64 (by omega) (by omega)]; omega
    rw [rounds_succ']
    refine (kk11b_rd _ _ _ _ _).trans ?_
    rw [cond_pos (by omega), cond_pos2 (by omega) (by omega), Int.toNat_natCast, ← e1, e2, cond_pos (by omega), e3]
    exact ih
theorem k11_go {R : Type} (b : List (List Rec)) (xs : List Rec) (h0 : 0 < b.length) (hb : lenR b b.length ≤ 1000000000) (hm : b.length ≤ maxL) (K : Ex → St → Option R) : ∃ m, rounds (env []) H.slices_Concat_api_Record_api_Record 0 (LPof []) V.slices_Concat_api_Record_api_Record_11 L.slices_Concat_api_Record_api_Record_11 m ⟨[(6, .hs 0 0 0), (25, .vl (.sl recT) b), (26, .int .i64 b.length), (27, .int .i64 0)], [(0, .arr 5 recT xs [])], 1⟩ K = K (.exit 2) (k11St b b.length) := by
  refine ⟨b.length - 1 + 1 + 1, ?_⟩
  have ih := k11_rounds b hb hm K (b.length - 1) 1 (by omega)
  have h2 := lenR_le (b := b) (i := 1) (by omega)
  have e1 := rflat_succ (b := b) (i := 0) h0
  have e2 := rflat_len b 1
  have e0 : (0 : Int).toNat = 0 := rfl
  have e4 : List.take 0 xs ++ b.getD 0 [] = (b.take 1).flatten := by rw [e1]; simp
  rw [rounds_succ']
  refine (kk11a_rd _ _ _ _ _).trans ?_
  rw [cond_pos (by omega), cond_pos2 (by omega) (by omega), e0, e4, e2, cond_pos (by omega)]
  exact ih
abbrev k11LC : LoopC := LoopC.of ⟨[(6, .hs 0), (25, .vl (.sl recT)), (26, .int .i64), (27, .int .i64)], [.arr 5 recT []]⟩ (fun x => decide (x.1.1.1 = 0) && decide (x.1.1.2 = 0) && decide (x.1.2.2.2.1 = (0 : Int)) && decide (x.1.2.2.1 = (List.length x.1.2.1 : Int)) && decide (0 < List.length x.1.2.1) && decide (lenR x.1.2.1 (List.length x.1.2.1) ≤ 1000000000))
  fun x => [(true, .exit 2, k11St x.1.2.1 (List.length x.1.2.1))]
theorem k11_lok : LoopOK P0 H.slices_Concat_api_Record_api_Record 0 L.slices_Concat_api_Record_api_Record_11 k11LC :=
  loop_ok_of (env_ok env_nil) glob0 mixed0 noLoops V.slices_Concat_api_Record_api_Record_11 (by decide) fun ⟨⟨⟨o, q⟩, b, n, i, _⟩, ⟨⟨xs, _⟩, _⟩⟩ h hw => by
    simp only [Bool.and_eq_true, decide_eq_true_eq] at h
    obtain ⟨⟨⟨⟨⟨rfl, rfl⟩, rfl⟩, rfl⟩, h3⟩, h4⟩ := h
    exact k11_go b xs h3 h4 hw.1.2.1.1 _
theorem rconcat_ev (b : List (List Rec)) : evFn (env consK2) H.slices_Concat_api_Record_api_Record (LPof [(3, k3LC), (11, k11LC)]) F.slices_Concat_api_Record_api_Record [.vl (.sl recT) b] [] (finT [.sl recT]) = bif decide (b = b) && decide ((↑b.length : Int) = (↑b.length : Int)) && decide (lenR b b.length ≤ 1000000000) && true then bif decide ((0 : (Pat.int IntKind.i64).den) < (↑(lenR b b.length) : Int)) && decide ((↑(lenR b b.length) : Int) ≤ (1000000000 : (Pat.int IntKind.i64).den)) then bif decide ((↑b.length : Int) = (↑b.length : Int)) && decide (0 < b.length) && decide (lenR b b.length ≤ 1000000000) && true then some ((List.take b.length b).flatten, ()) else none else none else none := by kernel_rfl

theorem rconcat00_ev : evFn (env consK20) H.slices_Concat_api_Record_api_Record (loopsF (env consK20) H.slices_Concat_api_Record_api_Record 0 B.slices_Concat_api_Record_api_Record 5) F.slices_Concat_api_Record_api_Record [.vl (.sl recT) [[], []]] [] (finT [.sl recT]) = some ([[], []].getD 0 [] ++ [[], []].getD 1 [], ()) := by kernel_rfl

def rjoinB (b : List (List Rec)) : Bool := decide (b.length = 2) && decide (lenR b b.length ≤ 1000000000)
def caseRconcat : PCase := ⟨[.ty (.sl (.sl recT))], [.sl recT], fun x => [(rjoinB x.1, (List.flatten x.1, ()))]⟩
def caseRconcatA : PCase := ⟨[.ty (.sl (.sl recT))], [.sl recT], fun x => [(decide (0 < lenR x.1 (List.length x.1)) && decide (lenR x.1 (List.length x.1) ≤ 1000000000), (List.flatten x.1, ()))]⟩
def caseRconcat0 : PCase := ⟨[.ty (.sl (.sl recT))], [.sl recT], fun x => [(decide (x.1 = [[], []]), ([], ()))]⟩
theorem rconcatA_ok : caseRconcatA.ok P0 I.slices_Concat_api_Record_api_Record := case_ok2 (H := H.slices_Concat_api_Record_api_Record) (E := env consK2) (env_ok consK2_ok) glob0 mixed0 G.slices_Concat_api_Record_api_Record Bd.slices_Concat_api_Record_api_Record (by kernel_rfl) (loops_good (tab := [(3, k3LC), (11, k11LC)]) (by kernel_rfl) (fun x hx => by simp at hx; rcases hx with rfl | rfl; exact k3_lok; exact k11_lok)) fun ⟨b, ()⟩ y h hw => by
  obtain ⟨hc, rfl⟩ := pick_pre h
  simp only [Bool.and_eq_true, decide_eq_true_eq] at hc
  have h0 : 0 < b.length := by
    rcases Nat.eq_zero_or_pos b.length with h | h
    · have : lenR b b.length = 0 := by rw [h]; rfl
      omega
    · exact h
  refine (rconcat_ev b).trans ?_
  have e1 : decide ((0 : (Pat.int IntKind.i64).den) < ((lenR b b.length : Nat) : Int)) = true := decide_eq_true (show (0 : Int) < ((lenR b b.length : Nat) : Int) by omega)
  have e2 : decide (((lenR b b.length : Nat) : Int) ≤ (1000000000 : (Pat.int IntKind.i64).den)) = true := decide_eq_true (show ((lenR b b.length : Nat) : Int) ≤ 1000000000 by omega)
  simp only [e1, e2, hc.2, h0, decide_true, Bool.and_self, cond_true, List.take_length]
  rfl
theorem rconcat0_ok : caseRconcat0.ok P0 I.slices_Concat_api_Record_api_Record := case_ok2 (H := H.slices_Concat_api_Record_api_Record) (E := env consK20) (env_ok consK20_ok) glob0 mixed0 G.slices_Concat_api_Record_api_Record Bd.slices_Concat_api_Record_api_Record (by kernel_rfl) (loopsF_good (env_ok consK20_ok) glob0 mixed0 (by kernel_rfl) 5) fun ⟨b, ()⟩ y h hw => by
  obtain ⟨hc, rfl⟩ := pick_pre h
  have hc := of_decide_eq_true hc
  obtain rfl : b = [[], []] := hc
  exact rconcat00_ev
theorem rconcat_ok : caseRconcat.ok P0 I.slices_Concat_api_Record_api_Record := fun ⟨b, ()⟩ y h hw => by
  obtain ⟨hc, rfl⟩ := pick_pre h
  have hc : rjoinB b = true := hc
  unfold rjoinB at hc
  simp only [Bool.and_eq_true, decide_eq_true_eq] at hc
  by_cases h0 : 0 < lenR b b.length
  · have hp : pick (caseRconcatA.f (b, ())) = some (List.flatten b, ()) := by show pick [(decide (0 < lenR b b.length) && decide (lenR b b.length ≤ 1000000000), _)] = _; rw [decide_eq_true h0, decide_eq_true hc.2]; rfl
    exact rconcatA_ok (b, ()) _ hp hw
  · match b, hc, h0 with
    | [x, y], _, h0 =>
      simp [lenR] at h0
      obtain ⟨rfl, rfl⟩ := h0
      have hp : pick (caseRconcat0.f ([[], []], ())) = some ([], ()) := rfl
      exact rconcat0_ok ([[], []], ()) _ hp hw
end Go.Sim
namespace Go.Sim
set_option linter.unusedSimpArgs false
set_option linter.unusedVariables false
set_option maxRecDepth 10000
def caseRepl : VCase := ⟨[.lit (.hw 0), .int .i64, .int .i64, .lit (.hw 2)], [.arr 10 segT [actRP], .log recT, .box 10 [segP]], .lit (.hw 3), [.dead, .log recT, .dead, .arr 10 segT [actRP]],
  fun ⟨_, i, j, _⟩ ⟨⟨f, ⟨b, n, _, _, _, _, _, _, z, _, _⟩, _⟩, rs, ⟨⟨g1, g2, g3, g4, g5, g6, g7, g8, g9, g10, _⟩, _⟩, _⟩ =>
    [(decide ((0 : Int) ≤ i) && decide (j = i + 2) && decide (j ≤ (List.length f : Int)) && decide (List.length f < 1000000000), ((), ((), rs, (), (twoOne f i.toNat (g1, g2, g3, g4, g5, g6, g7, g8, g9, g10), (b, n, (), (), (), (), (), (), z, (), ()), ()), ())))]⟩
theorem replArith {i j : Int} {n : Nat} (h1 : (0 : Int) ≤ i) (h2 : j = i + 2) (h3 : j ≤ (n : Int)) : ∃ k : Nat, i = (k : Int) ∧ j = ((k + 2 : Nat) : Int) ∧ k + 2 ≤ n := ⟨i.toNat, by omega, by omega, by omega⟩
theorem repl_ok : caseRepl.e.ok P0 I.slices_Replace_api_Segment_api_Segment := fun ⟨_, i, j, _, _⟩ ⟨⟨f, ⟨b, n, _, _, _, _, _, _, z, _, _⟩, _⟩, rs, ⟨⟨g1, g2, g3, g4, g5, g6, g7, g8, g9, g10, _⟩, _⟩, _⟩ r objs' hxy hw1 hw2 => by
  obtain ⟨z, hz, e0⟩ := pick_mapAlt hxy
  cases e0
  obtain ⟨hc, rfl⟩ := pick_pre hz
  simp only [Bool.and_eq_true, decide_eq_true_eq] at hc
  obtain ⟨⟨⟨h1, h2⟩, h3⟩, h4⟩ := hc
  obtain ⟨k, rfl, rfl, h5⟩ := replArith h1 h2 h3
  exact repl_eff f b n _ rs (g1, g2, g3, g4, g5, g6, g7, g8, g9, g10) k h5 h4
noncomputable abbrev consR3 : List (FuncId × Con) := [(I.slices_Concat_api_Record_api_Record, .pure (pureOf [caseRconcat]))] ++ consS2
theorem consR3_ok : ∀ x ∈ consR3, HoldsC P0 x.1 x.2 := by
  intro x hx
  rcases List.mem_append.1 hx with hx | hx
  · simp at hx
    subst hx
    exact ⟨pureOf_holds (by simp; exact rconcat_ok), C.slices_Concat_api_Record_api_Record⟩
  · exact consS2_ok x hx
theorem merged_ev (g h : Seg) : evFn (env consR3) H.segs_merged (LPof []) F.segs_merged [valOf segT g, valOf segT h] [] (finT [segT]) = bif rjoinB [g.snd.snd.snd.snd.fst, h.snd.snd.snd.snd.fst] then bif g.snd.snd.snd.snd.snd.snd.fst then bif decide ([g.snd.snd.snd.snd.fst, h.snd.snd.snd.snd.fst].flatten.length ≤ 1000000000) then some ((g.fst, h.snd.fst, bif decide (h.snd.snd.fst > g.snd.snd.fst) then h.snd.snd.fst else g.snd.snd.fst, IntKind.i64.wrap ((bif decide (h.snd.snd.snd.fst > g.snd.snd.snd.fst) then h.snd.snd.snd.fst else g.snd.snd.snd.fst) + (1 : Int)), [g.snd.snd.snd.snd.fst, h.snd.snd.snd.snd.fst].flatten, true, h.snd.snd.snd.snd.snd.snd.fst, false, (↑(bytS [g.snd.snd.snd.snd.fst, h.snd.snd.snd.snd.fst].flatten).length : Int), (0 : Int)), ()) else none else bif decide ([g.snd.snd.snd.snd.fst, h.snd.snd.snd.snd.fst].flatten.length ≤ 1000000000) then some ((g.fst, h.snd.fst, bif decide (h.snd.snd.fst > g.snd.snd.fst) then h.snd.snd.fst else g.snd.snd.fst, IntKind.i64.wrap ((bif decide (h.snd.snd.snd.fst > g.snd.snd.snd.fst) then h.snd.snd.snd.fst else g.snd.snd.snd.fst) + (1 : Int)), [g.snd.snd.snd.snd.fst, h.snd.snd.snd.snd.fst].flatten, true, false, false, (↑(bytS [g.snd.snd.snd.snd.fst, h.snd.snd.snd.snd.fst].flatten).length : Int), (0 : Int)), ()) else none else none := by kernel_rfl
def mxZ (a b : Int) : Int := bif decide (b > a) then b else a
/-- Two segments as one. -/
def merge2 (g h : Seg) : Seg := (g.1, h.2.1, mxZ g.2.2.1 h.2.2.1, mxZ g.2.2.2.1 h.2.2.2.1 + 1, g.2.2.2.2.1 ++ h.2.2.2.2.1, true, g.2.2.2.2.2.2.1 && h.2.2.2.2.2.2.1, false, ((bytS (g.2.2.2.2.1 ++ h.2.2.2.2.1)).length : Int), 0)
def mgB (g h : Seg) : Bool := decide (g.2.2.2.2.1.length + h.2.2.2.2.1.length ≤ 1000000000) && decide (-9000000000000000000 ≤ g.2.2.2.1) && decide (g.2.2.2.1 ≤ 9000000000000000000) && decide (-9000000000000000000 ≤ h.2.2.2.1) && decide (h.2.2.2.1 ≤ 9000000000000000000)
theorem merged_eq (g h : Seg) (hb : mgB g h = true) : evFn (env consR3) H.segs_merged (LPof []) F.segs_merged [valOf segT g, valOf segT h] [] (finT [segT]) = some (merge2 g h, ()) := by
  unfold mgB at hb
  simp only [Bool.and_eq_true, decide_eq_true_eq] at hb
  obtain ⟨⟨⟨⟨h2, h3⟩, h4⟩, h5⟩, h6⟩ := hb
  rw [merged_ev]
  have e1 : rjoinB [g.2.2.2.2.1, h.2.2.2.2.1] = true := by simp [rjoinB, lenR]; omega
  have e2 : [g.2.2.2.2.1, h.2.2.2.2.1].flatten = g.2.2.2.2.1 ++ h.2.2.2.2.1 := by simp
  have e3 : (bif decide (h.2.2.2.1 > g.2.2.2.1) then h.2.2.2.1 else g.2.2.2.1) = mxZ g.2.2.2.1 h.2.2.2.1 := rfl
  have e5 : (bif decide (h.2.2.1 > g.2.2.1) then h.2.2.1 else g.2.2.1) = mxZ g.2.2.1 h.2.2.1 := rfl
  have e4 : IntKind.i64.wrap (mxZ g.2.2.2.1 h.2.2.2.1 + 1) = mxZ g.2.2.2.1 h.2.2.2.1 + 1 := by
    refine wrap64 ?_ ?_ <;> (unfold mxZ; cases decide (h.2.2.2.1 > g.2.2.2.1) <;> simp only [cond_true, cond_false] <;> omega)
  have b3 : decide ((g.2.2.2.2.1 ++ h.2.2.2.2.1).length ≤ 1000000000) = true := decide_eq_true (by simp; omega)
  rw [e1, e2, e3, e4, e5, b3]
  unfold merge2
  cases g.2.2.2.2.2.2.1 <;> rfl
def caseMerged : PCase := ⟨[.ty segT, .ty segT], [segT], fun x => (fun (g k : Seg) => [(mgB g k, (merge2 g k, ()))]) x.1 x.2.1⟩
theorem merged_val (g k : Seg) (hc : (mgB g k) = true) : evFn (env consR3) H.segs_merged (LPof []) F.segs_merged [valOf segT g, valOf segT k] [] (finT [segT]) = some (merge2 g k, ()) := by
  exact merged_eq g k hc
theorem merged_ok : caseMerged.ok P0 I.segs_merged := case_ok2 (H := H.segs_merged) (E := env consR3) (env_ok consR3_ok) glob0 mixed0 G.segs_merged Bd.segs_merged (by kernel_rfl) noLoops fun ⟨g, k, ()⟩ y h hw => by
  obtain ⟨hc, rfl⟩ := pick_pre h
  exact merged_val g k hc
theorem whole_ev (g : Seg) : evFn (env consR3) H.segs_Log_Merge_1 (LPof []) F.segs_Log_Merge_1 [valOf segT g] [] (finT [.bool]) = Option.bind (bif g.snd.snd.snd.snd.snd.fst then some !g.snd.snd.snd.snd.snd.snd.snd.fst else some false) fun v => some (v, ()) := by kernel_rfl
def wholeS (g : Seg) : Bool := g.2.2.2.2.2.1 && !g.2.2.2.2.2.2.2.1
def caseWhole : PCase := ⟨[.ty segT], [.bool], fun x => (fun (g : Seg) => [(true, (wholeS g, ()))]) x.1⟩
theorem whole_val (g : Seg) : evFn (env consR3) H.segs_Log_Merge_1 (LPof []) F.segs_Log_Merge_1 [valOf segT g] [] (finT [.bool]) = some (wholeS g, ()) := by
  rw [whole_ev]; unfold wholeS; cases g.2.2.2.2.2.1 <;> rfl
theorem whole_ok : caseWhole.ok P0 I.segs_Log_Merge_1 := case_ok2 (H := H.segs_Log_Merge_1) (E := env consR3) (env_ok consR3_ok) glob0 mixed0 G.segs_Log_Merge_1 Bd.segs_Log_Merge_1 (by kernel_rfl) noLoops fun ⟨g, ()⟩ y h hw => by
  obtain ⟨hc, rfl⟩ := pick_pre h
  exact whole_val g
noncomputable abbrev consR4 : List (FuncId × Con) := [(I.segs_Log_Merge_1, .pure (pureOf [caseWhole])), (I.segs_merged, .pure (pureOf [caseMerged])), (I.slices_Replace_api_Segment_api_Segment, .eff (effOf [caseRepl.e]))] ++ consR3
theorem consR4_ok : ∀ x ∈ consR4, HoldsC P0 x.1 x.2 := by
  intro x hx
  rcases List.mem_append.1 hx with hx | hx
  · simp at hx
    rcases hx with rfl | rfl | rfl
    · exact ⟨pureOf_holds (by simp; exact whole_ok), C.segs_Log_Merge_1⟩
    · exact ⟨pureOf_holds (by simp; exact merged_ok), C.segs_merged⟩
    · exact ⟨fun args objs r objs2 h _ => effOf_holds (by simp; exact repl_ok) args objs r objs2 h, C.slices_Replace_api_Segment_api_Segment⟩
  · exact consR3_ok x hx
def H.merge2 : Hint := { H.segs_Log_Merge with vs := [] }
theorem merge_rd {R : Type} (most i : Int) (q : Bool) (f : List Seg) (b n z : Int) (rs : List Rec) (K : Ex → St → Option R) : roundK (env consR4) H.merge2 1 (LPof []) V.segs_Log_Merge_3 L.segs_Log_Merge_3 ⟨[(0, .ptr 0 (.tl 0) 0), (1, .int .i64 most), (4, .bool q), (5, .fn (.func I.segs_Log_Merge_1) [] []), (6, .int .i64 i)], [(0, .arr 1 .bool [] [[.hw 1]]), (1, .arr 10 segT f [actC b n z]), (2, .log recT rs)], 3⟩ K = bif decide (IntKind.i64.wrap (i + (1 : Int)) < (↑(f.length + 1) : Int)) then bif decide ((0 : Int) ≤ i) && decide (i < (↑(f.length + 1) : Int)) then bif decide (i.toNat < f.length) then bif decide ((0 : Int) ≤ IntKind.i64.wrap (i + (1 : Int))) && decide (IntKind.i64.wrap (i + (1 : Int)) < (↑(f.length + 1) : Int)) then bif decide ((IntKind.i64.wrap (i + (1 : Int))).toNat < f.length) then Option.bind (bif wholeS (f.getD i.toNat segTy.zero) then bif wholeS (f.getD (IntKind.i64.wrap (i + (1 : Int))).toNat segTy.zero) then some (decide (IntKind.i64.wrap ((↑(List.length (f.getD i.toNat segTy.zero).snd.snd.snd.snd.fst) : Int) + (↑(List.length (f.getD (IntKind.i64.wrap (i + (1 : Int))).toNat segTy.zero).snd.snd.snd.snd.fst) : Int)) ≤ most)) else some false else some false) fun v => bif v then bif mgB (f.getD i.toNat segTy.zero) (f.getD (IntKind.i64.wrap (i + (1 : Int))).toNat segTy.zero) then bif decide ((0 : Int) ≤ i) && decide (IntKind.i64.wrap (i + (2 : Int)) = i + (2 : (Pat.int IntKind.i64).den)) && decide (IntKind.i64.wrap (i + (2 : Int)) ≤ (↑f.length : Int)) && decide (f.length < 1000000000) then K Ex.ret { slots := [(0, AV.ptr 0 (Elt.tl 0) 0), (1, AV.int IntKind.i64 most), (4, AV.bool true), (5, AV.fn (Fn.func 47) [] []), (6, AV.int IntKind.i64 i)], objs := [(0, AObj.arr 1 Ty.bool [] [[AV.hw 1]]), (1, AObj.arr 10 segTy (twoOne f i.toNat (merge2 (f.getD i.toNat segTy.zero) (f.getD (IntKind.i64.wrap (i + (1 : Int))).toNat segTy.zero))) [[AV.int IntKind.i64 b, AV.int IntKind.i64 n, AV.int IntKind.i64 (0 : Int), AV.int IntKind.i64 (0 : Int), AV.hw 2, AV.bool false, AV.bool false, AV.bool false, AV.int IntKind.i64 z, AV.int IntKind.u32 (0 : Int)]]), (2, AObj.log recTy rs)], nx := 3 } else none else none else K Ex.normal { slots := [(0, AV.ptr 0 (Elt.tl 0) 0), (1, AV.int IntKind.i64 most), (4, AV.bool q), (5, AV.fn (Fn.func 47) [] []), (6, AV.int IntKind.i64 (IntKind.i64.wrap (i + (1 : Int))))], objs := [(0, AObj.arr 1 Ty.bool [] [[AV.hw 1]]), (1, AObj.arr 10 segTy f [[AV.int IntKind.i64 b, AV.int IntKind.i64 n, AV.int IntKind.i64 (0 : Int), AV.int IntKind.i64 (0 : Int), AV.hw 2, AV.bool false, AV.bool false, AV.bool false, AV.int IntKind.i64 z, AV.int IntKind.u32 (0 : Int)]]), (2, AObj.log recTy rs)], nx := 3 } else bif decide ((IntKind.i64.wrap (i + (1 : Int))).toNat - f.length = 0) then Option.bind (bif wholeS (f.getD i.toNat segTy.zero) then some false else some false) fun v => bif v then bif mgB (f.getD i.toNat segTy.zero) (b, n, (0 : Int), (0 : Int), rs, false, false, false, z, (0 : Int)) then bif decide ((0 : Int) ≤ i) && decide (IntKind.i64.wrap (i + (2 : Int)) = i + (2 : (Pat.int IntKind.i64).den)) && decide (IntKind.i64.wrap (i + (2 : Int)) ≤ (↑f.length : Int)) && decide (f.length < 1000000000) then K Ex.ret { slots := [(0, AV.ptr 0 (Elt.tl 0) 0), (1, AV.int IntKind.i64 most), (4, AV.bool true), (5, AV.fn (Fn.func 47) [] []), (6, AV.int IntKind.i64 i)], objs := [(0, AObj.arr 1 Ty.bool [] [[AV.hw 1]]), (1, AObj.arr 10 segTy (twoOne f i.toNat (merge2 (f.getD i.toNat segTy.zero) (b, n, (0 : Int), (0 : Int), rs, false, false, false, z, (0 : Int)))) [[AV.int IntKind.i64 b, AV.int IntKind.i64 n, AV.int IntKind.i64 (0 : Int), AV.int IntKind.i64 (0 : Int), AV.hw 2, AV.bool false, AV.bool false, AV.bool false, AV.int IntKind.i64 z, AV.int IntKind.u32 (0 : Int)]]), (2, AObj.log recTy rs)], nx := 3 } else none else none else K Ex.normal { slots := [(0, AV.ptr 0 (Elt.tl 0) 0), (1, AV.int IntKind.i64 most), (4, AV.bool q), (5, AV.fn (Fn.func 47) [] []), (6, AV.int IntKind.i64 (IntKind.i64.wrap (i + (1 : Int))))], objs := [(0, AObj.arr 1 Ty.bool [] [[AV.hw 1]]), (1, AObj.arr 10 segTy f [[AV.int IntKind.i64 b, AV.int IntKind.i64 n, AV.int IntKind.i64 (0 : Int), AV.int IntKind.i64 (0 : Int), AV.hw 2, AV.bool false, AV.bool false, AV.bool false, AV.int IntKind.i64 z, AV.int IntKind.u32 (0 : Int)]]), (2, AObj.log recTy rs)], nx := 3 } else none else none else bif decide (i.toNat - f.length = 0) then bif decide ((0 : Int) ≤ IntKind.i64.wrap (i + (1 : Int))) && decide (IntKind.i64.wrap (i + (1 : Int)) < (↑(f.length + 1) : Int)) then bif decide ((IntKind.i64.wrap (i + (1 : Int))).toNat < f.length) then K Ex.normal { slots := [(0, AV.ptr 0 (Elt.tl 0) 0), (1, AV.int IntKind.i64 most), (4, AV.bool q), (5, AV.fn (Fn.func 47) [] []), (6, AV.int IntKind.i64 (IntKind.i64.wrap (i + (1 : Int))))], objs := [(0, AObj.arr 1 Ty.bool [] [[AV.hw 1]]), (1, AObj.arr 10 segTy f [[AV.int IntKind.i64 b, AV.int IntKind.i64 n, AV.int IntKind.i64 (0 : Int), AV.int IntKind.i64 (0 : Int), AV.hw 2, AV.bool false, AV.bool false, AV.bool false, AV.int IntKind.i64 z, AV.int IntKind.u32 (0 : Int)]]), (2, AObj.log recTy rs)], nx := 3 } else bif decide ((IntKind.i64.wrap (i + (1 : Int))).toNat - f.length = 0) then K Ex.normal { slots := [(0, AV.ptr 0 (Elt.tl 0) 0), (1, AV.int IntKind.i64 most), (4, AV.bool q), (5, AV.fn (Fn.func 47) [] []), (6, AV.int IntKind.i64 (IntKind.i64.wrap (i + (1 : Int))))], objs := [(0, AObj.arr 1 Ty.bool [] [[AV.hw 1]]), (1, AObj.arr 10 segTy f [[AV.int IntKind.i64 b, AV.int IntKind.i64 n, AV.int IntKind.i64 (0 : Int), AV.int IntKind.i64 (0 : Int), AV.hw 2, AV.bool false, AV.bool false, AV.bool false, AV.int IntKind.i64 z, AV.int IntKind.u32 (0 : Int)]]), (2, AObj.log recTy rs)], nx := 3 } else none else none else none else none else K (Ex.exit 0) { slots := [(0, AV.ptr 0 (Elt.tl 0) 0), (1, AV.int IntKind.i64 most), (4, AV.bool q), (5, AV.fn (Fn.func 47) [] []), (6, AV.int IntKind.i64 i)], objs := [(0, AObj.arr 1 Ty.bool [] [[AV.hw 1]]), (1, AObj.arr 10 segTy f [[AV.int IntKind.i64 b, AV.int IntKind.i64 n, AV.int IntKind.i64 (0 : Int), AV.int IntKind.i64 (0 : Int), AV.hw 2, AV.bool false, AV.bool false, AV.bool false, AV.int IntKind.i64 z, AV.int IntKind.u32 (0 : Int)]]), (2, AObj.log recTy rs)], nx := 3 } := by kernel_rfl

end Go.Sim
namespace Go.Sim
set_option linter.unusedSimpArgs false
set_option linter.unusedVariables false
set_option maxRecDepth 10000
def mgP (most : Int) (f : List Seg) (i : Nat) : Bool := decide (i + 1 < f.length) && (wholeS (f.getD i segTy.zero) && (wholeS (f.getD (i + 1) segTy.zero) && decide (((f.getD i segTy.zero).2.2.2.2.1.length : Int) + ((f.getD (i + 1) segTy.zero).2.2.2.2.1.length : Int) ≤ most)))
def mgL (f : List Seg) (i : Nat) : List Seg := twoOne f i (merge2 (f.getD i segTy.zero) (f.getD (i + 1) segTy.zero))
def mgAt (most : Int) (f : List Seg) : Option Nat := firstFrom (mgP most f) 0 f.length
def mergeP (most : Int) (L : LogS) : LogS := (bif (mgAt most L.1).isSome then mgL L.1 ((mgAt most L.1).getD 0) else L.1, L.2)
/-- No generation is near its end. -/
def genB (g : Seg) : Bool := decide (g.2.2.2.2.1.length ≤ 500000000) && decide (-9000000000000000000 ≤ g.2.2.2.1) && decide (g.2.2.2.1 ≤ 9000000000000000000)
theorem genB_mgB {g h : Seg} (hg : genB g = true) (hh : genB h = true) : mgB g h = true := by
  unfold genB at hg hh
  unfold mgB
  simp only [Bool.and_eq_true, decide_eq_true_eq] at hg hh ⊢
  omega
theorem all_getD {p : Seg → Bool} {l : List Seg} (h : l.all p = true) {i : Nat} (hi : i < l.length) : p (l.getD i segTy.zero) = true := by
  rw [List.getD_eq_getElem?_getD, List.getElem?_eq_getElem hi]
  exact List.all_eq_true.1 h _ (List.getElem_mem hi)
def meSt (most : Int) (q : Bool) (L : LogS) (i : Nat) : St := ⟨[(0, .ptr 0 (.tl 0) 0), (1, .int .i64 most), (4, .bool q), (5, .fn (.func I.segs_Log_Merge_1) [] []), (6, .int .i64 i)], logO L, 3⟩
theorem me_step {R : Type} (most : Int) (q : Bool) (M : LogS) (h1 : M.1.length < 1000000000) (h2 : M.1.all genB = true) (i : Nat) (hi : i < M.1.length) (K : Ex → St → Option R) :
    roundK (env consR4) H.merge2 1 (LPof []) V.segs_Log_Merge_3 L.segs_Log_Merge_3 (meSt most q M i) K = bif mgP most M.1 i then K .ret (meSt most true (mgL M.1 i, M.2) i) else K .normal (meSt most q M (i + 1)) := by
  obtain ⟨f, b, n, z, rs⟩ := M
  simp only at h1 h2 hi
  refine (merge_rd _ _ _ _ _ _ _ _ _).trans ?_
  have e1 : IntKind.i64.wrap ((i : Int) + 1) = ((i + 1 : Nat) : Int) := by rw [wrap64 (by omega) (by omega)]; omega
  have e2 : IntKind.i64.wrap ((i : Int) + 2) = ((i + 2 : Nat) : Int) := by rw [wrap64 (by omega) (by omega)]; omega
  simp only
  rw [e1, e2, cond_pos (by omega), cond_pos2 (by omega) (by omega), Int.toNat_natCast, Int.toNat_natCast, cond_pos hi, cond_pos2 (by omega) (by omega)]
  have g1 := all_getD h2 hi
  unfold mgP
  by_cases hj : i + 1 < f.length
  · have g2 := all_getD h2 hj
    have g3 := genB_mgB g1 g2
    have l1 : (f.getD i segTy.zero).2.2.2.2.1.length ≤ 500000000 := by unfold genB at g1; simp only [Bool.and_eq_true, decide_eq_true_eq] at g1; exact g1.1.1
    have l2 : (f.getD (i + 1) segTy.zero).2.2.2.2.1.length ≤ 500000000 := by unfold genB at g2; simp only [Bool.and_eq_true, decide_eq_true_eq] at g2; exact g2.1.1
    have e3 : IntKind.i64.wrap (((f.getD i segTy.zero).2.2.2.2.1.length : Int) + ((f.getD (i + 1) segTy.zero).2.2.2.2.1.length : Int)) = ((f.getD i segTy.zero).2.2.2.2.1.length : Int) + ((f.getD (i + 1) segTy.zero).2.2.2.2.1.length : Int) := wrap64 (by omega) (by omega)
    rw [cond_pos hj, e3, g3, decide_eq_true hj]
    have b1 : decide ((0 : Int) ≤ (i : Int)) = true := decide_eq_true (by omega)
    have b2 : decide (((i + 2 : Nat) : Int) = (i : Int) + (2 : (Pat.int IntKind.i64).den)) = true := decide_eq_true (show ((i + 2 : Nat) : Int) = (i : Int) + (2 : Int) by omega)
    have b3 : decide (((i + 2 : Nat) : Int) ≤ (f.length : Int)) = true := decide_eq_true (by omega)
    have b4 : decide (f.length < 1000000000) = true := decide_eq_true h1
    rw [b1, b2, b3, b4]
    unfold mgL
    cases wholeS (f.getD i segTy.zero) with
    | false => rfl
    | true =>
      cases wholeS (f.getD (i + 1) segTy.zero) with
      | false => rfl
      | true =>
        simp only [Bool.true_and, cond_true, Option.bind_some, Bool.and_self]
        cases decide (((f.getD i segTy.zero).2.2.2.2.1.length : Int) + ((f.getD (i + 1) segTy.zero).2.2.2.2.1.length : Int) ≤ most) <;> rfl
  · rw [cond_neg hj, cond_pos (by omega), decide_eq_false hj]
    cases wholeS (f.getD i segTy.zero) <;> rfl
theorem me_last {R : Type} (most : Int) (q : Bool) (M : LogS) (h1 : M.1.length < 1000000000) (K : Ex → St → Option R) : roundK (env consR4) H.merge2 1 (LPof []) V.segs_Log_Merge_3 L.segs_Log_Merge_3 (meSt most q M M.1.length) K = K (.exit 0) (meSt most q M M.1.length) := by
  obtain ⟨f, b, n, z, rs⟩ := M
  refine (merge_rd _ _ _ _ _ _ _ _ _).trans ?_
  have e1 : IntKind.i64.wrap ((f.length : Int) + 1) = ((f.length + 1 : Nat) : Int) := by rw [wrap64 (by omega) (by simp only at h1; omega)]; omega
  simp only
  rw [e1, cond_neg (by omega)]
  rfl
abbrev meLC : LoopC := LoopC.of ⟨[(0, .lit (.ptr 0 (.tl 0) 0)), (1, .int .i64), (4, .bool), (5, .fn I.segs_Log_Merge_1 []), (6, .int .i64)], logP⟩
  (fun ⟨⟨_, most, q, _, i, _⟩, ⟨_, ⟨f, ⟨b, n, _, _, _, _, _, _, z, _, _⟩, _⟩, rs, _⟩⟩ => decide (i = (0 : Int)) && decide (List.length f < 1000000000) && List.all f genB)
  fun ⟨⟨_, most, q, _, i, _⟩, ⟨_, ⟨f, ⟨b, n, _, _, _, _, _, _, z, _, _⟩, _⟩, rs, _⟩⟩ => [((mgAt most f).isSome, .ret, meSt most true (mgL f ((mgAt most f).getD 0), b, n, z, rs) ((mgAt most f).getD 0)), (true, .exit 0, meSt most q (f, b, n, z, rs) (List.length f))]
theorem me_lok : LoopOK P0 H.merge2 1 L.segs_Log_Merge_3 meLC :=
  loop_ok_of (env_ok consR4_ok) glob0 mixed0 noLoops V.segs_Log_Merge_3 (by decide) fun ⟨⟨_, most, q, _, i, _⟩, ⟨_, ⟨f, ⟨b, n, _, _, _, _, _, _, z, _, _⟩, _⟩, rs, _⟩⟩ h hw => by
    simp only [Bool.and_eq_true, decide_eq_true_eq] at h
    obtain ⟨⟨rfl, h2⟩, h3⟩ := h
    exact ⟨_, Eq.trans (search_rounds (S := meSt most q (f, b, n, z, rs)) (T := fun i => meSt most true (mgL f i, b, n, z, rs) i) (p := mgP most f) (n := List.length f) (e1 := .ret) (e2 := .exit 0) (by simp) (by simp) (fun i hi K => me_step most q (f, b, n, z, rs) h2 h3 i hi K) (fun K => me_last most q (f, b, n, z, rs) h2 K) _ (List.length f) 0 (by omega)) search_pick⟩
theorem merge_ev (most : Int) (f : List Seg) (b n z : Int) (rs : List Rec) : evFnM 1 (env consR4) H.merge2 (LPof [(3, meLC)]) F.segs_Log_Merge [.ptr 0 (.tl 0) 0, .int .i64 most] [.arr 1 .bool [] [[.hw 1]], .arr 10 segT f [actC b n z], .log recT rs] (finVM .bool logQ 1 3) = bif decide (f.length < 1000000000) && f.all genB && (mgAt most f).isSome then some (true, (((), ()), ()), (), (), (mgL f ((mgAt most f).getD 0), (b, n, (), (), (), (), (), (), z, (), ()), ()), rs, ()) else bif decide (f.length < 1000000000) && f.all genB && true then some (false, (((), ()), ()), (), (), (f, (b, n, (), (), (), (), (), (), z, (), ()), ()), rs, ()) else none := by kernel_rfl
def caseMerge : VCase := ⟨[.lit (.ptr 0 (.tl 0) 0), .int .i64], logP, .bool, logQ, fun ⟨_, most, _⟩ ⟨_, ⟨f, ⟨b, n, _, _, _, _, _, _, z, _, _⟩, _⟩, rs, _⟩ => [(decide (List.length f < 1000000000) && List.all f genB, ((mgAt most f).isSome, ((((), ()), ()), (), (), ((mergeP most (f, b, n, z, rs)).1, ((mergeP most (f, b, n, z, rs)).2.1, (mergeP most (f, b, n, z, rs)).2.2.1, (), (), (), (), (), (), (mergeP most (f, b, n, z, rs)).2.2.2.1, (), ()), ()), (mergeP most (f, b, n, z, rs)).2.2.2.2, ())))]⟩
theorem merge_ok : caseMerge.e.ok P0 I.segs_Log_Merge := vcase_okM (c := caseMerge) (H := H.merge2) (E := env consR4) (env_ok consR4_ok) glob0 mixed0 G.segs_Log_Merge Bd.segs_Log_Merge 1 rfl (by kernel_rfl) (loops_good (tab := [(3, meLC)]) (by kernel_rfl) (fun x hx => by simp at hx; subst hx; exact me_lok)) fun ⟨_, most, _⟩ ⟨_, ⟨f, ⟨b, n, _, _, _, _, _, _, z, _, _⟩, _⟩, rs, _⟩ r h hw1 hw2 => by
  obtain ⟨hc, rfl⟩ := pick_pre h
  refine (merge_ev most f b n z rs).trans ?_
  have hc : (decide (List.length f < 1000000000) && List.all f genB) = true := hc
  rw [hc]
  unfold mergeP
  simp only
  cases (mgAt most f).isSome <;> rfl

end Go.Sim
namespace Go.Sim
set_option linter.unusedSimpArgs false
set_option linter.unusedVariables false
set_option maxRecDepth 10000
def catG (l : List Seg) : List Rec := (l.map fun g => g.2.2.2.2.1).flatten
def locG (l : List Seg) : Bool := l.all fun g => !g.2.2.2.2.2.2.2.1
theorem catG_cons (g : Seg) (l : List Seg) : catG (g :: l) = g.2.2.2.2.1 ++ catG l := by simp [catG]
theorem catG_append (l m : List Seg) : catG (l ++ m) = catG l ++ catG m := by simp [catG]
theorem catG_snoc (l : List Seg) (g : Seg) : catG (l ++ [g]) = catG l ++ g.2.2.2.2.1 := by simp [catG]
theorem locG_snoc (l : List Seg) (g : Seg) : locG (l ++ [g]) = (locG l && !g.2.2.2.2.2.2.2.1) := by simp [locG]
theorem catG_le (l : List Seg) : ∀ i, (catG (l.take i)).length ≤ (catG l).length := fun i => by
  have h : catG l = catG (l.take i) ++ catG (l.drop i) := by
    rw [← catG_append, List.take_append_drop]
  rw [h, List.length_append]
  omega
/-- How many of the first records stand ahead of an offset. -/
def notYet (nx : Int) (kp : List Rec) (k : Nat) : Bool := !decide ((kp.getD k recTy.zero).1 < nx)
def cutN (nx : Int) (kp : List Rec) : Nat := (firstFrom (notYet nx kp) 0 kp.length).getD kp.length
theorem cutN_le (nx : Int) (kp : List Rec) : cutN nx kp ≤ kp.length := by
  unfold cutN
  cases h : firstFrom (notYet nx kp) 0 kp.length with
  | none => exact Nat.le_refl _
  | some k =>
    have h2 : k < 0 + kp.length := (firstFrom_spec h).2.1
    show k ≤ _
    omega
theorem cutN_split {nx : Int} {X Y : List Rec} (h1 : ∀ r ∈ X, r.1 < nx) (h2 : ∀ r ∈ Y, nx ≤ r.1) : cutN nx (X ++ Y) = X.length := by
  have hX : ∀ k, k < X.length → notYet nx (X ++ Y) k = false := fun k hk => by
    unfold notYet
    have e : (X ++ Y).getD k recTy.zero = X[k] := by
      rw [List.getD_eq_getElem?_getD, List.getElem?_append_left hk, List.getElem?_eq_getElem hk]
      rfl
    rw [e, decide_eq_true (h1 _ (List.getElem_mem hk))]
    rfl
  unfold cutN
  cases h : firstFrom (notYet nx (X ++ Y)) 0 (X ++ Y).length with
  | none =>
    show (X ++ Y).length = _
    cases Y with
    | nil => simp
    | cons y Y =>
      have hn := firstFrom_none h X.length (Nat.zero_le _) (by simp)
      unfold notYet at hn
      have e : (X ++ y :: Y).getD X.length recTy.zero = y := by
        rw [List.getD_eq_getElem?_getD, List.getElem?_append_right (Nat.le_refl _)]
        simp
      rw [e] at hn
      have h3 : y.1 < nx := by simpa using hn
      have := h2 y List.mem_cons_self
      omega
  | some k =>
    show k = _
    obtain ⟨_, k2, k3, k4⟩ := firstFrom_spec h
    have hge : X.length ≤ k := by
      refine Nat.not_lt.1 fun hlt => ?_
      rw [hX k hlt] at k3
      cases k3
    cases Y with
    | nil => simp at k2; omega
    | cons y Y =>
      refine Nat.le_antisymm ?_ hge
      refine Nat.not_lt.1 fun hlt => ?_
      have hn := k4 X.length (Nat.zero_le _) hlt
      unfold notYet at hn
      have e : (X ++ y :: Y).getD X.length recTy.zero = y := by
        rw [List.getD_eq_getElem?_getD, List.getElem?_append_right (Nat.le_refl _)]
        simp
      rw [e] at hn
      have h3 : y.1 < nx := by simpa using hn
      have := h2 y List.mem_cons_self
      omega
/-- A segment once a clean has gone over it. -/
def clG (pt : Int) (g : Seg) (n : Nat) (kp : List Rec) : Seg :=
  (g.1, g.2.1, g.2.2.1, (bif decide ((n : Int) < (g.2.2.2.2.1.length : Int)) then IntKind.i64.wrap (g.2.2.2.1 + 1) else g.2.2.2.1), kp.take n, g.2.2.2.2.2.1, g.2.2.2.2.2.2.1 || decide (g.2.1 ≤ pt), g.2.2.2.2.2.2.2.1, ((bytS (kp.take n)).length : Int), g.2.2.2.2.2.2.2.2.2)
def clOne (pt : Int) (g : Seg) (kp : List Rec) : Seg × List Rec := bif !g.2.2.2.2.2.1 || g.2.2.2.2.2.2.2.1 then (g, kp) else (clG pt g (cutN g.2.1 kp) kp, kp.drop (cutN g.2.1 kp))
def clS (pt : Int) (f : List Seg) (kp : List Rec) : Nat → List Seg × List Rec
  | 0 => (f, kp)
  | i + 1 => ((clS pt f kp i).1.set i (clOne pt ((clS pt f kp i).1.getD i segTy.zero) (clS pt f kp i).2).1, (clOne pt ((clS pt f kp i).1.getD i segTy.zero) (clS pt f kp i).2).2)
def minZ (a b : Int) : Int := bif decide (b < a) then b else a
def cleanP (pt nw gr : Int) (M : LogS) : LogS := ((clS (minZ pt M.2.1) M.1 (keepL (minZ pt M.2.1) nw gr (locG (segsL M)) (catG (segsL M))) M.1.length).1, M.2)
def clR (pt : Int) : List Seg → List Rec → List Seg × List Rec
  | [], kp => ([], kp)
  | g :: f, kp => ((clOne pt g kp).1 :: (clR pt f (clOne pt g kp).2).1, (clR pt f (clOne pt g kp).2).2)
theorem clR_snoc (pt : Int) (g : Seg) : ∀ (f : List Seg) (kp : List Rec), clR pt (f ++ [g]) kp = ((clR pt f kp).1 ++ [(clOne pt g (clR pt f kp).2).1], (clOne pt g (clR pt f kp).2).2)
  | [], kp => rfl
  | x :: f, kp => by
    have ih := clR_snoc pt g f (clOne pt x kp).2
    simp only [List.cons_append, clR, ih]
theorem clR_len (pt : Int) : ∀ (f : List Seg) (kp : List Rec), (clR pt f kp).1.length = f.length
  | [], kp => rfl
  | x :: f, kp => by simp only [clR, List.length_cons, clR_len pt f]
theorem clS_clR (pt : Int) (f : List Seg) (kp : List Rec) : ∀ i, i ≤ f.length → clS pt f kp i = ((clR pt (f.take i) kp).1 ++ f.drop i, (clR pt (f.take i) kp).2)
  | 0, _ => by simp [clS, clR]
  | i + 1, h => by
    have ih := clS_clR pt f kp i (by omega)
    have hl : (clR pt (f.take i) kp).1.length = i := by rw [clR_len]; simp; omega
    have e : f.drop i = f.getD i segTy.zero :: f.drop (i + 1) := by
      rw [List.drop_eq_getElem_cons (by omega), List.getD_eq_getElem?_getD, List.getElem?_eq_getElem (by omega)]
      rfl
    have eg : ((clR pt (f.take i) kp).1 ++ f.drop i).getD i segTy.zero = f.getD i segTy.zero := by
      rw [e, List.getD_eq_getElem?_getD, List.getElem?_append_right (by omega), hl]
      simp
    simp only [clS, ih]
    rw [eg, stake_snoc (by omega), clR_snoc]
    rw [e]
    congr 1
    rw [List.set_append_right _ _ (by omega), hl, Nat.sub_self]
    simp
theorem clS_all (pt : Int) (f : List Seg) (kp : List Rec) : clS pt f kp f.length = clR pt f kp := by
  rw [clS_clR pt f kp f.length (Nat.le_refl _), List.take_length, List.drop_length, List.append_nil]
/-! logs without remote segments -/
def recsIn (a b : Int) (l : List Rec) : Prop := (∀ r ∈ l, a ≤ r.1 ∧ r.1 < b) ∧ sortO l
def chainF : Int → List Seg → Int → Prop
  | a, [], e => a = e
  | a, g :: f, e => g.1 = a ∧ a ≤ g.2.1 ∧ recsIn g.1 g.2.1 g.2.2.2.2.1 ∧ (g.2.2.2.2.2.1 = true ∧ g.2.2.2.2.2.2.2.1 = false) ∧ chainF g.2.1 f e
theorem chainF_le : ∀ {f : List Seg} {a e : Int}, chainF a f e → a ≤ e
  | [], a, e, h => by
    have h : a = e := h
    omega
  | g :: f, a, e, h => by
    have := chainF_le h.2.2.2.2
    have := h.2.1
    omega
theorem chainF_mem : ∀ {f : List Seg} {a e : Int}, chainF a f e → ∀ r ∈ catG f, a ≤ r.1 ∧ r.1 < e
  | [], a, e, h, r, hr => by cases hr
  | g :: f, a, e, h, r, hr => by
    obtain ⟨h1, h2, h3, h4, h5⟩ := h
    have hle := chainF_le h5
    rw [catG_cons] at hr
    rcases List.mem_append.1 hr with hr | hr
    · have := h3.1 r hr
      omega
    · have := chainF_mem h5 r hr
      omega
theorem sortO_append : ∀ {l m : List Rec}, sortO l → sortO m → (∀ x ∈ l, ∀ y ∈ m, x.1 < y.1) → sortO (l ++ m)
  | [], m, _, h2, _ => h2
  | x :: l, m, h1, h2, h3 => ⟨fun q hq => by
      rcases List.mem_append.1 hq with hq | hq
      · exact h1.1 q hq
      · exact h3 x List.mem_cons_self q hq, sortO_append h1.2 h2 fun y hy => h3 y (List.mem_cons_of_mem _ hy)⟩
theorem chainF_sort : ∀ {f : List Seg} {a e : Int}, chainF a f e → sortO (catG f)
  | [], a, e, h => trivial
  | g :: f, a, e, h => by
    obtain ⟨h1, h2, h3, h4, h5⟩ := h
    rw [catG_cons]
    refine sortO_append h3.2 (chainF_sort h5) fun x hx y hy => ?_
    have := h3.1 x hx
    have := chainF_mem h5 y hy
    omega
theorem keptP_sort {pt nw gr : Int} {d : Bool} {ys : List Rec} : ∀ {xs : List Rec}, sortO xs → sortO (keptP pt nw gr d ys xs)
  | [], _ => trivial
  | r :: xs, h => by
    unfold keptP
    cases staysR pt nw gr d r (xs ++ ys) with
    | true => exact ⟨fun q hq => h.1 q (keptP_mem hq), keptP_sort h.2⟩
    | false => exact keptP_sort h.2
theorem clR_chain (pt P nw gr : Int) (d : Bool) : ∀ {f : List Seg} {a e : Int}, chainF a f e → ∀ rest : List Rec, (∀ r ∈ rest, e ≤ r.1) →
    chainF a (clR pt f (keepL P nw gr d (catG f ++ rest))).1 e ∧ (clR pt f (keepL P nw gr d (catG f ++ rest))).2 = keepL P nw gr d rest ∧ catG (clR pt f (keepL P nw gr d (catG f ++ rest))).1 ++ keepL P nw gr d rest = keepL P nw gr d (catG f ++ rest)
  | [], a, e, h, rest, hr => ⟨h, rfl, rfl⟩
  | g :: f, a, e, h, rest, hr => by
    obtain ⟨h1, h2, h3, ⟨h4, h4'⟩, h5⟩ := h
    have hle := chainF_le h5
    have ha : keepL P nw gr d (catG (g :: f) ++ rest) = keptP P nw gr d (catG f ++ rest) g.2.2.2.2.1 ++ keepL P nw gr d (catG f ++ rest) := by
      rw [catG_cons, List.append_assoc, keepL_append]
    have hc : cutN g.2.1 (keepL P nw gr d (catG (g :: f) ++ rest)) = (keptP P nw gr d (catG f ++ rest) g.2.2.2.2.1).length := by
      rw [ha]
      refine cutN_split (fun r hr2 => (h3.1 r (keptP_mem hr2)).2) fun r hr2 => ?_
      rcases List.mem_append.1 (keepL_mem hr2) with hr3 | hr3
      · exact (chainF_mem h5 r hr3).1
      · have := hr r hr3
        omega
    have ho : clOne pt g (keepL P nw gr d (catG (g :: f) ++ rest)) = (clG pt g (cutN g.2.1 (keepL P nw gr d (catG (g :: f) ++ rest))) (keepL P nw gr d (catG (g :: f) ++ rest)), keepL P nw gr d (catG f ++ rest)) := by
      unfold clOne
      rw [h4, h4', hc, ha]
      simp
    obtain ⟨i1, i2, i3⟩ := clR_chain pt P nw gr d h5 rest hr
    unfold clR
    rw [ho]
    simp only
    have hg : (clG pt g (cutN g.2.1 (keepL P nw gr d (catG (g :: f) ++ rest))) (keepL P nw gr d (catG (g :: f) ++ rest))).2.2.2.2.1 = keptP P nw gr d (catG f ++ rest) g.2.2.2.2.1 := by
      show List.take _ _ = _
      rw [hc, ha]
      simp
    refine ⟨⟨h1, h2, ?_, ⟨h4, h4'⟩, i1⟩, i2, ?_⟩
    · rw [hg]
      exact ⟨fun r hr2 => h3.1 r (keptP_mem hr2), keptP_sort h3.2⟩
    · rw [catG_cons, hg, List.append_assoc, i3, ha]
end Go.Sim
