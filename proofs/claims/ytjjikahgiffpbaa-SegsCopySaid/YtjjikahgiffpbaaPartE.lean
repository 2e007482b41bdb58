/-
  WkU4: walks of a log of segments: New, Seal, Append. · WkU5: walks of a log of segments: Append, all. · WkU6: walks of a log of segments: Clone, all, Segments; segments alike. · WkU7: the law SegsSeals. · WkR1: slices.Replace over segments as they are. · WkR2: slices.Replace over a log's segments. · WkR3: rows of records put together. · WkU8: walks for SegsOf: what may be a log's segments. · WkU9: walks for SegsOf: Of, RightLog, SameSegments. · WkUA: the law SegsOf. · WkUB: the law SegsOf, last part. · WkR4: two segments put together. · SimCut: code in parts. · WkW1: the document's log: New, Low, High, remote, Seal.
-/
import Derived.Test.YtjjikahgiffpbaaPartD
namespace Go.Sim
set_option linter.unusedSimpArgs false
set_option linter.unusedVariables false
set_option maxRecDepth 10000
abbrev segT : Ty := .pair (.int .i64) (.pair (.int .i64) (.pair (.int .i64) (.pair (.int .i64) (.pair (.sl recT) (.pair .bool (.pair .bool (.pair .bool (.pair (.int .i64) (.int .u32)))))))))
def latI (l : List Rec) : Nat → Int
  | 0 => 0
  | i + 1 => bif decide (i = 0) || decide ((l.getD i recTy.zero).2.1 > latI l i) then (l.getD i recTy.zero).2.1 else latI l i
def latS (l : List Rec) : Int := latI l l.length
def laSt (l : List Rec) (i : Nat) : St := ⟨[(3, .int .i64 (latI l i)), (6, .vl recT l), (7, .int .i64 l.length), (8, .int .i64 i)], [], 0⟩
theorem i0_dec (i : Nat) : ((i : Int) == 0) = decide (i = 0) := by
  by_cases h : i = 0
  · subst h; rfl
  · rw [decide_eq_false h]
    simp
    exact h
theorem la_rounds {R : Type} (l : List Rec) (hl : l.length ≤ maxL) (K : Ex → St → Option R) : ∀ (m i : Nat), i + m = l.length → rounds (env []) H.f67 0 (LPof []) V.f67_3 L.f67_3 (m + 1) (laSt l i) K = K (.exit 0) (laSt l l.length)
  | 0, i, h => by
    obtain rfl : i = l.length := by omega
    rw [rounds_succ']
    refine (latest_rd _ _ _ _ _).trans ?_
    rw [cond_neg (by omega)]
    rfl
  | m + 1, i, h => by
    have ih := la_rounds l hl K m (i + 1) (by omega)
    unfold maxL at hl
    have e3 : IntKind.i64.wrap ((i : Int) + 1) = ((i + 1 : Nat) : Int) := by rw [wrap64 (by omega) (by omega)]; omega
    rw [rounds_succ']
    refine (latest_rd _ _ _ _ _).trans ?_
    rw [cond_pos (by omega), cond_pos2 (by omega) (by omega), Int.toNat_natCast, e3, i0_dec, or_bif, Option.bind_some]
    have e4 : latI l (i + 1) = bif decide (i = 0) || decide ((l.getD i recTy.zero).2.1 > latI l i) then (l.getD i recTy.zero).2.1 else latI l i := rfl
    unfold laSt at ih
    rw [e4] at ih
    cases hb : decide (i = 0) || decide ((l.getD i recTy.zero).2.1 > latI l i) with
    | true => rw [hb] at ih; exact ih
    | false => rw [hb] at ih; exact ih
abbrev laLC : LoopC := LoopC.of ⟨[(3, .int .i64), (6, .vl recT), (7, .int .i64), (8, .int .i64)], []⟩ (fun x => decide (x.1.1 = (0 : Int)) && decide (x.1.2.2.2.1 = (0 : Int)) && decide (x.1.2.2.1 = (List.length x.1.2.1 : Int)))
  fun x => [(true, .exit 0, laSt x.1.2.1 (List.length x.1.2.1))]
theorem la_lok : LoopOK P0 H.f67 0 L.f67_3 laLC :=
  loop_ok_of (env_ok env_nil) glob0 mixed0 noLoops V.f67_3 (by decide) fun ⟨⟨t, l, n, i, _⟩, _⟩ h hw => by
    simp only [Bool.and_eq_true, decide_eq_true_eq] at h
    obtain ⟨⟨rfl, rfl⟩, rfl⟩ := h
    exact ⟨_, la_rounds l hw.1.2.1.1 _ l.length 0 (Nat.zero_add _)⟩
theorem latest_ev (l : List Rec) : evFn (env []) H.f67 (LPof [(3, laLC)]) F.f67 [.vl recT l] [] (finT [.int .i64]) = bif decide ((↑l.length : Int) = (↑l.length : Int)) && true then some (latI l l.length, ()) else none := by kernel_rfl
def caseLatest : PCase := ⟨[.ty (.sl recT)], [.int .i64], fun x => (fun (l : List Rec) => [(true, (latS l, ()))]) x.1⟩
theorem latest_val (l : List Rec) : evFn (env []) H.f67 (LPof [(3, laLC)]) F.f67 [.vl recT l] [] (finT [.int .i64]) = some (latS l, ()) := by
  rw [latest_ev]
  simp only [decide_true, Bool.and_self, cond_true]
  rfl
theorem latest_ok : caseLatest.ok P0 I.f67 := case_ok2 (H := H.f67) (E := env []) (env_ok env_nil) glob0 mixed0 G.f67 Bd.f67 (by kernel_rfl) (loops_good (tab := [(3, laLC)]) (by kernel_rfl) (fun x hx => by simp at hx; subst hx; exact la_lok)) fun ⟨l, ()⟩ y h hw => by
  obtain ⟨hc, rfl⟩ := pick_pre h
  exact latest_val l
abbrev actP : List Pat := [.int .i64, .int .i64, .lit (.int .i64 0), .lit (.int .i64 0), .lit (.hw 2), .lit (.bool false), .lit (.bool false), .lit (.bool false), .int .i64, .lit (.int .u32 0)]
def H.active2 : Hint := { H.f62 with tp := [13] }
theorem active_ev (f : List Seg) (b n z : Int) (rs : List Rec) : evFn (env []) H.active2 (LPof []) F.f62 [.ptr 0 (.tl 0) 0] [.arr 1 .bool [] [[.hw 1]], .arr 10 segT f [[.int .i64 b, .int .i64 n, .int .i64 0, .int .i64 0, .hw 2, .bool false, .bool false, .bool false, .int .i64 z, .int .u32 0]], .log recT rs] (finV (.lit (.ptr 1 (.tl 0) 0)) [.box 1 [[.lit (.hw 1)]], .arr 10 segT [actP], .log recT] 3) = bif decide ((0 : Int) ≤ IntKind.i64.wrap ((↑(f.length + 1) : Int) - (1 : Int))) && decide (IntKind.i64.wrap ((↑(f.length + 1) : Int) - (1 : Int)) < (↑(f.length + 1) : Int)) then bif decide ((IntKind.i64.wrap ((↑(f.length + 1) : Int) - (1 : Int))).toNat < f.length) then none else bif decide ((IntKind.i64.wrap ((↑(f.length + 1) : Int) - (1 : Int))).toNat - f.length = 0) then some ((), (((), ()), ()), (f, (b, n, (), (), (), (), (), (), z, (), ()), ()), rs, ()) else none else none := by kernel_rfl
def H.new2 : Hint := { H.f63 with lg := [(1, 27)] }
theorem new_ev : evFn (env []) H.new2 (LPof []) F.f63 [] [] (finV (.lit (.ptr 0 (.tl 0) 0)) [.box 1 [[.lit (.hw 1)]], .arr 10 segT [actP], .log recT] 0) = some ((), (((), ()), ()), ([], ((0 : Int), (0 : Int), (), (), (), (), (), (), (0 : Int), (), ()), ()), [], ()) := by kernel_rfl
abbrev logP : List OPat := [.box 1 [[.lit (.hw 1)]], .arr 10 segT [actP], .log recT]
abbrev actC (b n z : Int) : List AV := [.int .i64 b, .int .i64 n, .int .i64 0, .int .i64 0, .hw 2, .bool false, .bool false, .bool false, .int .i64 z, .int .u32 0]
def caseActive : VCase := ⟨[.lit (.ptr 0 (.tl 0) 0)], logP, .lit (.ptr 1 (.tl 0) 0), logP, fun _ ⟨a, ⟨f, y⟩, rs, _⟩ => [(decide (List.length f ≤ 1000000000), ((), (a, (f, y), rs, ())))]⟩
theorem act_ok : caseActive.e.ok P0 I.f62 := vcase_ok (c := caseActive) (H := H.active2) (E := env []) (env_ok env_nil) glob0 mixed0 G.f62 Bd.f62 (by kernel_rfl) noLoops fun _ ⟨_, ⟨f, ⟨b, n, _, _, _, _, _, _, z, _, _⟩, _⟩, rs, _⟩ r h hw1 hw2 => by
  obtain ⟨hc, rfl⟩ := pick_pre h
  have hc := of_decide_eq_true hc
  have e : IntKind.i64.wrap (((f.length + 1 : Nat) : Int) - 1) = (f.length : Int) := by rw [wrap64 (by omega) (by omega)]; omega
  refine (active_ev f b n z rs).trans ?_
  rw [e, cond_pos2 (by omega) (by omega), Int.toNat_natCast, cond_neg (by omega), cond_pos (by omega)]
  rfl
noncomputable abbrev consS1 : List (FuncId × Con) := [(I.f62, .eff (effOf [caseActive.e])), (I.f67, .pure (pureOf [caseLatest])), (I.f71, .pure (pureOf [caseSize])), (I.f43, .pure (pureOf [caseRecright]))]
theorem consS1_ok : ∀ x ∈ consS1, HoldsC P0 x.1 x.2 := by
  intro x hx
  simp at hx
  rcases hx with rfl | rfl | rfl | rfl
  · exact ⟨fun args objs r objs2 h _ => effOf_holds (by simp; exact act_ok) args objs r objs2 h, C.f62⟩
  · exact ⟨pureOf_holds (by simp; exact latest_ok), C.f67⟩
  · exact ⟨pureOf_holds (by simp; exact size_ok), C.f71⟩
  · exact ⟨pureOf_holds (by simp; exact recright_ok), C.f43⟩
abbrev LogS := List Seg × Int × Int × Int × List Rec
def actS (L : LogS) : Seg := (L.2.1, L.2.2.1, 0, 0, L.2.2.2.2, false, false, false, L.2.2.2.1, 0)
def segsL (L : LogS) : List Seg := L.1 ++ [actS L]
abbrev actQ : List Pat := [.int .i64, .int .i64, .lit (.int .i64 0), .lit (.int .i64 0), .lit (.hw 4), .lit (.bool false), .lit (.bool false), .lit (.bool false), .int .i64, .lit (.int .u32 0)]
abbrev logQ : List OPat := [.box 1 [[.lit (.hw 3)]], .dead, .dead, .arr 10 segT [actQ], .log recT]
def sealP (L : LogS) : LogS := bif L.2.1 == L.2.2.1 then L else (L.1 ++ [(L.2.1, L.2.2.1, latS L.2.2.2.2, 0, L.2.2.2.2, true, false, false, L.2.2.2.1, 0)], L.2.2.1, L.2.2.1, 0, [])
def lowP (L : LogS) : Int := bif decide (0 < L.1.length) then (L.1.getD 0 segTy.zero).1 else L.2.1
def smallS (g : Seg) : Bool := decide (g.2.2.2.2.1.length ≤ 1000000000)
def okB (c : Nat) (L : LogS) : Bool := decide (0 ≤ L.2.1) && decide (L.2.1 ≤ L.2.2.1) && decide (L.2.2.1 ≤ c) && decide (0 ≤ L.2.2.2.1) && decide (L.2.2.2.1 ≤ 2260 * c) && decide (L.1.length ≤ c) && decide (L.2.2.2.2.length ≤ c) && L.1.all smallS
theorem okB_iff {c : Nat} {L : LogS} : okB c L = true ↔ 0 ≤ L.2.1 ∧ L.2.1 ≤ L.2.2.1 ∧ L.2.2.1 ≤ c ∧ 0 ≤ L.2.2.2.1 ∧ L.2.2.2.1 ≤ 2260 * c ∧ L.1.length ≤ c ∧ L.2.2.2.2.length ≤ c ∧ L.1.all smallS = true := by
  unfold okB
  simp only [Bool.and_eq_true, decide_eq_true_eq]
  exact ⟨fun ⟨⟨⟨⟨⟨⟨⟨a, b⟩, c⟩, d⟩, e⟩, f⟩, g⟩, h⟩ => ⟨a, b, c, d, e, f, g, h⟩, fun ⟨a, b, c, d, e, f, g, h⟩ => ⟨⟨⟨⟨⟨⟨⟨a, b⟩, c⟩, d⟩, e⟩, f⟩, g⟩, h⟩⟩
theorem okB_mono {c d : Nat} {L : LogS} (h : okB c L = true) (hd : c ≤ d) : okB d L = true := by
  obtain ⟨h1, h2, h3, h4, h5, h6, h7, h9⟩ := okB_iff.1 h
  exact okB_iff.2 ⟨h1, h2, by omega, h4, by omega, by omega, by omega, h9⟩
theorem sealP_ok {c : Nat} {L : LogS} (h : okB c L = true) (hc : c ≤ 1000000000) : okB (c + 1) (sealP L) = true := by
  obtain ⟨h1, h2, h3, h4, h5, h6, h7, h9⟩ := okB_iff.1 h
  unfold sealP
  cases hb : L.2.1 == L.2.2.1 with
  | true => exact okB_mono h (by omega)
  | false => exact okB_iff.2 ⟨by simp; omega, by simp, by simp; omega, by simp, by simp; omega, by simp; omega, by simp, by simp only [cond_false, List.all_append, h9, Bool.true_and, List.all_cons, List.all_nil, Bool.and_true]; exact decide_eq_true (show L.2.2.2.2.length ≤ 1000000000 by omega)⟩
theorem high_ev (f : List Seg) (b n z : Int) (rs : List Rec) : evFn (env consS1) H.f53 (LPof []) F.f53 [.ptr 0 (.tl 0) 0] [.arr 1 .bool [] [[.hw 1]], .arr 10 segT f [actC b n z], .log recT rs] (finV (.int .i64) logP 3) = bif decide (f.length ≤ 1000000000) then some (n, (((), ()), ()), (f, (b, n, (), (), (), (), (), (), z, (), ()), ()), rs, ()) else none := by kernel_rfl
theorem low_ev (f : List Seg) (b n z : Int) (rs : List Rec) : evFn (env consS1) H.f54 (LPof []) F.f54 [.ptr 0 (.tl 0) 0] [.arr 1 .bool [] [[.hw 1]], .arr 10 segT f [actC b n z], .log recT rs] (finV (.int .i64) logP 3) = bif decide ((0 : Int) < (↑(f.length + 1) : Int)) then bif decide (0 < f.length) then some ((f.getD 0 segTy.zero).1, (((), ()), ()), (f, (b, n, (), (), (), (), (), (), z, (), ()), ()), rs, ()) else bif decide (0 - f.length = 0) then some (b, (((), ()), ()), (f, (b, n, (), (), (), (), (), (), z, (), ()), ()), rs, ()) else none else none := by kernel_rfl
def H.seal2 : Hint := { H.f60 with lg := [(38, 27)] }
theorem seal_ev (f : List Seg) (b n z : Int) (rs : List Rec) : evFnM 1 (env consS1) H.seal2 (LPof []) F.f60 [.ptr 0 (.tl 0) 0] [.arr 1 .bool [] [[.hw 1]], .arr 10 segT f [actC b n z], .log recT rs] (finVM (.lit (.tup [])) logQ 1 3) = bif decide (f.length ≤ 1000000000) then bif b == n then some ((), (((), ()), ()), (), (), (f, (b, n, (), (), (), (), (), (), z, (), ()), ()), rs, ()) else bif decide ((f.length + 2) * 80 ≤ 140737488355328) then some ((), (((), ()), ()), (), (), (f ++ [(b, n, latS rs, (0 : Int), rs, true, false, false, z, (0 : Int))], (n, n, (), (), (), (), (), (), (0 : Int), (), ()), ()), [], ()) else none else none := by kernel_rfl
def caseHigh : VCase := ⟨[.lit (.ptr 0 (.tl 0) 0)], logP, .int .i64, logP, fun _ ⟨_, ⟨f, ⟨b, n, _, _, _, _, _, _, z, _, _⟩, _⟩, rs, _⟩ => [(decide (List.length f ≤ 1000000000), (n, ((((), ()), ()), (f, (b, n, (), (), (), (), (), (), z, (), ()), ()), rs, ())))]⟩
theorem high_ok : caseHigh.e.ok P0 I.f53 := vcase_ok (c := caseHigh) (H := H.f53) (E := env consS1) (env_ok consS1_ok) glob0 mixed0 G.f53 Bd.f53 (by kernel_rfl) noLoops fun _ ⟨_, ⟨f, ⟨b, n, _, _, _, _, _, _, z, _, _⟩, _⟩, rs, _⟩ r h hw1 hw2 => by
  obtain ⟨hc, rfl⟩ := pick_pre h
  refine (high_ev f b n z rs).trans ?_
  have hc : decide (List.length f ≤ 1000000000) = true := hc
  rw [hc]
  rfl
def caseLow : VCase := ⟨[.lit (.ptr 0 (.tl 0) 0)], logP, .int .i64, logP, fun _ ⟨_, ⟨f, ⟨b, n, _, _, _, _, _, _, z, _, _⟩, _⟩, rs, _⟩ => [(true, (lowP (f, b, n, z, rs), ((((), ()), ()), (f, (b, n, (), (), (), (), (), (), z, (), ()), ()), rs, ())))]⟩
theorem low_ok : caseLow.e.ok P0 I.f54 := vcase_ok (c := caseLow) (H := H.f54) (E := env consS1) (env_ok consS1_ok) glob0 mixed0 G.f54 Bd.f54 (by kernel_rfl) noLoops fun _ ⟨_, ⟨f, ⟨b, n, _, _, _, _, _, _, z, _, _⟩, _⟩, rs, _⟩ r h hw1 hw2 => by
  obtain ⟨hc, rfl⟩ := pick_pre h
  refine (low_ev f b n z rs).trans ?_
  rw [cond_pos (by omega)]
  unfold lowP
  simp only
  by_cases h0 : 0 < List.length f
  · rw [cond_pos h0, cond_pos h0]
    rfl
  · rw [cond_neg h0, cond_neg h0, cond_pos (by omega)]
    rfl
def caseSeal : VCase := ⟨[.lit (.ptr 0 (.tl 0) 0)], logP, .lit (.tup []), logQ, fun _ ⟨_, ⟨f, ⟨b, n, _, _, _, _, _, _, z, _, _⟩, _⟩, rs, _⟩ => [(decide (List.length f ≤ 1000000000), ((), ((((), ()), ()), (), (), ((sealP (f, b, n, z, rs)).1, ((sealP (f, b, n, z, rs)).2.1, (sealP (f, b, n, z, rs)).2.2.1, (), (), (), (), (), (), (sealP (f, b, n, z, rs)).2.2.2.1, (), ()), ()), (sealP (f, b, n, z, rs)).2.2.2.2, ())))]⟩
theorem seal_ok : caseSeal.e.ok P0 I.f60 := vcase_okM (c := caseSeal) (H := H.seal2) (E := env consS1) (env_ok consS1_ok) glob0 mixed0 G.f60 Bd.f60 1 rfl (by kernel_rfl) noLoops fun _ ⟨_, ⟨f, ⟨b, n, _, _, _, _, _, _, z, _, _⟩, _⟩, rs, _⟩ r h hw1 hw2 => by
  obtain ⟨hc, rfl⟩ := pick_pre h
  refine (seal_ev f b n z rs).trans ?_
  have hc : List.length f ≤ 1000000000 := of_decide_eq_true hc
  rw [cond_pos hc]
  unfold sealP
  simp only
  cases hb : b == n with
  | true => rfl
  | false =>
    rw [cond_false, cond_pos (by omega)]
    rfl
def caseNew : VCase := ⟨[], [], .lit (.ptr 0 (.tl 0) 0), logP, fun _ _ => [(true, ((), ((((), ()), ()), ([], (0, 0, (), (), (), (), (), (), 0, (), ()), ()), [], ())))]⟩
theorem new_ok : caseNew.e.ok P0 I.f63 := vcase_ok (c := caseNew) (H := H.new2) (E := env []) (env_ok env_nil) glob0 mixed0 G.f63 Bd.f63 (by kernel_rfl) noLoops fun _ _ r h hw1 hw2 => by
  obtain ⟨hc, rfl⟩ := pick_pre h
  exact new_ev
noncomputable abbrev consS2 : List (FuncId × Con) := [(I.f60, .eff (effOf [caseSeal.e])), (I.f53, .eff (effOf [caseHigh.e])), (I.f54, .eff (effOf [caseLow.e])), (I.f63, .eff (effOf [caseNew.e]))] ++ consS1
theorem consS2_ok : ∀ x ∈ consS2, HoldsC P0 x.1 x.2 := by
  intro x hx
  rcases List.mem_append.1 hx with hx | hx
  · simp at hx
    rcases hx with rfl | rfl | rfl | rfl
    · exact ⟨fun args objs r objs2 h _ => effOf_holds (by simp; exact seal_ok) args objs r objs2 h, C.f60⟩
    · exact ⟨fun args objs r objs2 h _ => effOf_holds (by simp; exact high_ok) args objs r objs2 h, C.f53⟩
    · exact ⟨fun args objs r objs2 h _ => effOf_holds (by simp; exact low_ok) args objs r objs2 h, C.f54⟩
    · exact ⟨fun args objs r objs2 h _ => effOf_holds (by simp; exact new_ok) args objs r objs2 h, C.f63⟩
  · exact consS1_ok x hx
theorem append_rd {R : Type} (most fi : Int) (so : Bool) (l : List Rec) (m i : Int) (f : List Seg) (b n z : Int) (rs : List Rec) (K : Ex → St → Option R) : roundK (env consS2) H.f48 1 (LPof []) V.f48_3 L.f48_3 ⟨[(0, .ptr 0 (.tl 0) 0), (2, .int .i64 most), (7, .int .i64 fi), (8, .bool so), (14, .vl recT l), (15, .int .i64 m), (16, .int .i64 i)], [(0, .arr 1 .bool [] [[.hw 1]]), (1, .arr 10 segT f [actC b n z]), (2, .log recT rs)], 3⟩ K = bif decide (i < m) then bif decide ((0 : Int) ≤ i) && decide (i < (↑l.length : Int)) then bif !recR ((0 : Int), (l.getD i.toNat recTy.zero).2) then K .normal { slots := [(0, .ptr 0 (.tl 0) 0), (2, .int .i64 most), (7, .int .i64 fi), (8, .bool so), (14, .vl recTy l), (15, .int .i64 m), (16, .int .i64 (IntKind.i64.wrap (i + (1 : Int))))], objs := [(0, .arr 1 .bool [] [[.hw 1]]), (1, .arr 10 segTy f [[.int .i64 b, .int .i64 n, .int .i64 (0 : Int), .int .i64 (0 : Int), .hw 2, .bool false, .bool false, .bool false, .int .i64 z, .int .u32 (0 : Int)]]), (2, .log recTy rs)], nx := 3 } else bif decide (f.length ≤ 1000000000) then bif !so then bif decide ((rs ++ [(n, (l.getD i.toNat recTy.zero).2)]).length * 56 ≤ 140737488355328) then bif decide (IntKind.i64.wrap (IntKind.i64.wrap (n + (1 : Int)) - b) ≥ bif decide (most > (1 : Int)) then most else (1 : Int)) then bif decide (f.length ≤ 1000000000) then K .normal { slots := [(0, .ptr 0 (.tl 0) 0), (2, .int .i64 most), (7, .int .i64 n), (8, .bool true), (14, .vl recTy l), (15, .int .i64 m), (16, .int .i64 (IntKind.i64.wrap (i + (1 : Int))))], objs := [(0, .arr 1 .bool [] [[.hw 1]]), (1, .arr 10 segTy (sealP (f, b, IntKind.i64.wrap (n + (1 : Int)), IntKind.i64.wrap (z + (↑(bytS [(n, (l.getD i.toNat recTy.zero).2)]).length : Int)), rs ++ [(n, (l.getD i.toNat recTy.zero).2)])).1 [[.int .i64 (sealP (f, b, IntKind.i64.wrap (n + (1 : Int)), IntKind.i64.wrap (z + (↑(bytS [(n, (l.getD i.toNat recTy.zero).2)]).length : Int)), rs ++ [(n, (l.getD i.toNat recTy.zero).2)])).2.1, .int .i64 (sealP (f, b, IntKind.i64.wrap (n + (1 : Int)), IntKind.i64.wrap (z + (↑(bytS [(n, (l.getD i.toNat recTy.zero).2)]).length : Int)), rs ++ [(n, (l.getD i.toNat recTy.zero).2)])).2.2.1, .int .i64 (0 : Int), .int .i64 (0 : Int), .hw 2, .bool false, .bool false, .bool false, .int .i64 (sealP (f, b, IntKind.i64.wrap (n + (1 : Int)), IntKind.i64.wrap (z + (↑(bytS [(n, (l.getD i.toNat recTy.zero).2)]).length : Int)), rs ++ [(n, (l.getD i.toNat recTy.zero).2)])).2.2.2.1, .int .u32 (0 : Int)]]), (2, .log recTy (sealP (f, b, IntKind.i64.wrap (n + (1 : Int)), IntKind.i64.wrap (z + (↑(bytS [(n, (l.getD i.toNat recTy.zero).2)]).length : Int)), rs ++ [(n, (l.getD i.toNat recTy.zero).2)])).2.2.2.2)], nx := 3 } else none else K .normal { slots := [(0, .ptr 0 (.tl 0) 0), (2, .int .i64 most), (7, .int .i64 n), (8, .bool true), (14, .vl recTy l), (15, .int .i64 m), (16, .int .i64 (IntKind.i64.wrap (i + (1 : Int))))], objs := [(0, .arr 1 .bool [] [[.hw 1]]), (1, .arr 10 segTy f [[.int .i64 b, .int .i64 (IntKind.i64.wrap (n + (1 : Int))), .int .i64 (0 : Int), .int .i64 (0 : Int), .hw 2, .bool false, .bool false, .bool false, .int .i64 (IntKind.i64.wrap (z + (↑(bytS [(n, (l.getD i.toNat recTy.zero).2)]).length : Int))), .int .u32 (0 : Int)]]), (2, .log recTy (rs ++ [(n, (l.getD i.toNat recTy.zero).2)]))], nx := 3 } else none else bif decide ((rs ++ [(n, (l.getD i.toNat recTy.zero).2)]).length * 56 ≤ 140737488355328) then bif decide (IntKind.i64.wrap (IntKind.i64.wrap (n + (1 : Int)) - b) ≥ bif decide (most > (1 : Int)) then most else (1 : Int)) then bif decide (f.length ≤ 1000000000) then K .normal { slots := [(0, .ptr 0 (.tl 0) 0), (2, .int .i64 most), (7, .int .i64 fi), (8, .bool so), (14, .vl recTy l), (15, .int .i64 m), (16, .int .i64 (IntKind.i64.wrap (i + (1 : Int))))], objs := [(0, .arr 1 .bool [] [[.hw 1]]), (1, .arr 10 segTy (sealP (f, b, IntKind.i64.wrap (n + (1 : Int)), IntKind.i64.wrap (z + (↑(bytS [(n, (l.getD i.toNat recTy.zero).2)]).length : Int)), rs ++ [(n, (l.getD i.toNat recTy.zero).2)])).1 [[.int .i64 (sealP (f, b, IntKind.i64.wrap (n + (1 : Int)), IntKind.i64.wrap (z + (↑(bytS [(n, (l.getD i.toNat recTy.zero).2)]).length : Int)), rs ++ [(n, (l.getD i.toNat recTy.zero).2)])).2.1, .int .i64 (sealP (f, b, IntKind.i64.wrap (n + (1 : Int)), IntKind.i64.wrap (z + (↑(bytS [(n, (l.getD i.toNat recTy.zero).2)]).length : Int)), rs ++ [(n, (l.getD i.toNat recTy.zero).2)])).2.2.1, .int .i64 (0 : Int), .int .i64 (0 : Int), .hw 2, .bool false, .bool false, .bool false, .int .i64 (sealP (f, b, IntKind.i64.wrap (n + (1 : Int)), IntKind.i64.wrap (z + (↑(bytS [(n, (l.getD i.toNat recTy.zero).2)]).length : Int)), rs ++ [(n, (l.getD i.toNat recTy.zero).2)])).2.2.2.1, .int .u32 (0 : Int)]]), (2, .log recTy (sealP (f, b, IntKind.i64.wrap (n + (1 : Int)), IntKind.i64.wrap (z + (↑(bytS [(n, (l.getD i.toNat recTy.zero).2)]).length : Int)), rs ++ [(n, (l.getD i.toNat recTy.zero).2)])).2.2.2.2)], nx := 3 } else none else K .normal { slots := [(0, .ptr 0 (.tl 0) 0), (2, .int .i64 most), (7, .int .i64 fi), (8, .bool so), (14, .vl recTy l), (15, .int .i64 m), (16, .int .i64 (IntKind.i64.wrap (i + (1 : Int))))], objs := [(0, .arr 1 .bool [] [[.hw 1]]), (1, .arr 10 segTy f [[.int .i64 b, .int .i64 (IntKind.i64.wrap (n + (1 : Int))), .int .i64 (0 : Int), .int .i64 (0 : Int), .hw 2, .bool false, .bool false, .bool false, .int .i64 (IntKind.i64.wrap (z + (↑(bytS [(n, (l.getD i.toNat recTy.zero).2)]).length : Int))), .int .u32 (0 : Int)]]), (2, .log recTy (rs ++ [(n, (l.getD i.toNat recTy.zero).2)]))], nx := 3 } else none else none else none else K (.exit 0) { slots := [(0, .ptr 0 (.tl 0) 0), (2, .int .i64 most), (7, .int .i64 fi), (8, .bool so), (14, .vl recTy l), (15, .int .i64 m), (16, .int .i64 i)], objs := [(0, .arr 1 .bool [] [[.hw 1]]), (1, .arr 10 segTy f [[.int .i64 b, .int .i64 n, .int .i64 (0 : Int), .int .i64 (0 : Int), .hw 2, .bool false, .bool false, .bool false, .int .i64 z, .int .u32 (0 : Int)]]), (2, .log recTy rs)], nx := 3 } := by kernel_rfl
end Go.Sim
namespace Go.Sim
set_option linter.unusedSimpArgs false
set_option linter.unusedVariables false
set_option maxRecDepth 10000
def mxI (most : Int) : Int := bif decide (most > 1) then most else 1
def pushP (L : LogS) (r : Rec) : LogS := (L.1, L.2.1, L.2.2.1 + 1, L.2.2.2.1 + ((bytS [(L.2.2.1, r.2)]).length : Nat), L.2.2.2.2 ++ [(L.2.2.1, r.2)])
def apR (most : Int) (L : LogS) (r : Rec) : LogS := bif recR (0, r.2) then (bif decide (L.2.2.1 + 1 - L.2.1 ≥ mxI most) then sealP (pushP L r) else pushP L r) else L
def apL (most : Int) (l : List Rec) (L : LogS) : Nat → LogS
  | 0 => L
  | i + 1 => apR most (apL most l L i) (l.getD i recTy.zero)
def someI (l : List Rec) : Nat → Bool
  | 0 => false
  | i + 1 => someI l i || recR (0, (l.getD i recTy.zero).2)
theorem pushP_ok {c : Nat} {L : LogS} (r : Rec) (h : okB c L = true) : okB (c + 1) (pushP L r) = true := by
  obtain ⟨h1, h2, h3, h4, h5, h6, h7, h9⟩ := okB_iff.1 h
  have h8 := bytS_len [(L.2.2.1, r.2)]
  simp only [List.length_singleton] at h8
  exact okB_iff.2 ⟨h1, by simp [pushP]; omega, by simp [pushP]; omega, by simp [pushP]; omega, by simp [pushP]; omega, by simp [pushP]; omega, by simp [pushP]; omega, h9⟩
theorem apR_ok {c : Nat} {L : LogS} (most : Int) (r : Rec) (h : okB c L = true) (hc : c + 1 ≤ 1000000000) : okB (c + 2) (apR most L r) = true := by
  unfold apR
  cases recR (0, r.2) with
  | false => exact okB_mono h (by omega)
  | true =>
    have := pushP_ok r h
    cases decide (L.2.2.1 + 1 - L.2.1 ≥ mxI most) with
    | true => exact sealP_ok this hc
    | false => exact okB_mono this (by omega)
theorem apL_ok {c : Nat} {L : LogS} (most : Int) (l : List Rec) (h : okB c L = true) : ∀ i, c + 2 * i ≤ 1000000000 → okB (c + 2 * i) (apL most l L i) = true
  | 0, _ => h
  | i + 1, hi => apR_ok (c := c + 2 * i) most _ (apL_ok most l h i (by omega)) (by omega)
theorem sealP_next (L : LogS) : (sealP L).2.2.1 = L.2.2.1 := by
  unfold sealP
  cases L.2.1 == L.2.2.1 <;> rfl
theorem someI_next {most : Int} {l : List Rec} {L : LogS} : ∀ {i : Nat}, someI l i = false → apL most l L i = L
  | 0, _ => rfl
  | i + 1, h => by
    simp only [someI, Bool.or_eq_false_iff] at h
    show apR most (apL most l L i) _ = L
    unfold apR
    rw [h.2, cond_false]
    exact someI_next h.1
def logO (L : LogS) : List (Nat × AObj) := [(0, .arr 1 .bool [] [[.hw 1]]), (1, .arr 10 segT L.1 [actC L.2.1 L.2.2.1 L.2.2.2.1]), (2, .log recT L.2.2.2.2)]
def apSt (most fi : Int) (so : Bool) (l : List Rec) (i : Nat) (L : LogS) : St := ⟨[(0, .ptr 0 (.tl 0) 0), (2, .int .i64 most), (7, .int .i64 fi), (8, .bool so), (14, .vl recT l), (15, .int .i64 l.length), (16, .int .i64 i)], logO L, 3⟩
theorem ap_round {R : Type} (most fi : Int) (so : Bool) (l : List Rec) (hl : l.length ≤ 400000000) (i : Nat) (hi : i < l.length) (M : LogS) {c : Nat} (h : okB c M = true) (hc : c ≤ 2000000000) (hf : M.1.length ≤ 1000000000) (hso : so = false → M.2.2.1 = fi) (K : Ex → St → Option R) :
    roundK (env consS2) H.f48 1 (LPof []) V.f48_3 L.f48_3 (apSt most fi so l i M) K = K .normal (apSt most fi (so || recR (0, (l.getD i recTy.zero).2)) l (i + 1) (apR most M (l.getD i recTy.zero))) := by
  obtain ⟨f, b, n, z, rs⟩ := M
  obtain ⟨h1, h2, h3, h4, h5, h6, h7, h9⟩ := okB_iff.1 h
  simp only at h1 h2 h3 h4 h5 h6 h7 hf hso
  refine (append_rd _ _ _ _ _ _ _ _ _ _ _ _).trans ?_
  have e3 : IntKind.i64.wrap ((i : Int) + 1) = ((i + 1 : Nat) : Int) := by rw [wrap64 (by omega) (by omega)]; omega
  have h8 := bytS_len [(n, (l.getD i recTy.zero).2)]
  simp only [List.length_singleton] at h8
  have e4 : IntKind.i64.wrap (n + 1) = n + 1 := wrap64 (by omega) (by omega)
  have e5 : IntKind.i64.wrap (n + 1 - b) = n + 1 - b := wrap64 (by omega) (by omega)
  have e6 : IntKind.i64.wrap (z + ((bytS [(n, (l.getD i recTy.zero).2)]).length : Int)) = z + ((bytS [(n, (l.getD i recTy.zero).2)]).length : Int) := wrap64 (by omega) (by omega)
  have b1 : decide ((rs ++ [(n, (l.getD i recTy.zero).2)]).length * 56 ≤ 140737488355328) = true := by simp; omega
  have b2 : decide (f.length ≤ 1000000000) = true := decide_eq_true hf
  rw [cond_pos (by omega), cond_pos2 (by omega) (by omega), Int.toNat_natCast, e3, e4, e5, e6, b1, b2]
  unfold apR
  cases hr : recR (0, (l.getD i recTy.zero).2) with
  | false =>
    simp only [Bool.not_false, cond_true, cond_false, Bool.or_false]
    rfl
  | true =>
    simp only [Bool.not_true, cond_true, cond_false, Bool.or_true]
    show (bif !so then bif decide (n + 1 - b ≥ mxI most) then _ else _ else bif decide (n + 1 - b ≥ mxI most) then _ else _) = K .normal (apSt most fi true l (i + 1) (bif decide (n + 1 - b ≥ mxI most) then _ else _))
    cases so with
    | false =>
      obtain rfl := hso rfl
      cases decide (n + 1 - b ≥ mxI most) <;> rfl
    | true => cases decide (n + 1 - b ≥ mxI most) <;> rfl
theorem ap_rounds {R : Type} (most : Int) (l : List Rec) (hl : l.length ≤ 200000000) (M : LogS) (h : okB 500000000 M = true) (K : Ex → St → Option R) : ∀ (m i : Nat), i + m = l.length →
    rounds (env consS2) H.f48 1 (LPof []) V.f48_3 L.f48_3 (m + 1) (apSt most M.2.2.1 (someI l i) l i (apL most l M i)) K = K (.exit 0) (apSt most M.2.2.1 (someI l l.length) l l.length (apL most l M l.length))
  | 0, i, hi => by
    obtain rfl : i = l.length := by omega
    rw [rounds_succ']
    refine (append_rd _ _ _ _ _ _ _ _ _ _ _ _).trans ?_
    rw [cond_neg (by omega)]
    rfl
  | m + 1, i, hi => by
    have ih := ap_rounds most l hl M h K m (i + 1) (by omega)
    have hk := apL_ok most l h i (by omega)
    have h6 := (okB_iff.1 hk).2.2.2.2.2.1
    rw [rounds_succ']
    refine (ap_round most M.2.2.1 (someI l i) l (by omega) i (by omega) _ hk (by omega) (by omega) (fun hs => by rw [someI_next hs]) _).trans ?_
    exact ih
abbrev apLC : LoopC := LoopC.of ⟨[(0, .lit (.ptr 0 (.tl 0) 0)), (2, .int .i64), (7, .int .i64), (8, .bool), (14, .vl recT), (15, .int .i64), (16, .int .i64)], logP⟩
  (fun ⟨⟨_, most, fi, so, l, m, i, _⟩, ⟨_, ⟨f, ⟨b, n, _, _, _, _, _, _, z, _, _⟩, _⟩, rs, _⟩⟩ => decide (i = (0 : Int)) && decide (m = (List.length l : Int)) && !so && decide (fi = n) && decide (List.length l ≤ 200000000) && okB 500000000 (f, b, n, z, rs))
  fun ⟨⟨_, most, fi, so, l, m, i, _⟩, ⟨_, ⟨f, ⟨b, n, _, _, _, _, _, _, z, _, _⟩, _⟩, rs, _⟩⟩ => [(true, .exit 0, apSt most fi (someI l (List.length l)) l (List.length l) (apL most l (f, b, n, z, rs) (List.length l)))]
theorem ap_lok : LoopOK P0 H.f48 1 L.f48_3 apLC :=
  loop_ok_of (env_ok consS2_ok) glob0 mixed0 noLoops V.f48_3 (by decide) fun ⟨⟨_, most, fi, so, l, m, i, _⟩, ⟨_, ⟨f, ⟨b, n, _, _, _, _, _, _, z, _, _⟩, _⟩, rs, _⟩⟩ h hw => by
    simp only [Bool.and_eq_true, decide_eq_true_eq, Bool.not_eq_true'] at h
    obtain ⟨⟨⟨⟨⟨rfl, rfl⟩, rfl⟩, rfl⟩, h5⟩, h6⟩ := h
    exact ⟨_, ap_rounds most l h5 (f, b, fi, z, rs) h6 _ (List.length l) 0 (Nat.zero_add _)⟩
theorem append_ev (most : Int) (l : List Rec) (f : List Seg) (b n z : Int) (rs : List Rec) : evFnM 1 (env consS2) H.f48 (LPof [(3, apLC)]) F.f48 [.ptr 0 (.tl 0) 0, .vl recT l, .int .i64 most] [.arr 1 .bool [] [[.hw 1]], .arr 10 segT f [actC b n z], .log recT rs] (finVM (.int .i64) logQ 1 3) = bif decide (f.length ≤ 1000000000) then bif decide ((↑l.length : Int) = (↑l.length : Int)) && true && decide (n = n) && decide (l.length ≤ 200000000) && okB 500000000 (f, b, n, z, rs) && true then some (n, (((), ()), ()), (), (), ((apL most l (f, b, n, z, rs) l.length).1, ((apL most l (f, b, n, z, rs) l.length).2.1, (apL most l (f, b, n, z, rs) l.length).2.2.1, (), (), (), (), (), (), (apL most l (f, b, n, z, rs) l.length).2.2.2.1, (), ()), ()), (apL most l (f, b, n, z, rs) l.length).2.2.2.2, ()) else none else none := by kernel_rfl
end Go.Sim
namespace Go.Sim
set_option linter.unusedSimpArgs false
set_option linter.unusedVariables false
set_option maxRecDepth 10000
def caseAppend : VCase := ⟨[.lit (.ptr 0 (.tl 0) 0), .vl recT, .int .i64], logP, .int .i64, logQ, fun ⟨_, l, most, _⟩ ⟨_, ⟨f, ⟨b, n, _, _, _, _, _, _, z, _, _⟩, _⟩, rs, _⟩ => [(decide (List.length l ≤ 200000000) && okB 500000000 (f, b, n, z, rs), (n, ((((), ()), ()), (), (), ((apL most l (f, b, n, z, rs) (List.length l)).1, ((apL most l (f, b, n, z, rs) (List.length l)).2.1, (apL most l (f, b, n, z, rs) (List.length l)).2.2.1, (), (), (), (), (), (), (apL most l (f, b, n, z, rs) (List.length l)).2.2.2.1, (), ()), ()), (apL most l (f, b, n, z, rs) (List.length l)).2.2.2.2, ())))]⟩
theorem append_ok : caseAppend.e.ok P0 I.f48 := vcase_okM (c := caseAppend) (H := H.f48) (E := env consS2) (env_ok consS2_ok) glob0 mixed0 G.f48 Bd.f48 1 rfl (by kernel_rfl) (loops_good (tab := [(3, apLC)]) (by kernel_rfl) (fun x hx => by simp at hx; subst hx; exact ap_lok)) fun ⟨_, l, most, _⟩ ⟨_, ⟨f, ⟨b, n, _, _, _, _, _, _, z, _, _⟩, _⟩, rs, _⟩ r h hw1 hw2 => by
  obtain ⟨hc, rfl⟩ := pick_pre h
  simp only [Bool.and_eq_true] at hc
  refine (append_ev most l f b n z rs).trans ?_
  have h6 : List.length f ≤ 500000000 := (okB_iff.1 hc.2).2.2.2.2.2.1
  rw [cond_pos (by omega), hc.1, hc.2]
  simp only [decide_true, Bool.and_self, cond_true]
  rfl
theorem rclone_ev (xs : List Rec) : evFn (env []) H.f72 (LPof []) F.f72 [.vl recT xs] [] (finT [.sl recT]) = bif decide (0 < xs.length) then bif decide (([] ++ xs).length * 56 ≤ 140737488355328) then some ([] ++ xs, ()) else none else none := by kernel_rfl
theorem rclone0_ev (b : Bool) : evFn (env []) H.f72 (LPof []) F.f72 [.ve b] [] (finV (.vl recT) [] 0) = bif b then some ([], ()) else some ([] ++ [], ()) := by kernel_rfl
def caseRcloneA : PCase := ⟨[.ty (.sl recT)], [.sl recT], fun x => [(decide (0 < List.length x.1) && decide (List.length x.1 ≤ 1000000000), (x.1, ()))]⟩
theorem rcloneA_ok : caseRcloneA.ok P0 I.f72 := case_ok2 (H := H.f72) (E := env []) (env_ok env_nil) glob0 mixed0 G.f72 Bd.f72 (by kernel_rfl) noLoops fun ⟨xs, ()⟩ y h hw => by
  obtain ⟨hc, rfl⟩ := pick_pre h
  simp only [Bool.and_eq_true, decide_eq_true_eq] at hc
  refine (rclone_ev xs).trans ?_
  rw [cond_pos hc.1, cond_pos (by simp only [List.nil_append]; omega), List.nil_append]
  rfl
def caseRclone : PCase := ⟨[.ty (.sl recT)], [.sl recT], fun x => [(decide (List.length x.1 ≤ 1000000000), (x.1, ()))]⟩
theorem rclone_zero (b : Bool) : EffGood P0 I.f72 [.ve b] [] (.vl recT []) [] :=
  eff_of_ev (H := H.f72) (E := env []) (env_ok env_nil) glob0 mixed0 G.f72 Bd.f72 (args := [.ve b]) (objs := []) (by kernel_rfl) (out := .vl recT) (outs := []) (LP := LPof []) noLoops (a := ([] : List Rec)) (b := ()) ((rclone0_ev b).trans (by cases b <;> rfl))
theorem rclone_ok : caseRclone.ok P0 I.f72 := fun ⟨xs, ()⟩ y h hw => by
  obtain ⟨hc, rfl⟩ := pick_pre h
  by_cases h0 : 0 < List.length xs
  · have hp : pick (caseRcloneA.f (xs, ())) = some (xs, ()) := by
      show pick [(decide (0 < List.length xs) && decide (List.length xs ≤ 1000000000), _)] = _
      rw [decide_eq_true h0, hc]
      rfl
    exact rcloneA_ok (xs, ()) _ hp hw
  · obtain rfl : xs = [] := List.eq_nil_of_length_eq_zero (by omega)
    refine ⟨[], fun own φ β w vs hV hW ht => ?_⟩
    obtain ⟨u, us, rfl, hu, hus⟩ : ∃ u us, vs = u :: us ∧ V φ β w (.vl recT []) u ∧ VL φ β w [] us := hV
    simp only [VL] at hus
    subst hus
    simp only [V, Vt] at hu
    obtain ⟨_, A, cap, hu, _⟩ := hu
    simp at hu
    subst hu
    exact rclone_zero A.isNone own φ β w _ ⟨_, [], rfl, ⟨A, cap, rfl, rfl⟩, rfl⟩ hW ht
noncomputable abbrev consC1 : List (FuncId × Con) := [(I.f72, .pure (pureOf [caseRclone]))]
theorem consC1_ok : ∀ x ∈ consC1, HoldsC P0 x.1 x.2 := by
  intro x hx
  simp at hx
  subst hx
  exact ⟨pureOf_holds (by simp; exact rclone_ok), C.f72⟩
theorem copied_ev (g : Seg) : evFn (env consC1) H.f66 (LPof []) F.f66 [valOf segT g] [] (finT [segT]) = bif decide (List.length g.2.2.2.2.1 ≤ 1000000000) then some (g, ()) else none := by kernel_rfl
def caseCopied : PCase := ⟨[.ty segT], [segT], fun x => (fun (g : Seg) => [(decide (List.length g.2.2.2.2.1 ≤ 1000000000), (g, ()))]) x.1⟩
theorem copied_val (g : Seg) (hc : (decide (List.length g.2.2.2.2.1 ≤ 1000000000)) = true) : evFn (env consC1) H.f66 (LPof []) F.f66 [valOf segT g] [] (finT [segT]) = some (g, ()) := by
  rw [copied_ev, hc]; rfl
theorem copied_ok : caseCopied.ok P0 I.f66 := case_ok2 (H := H.f66) (E := env consC1) (env_ok consC1_ok) glob0 mixed0 G.f66 Bd.f66 (by kernel_rfl) noLoops fun ⟨g, ()⟩ y h hw => by
  obtain ⟨hc, rfl⟩ := pick_pre h
  exact copied_val g hc
noncomputable abbrev consC2 : List (FuncId × Con) := [(I.f66, .pure (pureOf [caseCopied]))]
theorem consC2_ok : ∀ x ∈ consC2, HoldsC P0 x.1 x.2 := by
  intro x hx
  simp at hx
  subst hx
  exact ⟨pureOf_holds (by simp; exact copied_ok), C.f66⟩
abbrev actR (b n z : Int) : List AV := [.int .i64 b, .int .i64 n, .int .i64 0, .int .i64 0, .hw 1, .bool false, .bool false, .bool false, .int .i64 z, .int .u32 0]
theorem all_rd {R : Type} (m i : Int) (f o : List Seg) (b n z : Int) (rs : List Rec) (K : Ex → St → Option R) : roundK (env consC2) H.f65 2 (LPof []) V.f65_3 L.f65_3 ⟨[(3, .hw 2), (6, .hw 0), (7, .int .i64 m), (8, .int .i64 i)], [(0, .arr 10 segT f [actR b n z]), (1, .log recT rs), (2, .arr 10 segT o [])], 3⟩ K = bif decide (i < m) then bif decide ((0 : Int) ≤ i) && decide (i < (↑(f.length + 1) : Int)) then bif decide (i.toNat < f.length) then bif decide ((f.getD i.toNat segTy.zero).2.2.2.2.1.length ≤ 1000000000) then bif decide ((o ++ [f.getD i.toNat segTy.zero]).length * 80 ≤ 140737488355328) then K .normal { slots := [(3, .hw 2), (6, .hw 0), (7, .int .i64 m), (8, .int .i64 (IntKind.i64.wrap (i + (1 : Int))))], objs := [(0, .arr 10 segTy f [[.int .i64 b, .int .i64 n, .int .i64 (0 : Int), .int .i64 (0 : Int), .hw 1, .bool false, .bool false, .bool false, .int .i64 z, .int .u32 (0 : Int)]]), (1, .log recTy rs), (2, .arr 10 segTy (o ++ [f.getD i.toNat segTy.zero]) [])], nx := 3 } else none else none else bif decide (i.toNat - f.length = 0) then bif decide (rs.length ≤ 1000000000) then bif decide ((o ++ [(b, n, (0 : Int), (0 : Int), rs, false, false, false, z, (0 : Int))]).length * 80 ≤ 140737488355328) then K .normal { slots := [(3, .hw 2), (6, .hw 0), (7, .int .i64 m), (8, .int .i64 (IntKind.i64.wrap (i + (1 : Int))))], objs := [(0, .arr 10 segTy f [[.int .i64 b, .int .i64 n, .int .i64 (0 : Int), .int .i64 (0 : Int), .hw 1, .bool false, .bool false, .bool false, .int .i64 z, .int .u32 (0 : Int)]]), (1, .log recTy rs), (2, .arr 10 segTy (o ++ [(b, n, (0 : Int), (0 : Int), rs, false, false, false, z, (0 : Int))]) [])], nx := 3 } else none else none else none else none else K (.exit 0) { slots := [(3, .hw 2), (6, .hw 0), (7, .int .i64 m), (8, .int .i64 i)], objs := [(0, .arr 10 segTy f [[.int .i64 b, .int .i64 n, .int .i64 (0 : Int), .int .i64 (0 : Int), .hw 1, .bool false, .bool false, .bool false, .int .i64 z, .int .u32 (0 : Int)]]), (1, .log recTy rs), (2, .arr 10 segTy o [])], nx := 3 } := by kernel_rfl
theorem allv_rd {R : Type} (l : List Seg) (m i : Int) (o : List Seg) (K : Ex → St → Option R) : roundK (env consC2) H.f65 0 (LPof []) V.f65_3 L.f65_3 ⟨[(3, .hw 0), (6, .vl segT l), (7, .int .i64 m), (8, .int .i64 i)], [(0, .arr 10 segT o [])], 1⟩ K = bif decide (i < m) then bif decide ((0 : Int) ≤ i) && decide (i < (↑l.length : Int)) then bif decide ((l.getD i.toNat segTy.zero).2.2.2.2.1.length ≤ 1000000000) then bif decide ((o ++ [l.getD i.toNat segTy.zero]).length * 80 ≤ 140737488355328) then K .normal { slots := [(3, .hw 0), (6, .vl segTy l), (7, .int .i64 m), (8, .int .i64 (IntKind.i64.wrap (i + (1 : Int))))], objs := [(0, .arr 10 segTy (o ++ [l.getD i.toNat segTy.zero]) [])], nx := 1 } else none else none else none else K (.exit 0) { slots := [(3, .hw 0), (6, .vl segTy l), (7, .int .i64 m), (8, .int .i64 i)], objs := [(0, .arr 10 segTy o [])], nx := 1 } := by kernel_rfl
def smallL (l : List Seg) : Bool := decide (List.length l ≤ 1000000000) && List.all l smallS
theorem small_at {l : List Seg} (h : l.all smallS = true) {i : Nat} (hi : i < l.length) : (l.getD i segTy.zero).2.2.2.2.1.length ≤ 1000000000 := by
  have : l.getD i segTy.zero ∈ l := by
    rw [List.getD_eq_getElem?_getD, List.getElem?_eq_getElem hi]
    exact List.getElem_mem hi
  exact of_decide_eq_true (List.all_eq_true.1 h _ this)
theorem stake_snoc {l : List Seg} {i : Nat} (h : i < l.length) : l.take (i + 1) = l.take i ++ [l.getD i segTy.zero] := by
  rw [List.getD_eq_getElem?_getD, List.getElem?_eq_getElem h, List.take_add_one, List.getElem?_eq_getElem h]
  rfl
def alSt (L : LogS) (i : Nat) : St := ⟨[(3, .hw 2), (6, .hw 0), (7, .int .i64 (L.1.length + 1 : Nat)), (8, .int .i64 i)], [(0, .arr 10 segT L.1 [actR L.2.1 L.2.2.1 L.2.2.2.1]), (1, .log recT L.2.2.2.2), (2, .arr 10 segT ((segsL L).take i) [])], 3⟩
theorem segsL_len (L : LogS) : (segsL L).length = L.1.length + 1 := by simp [segsL]
theorem segsL_lt {L : LogS} {i : Nat} (h : i < L.1.length) : (segsL L).getD i segTy.zero = L.1.getD i segTy.zero := by
  unfold segsL
  rw [List.getD_eq_getElem?_getD, List.getElem?_append_left h, List.getD_eq_getElem?_getD]
theorem segsL_last (L : LogS) : (segsL L).getD L.1.length segTy.zero = actS L := by
  unfold segsL
  rw [List.getD_eq_getElem?_getD, List.getElem?_append_right (Nat.le_refl _)]
  simp
theorem all_rounds {R : Type} (M : LogS) (h1 : M.1.length ≤ 1000000000) (h2 : M.1.all smallS = true) (h3 : M.2.2.2.2.length ≤ 1000000000) (K : Ex → St → Option R) : ∀ (m i : Nat), i + m = M.1.length + 1 → rounds (env consC2) H.f65 2 (LPof []) V.f65_3 L.f65_3 (m + 1) (alSt M i) K = K (.exit 0) (alSt M (M.1.length + 1))
  | 0, i, h => by
    obtain rfl : i = M.1.length + 1 := by omega
    rw [rounds_succ']
    refine (all_rd _ _ _ _ _ _ _ _ _).trans ?_
    rw [cond_neg (by omega)]
    rfl
  | m + 1, i, h => by
    have ih := all_rounds M h1 h2 h3 K m (i + 1) (by omega)
    have e1 := stake_snoc (l := segsL M) (i := i) (by rw [segsL_len]; omega)
    have e3 : IntKind.i64.wrap ((i : Int) + 1) = ((i + 1 : Nat) : Int) := by rw [wrap64 (by omega) (by omega)]; omega
    have e4 : ((segsL M).take i ++ [(segsL M).getD i segTy.zero]).length = i + 1 := by rw [← e1, List.length_take, segsL_len]; omega
    rw [rounds_succ']
    refine (all_rd _ _ _ _ _ _ _ _ _).trans ?_
    rw [cond_pos (by omega), cond_pos2 (by omega) (by omega), Int.toNat_natCast, e3]
    unfold alSt at ih
    rw [e1] at ih
    by_cases hi : i < M.1.length
    · rw [segsL_lt hi] at ih e4
      have h5 := small_at h2 hi
      rw [cond_pos hi, cond_pos h5, cond_pos (by omega)]
      exact ih
    · obtain rfl : i = M.1.length := by omega
      rw [segsL_last] at ih e4
      rw [cond_neg hi, cond_pos (by omega), cond_pos h3]
      have e5 : ((segsL M).take M.1.length ++ [(M.2.1, M.2.2.1, (0 : Int), (0 : Int), M.2.2.2.2, false, false, false, M.2.2.2.1, (0 : Int))]).length = M.1.length + 1 := e4
      rw [cond_pos (by rw [e5]; omega)]
      exact ih
abbrev actRP : List Pat := [.int .i64, .int .i64, .lit (.int .i64 0), .lit (.int .i64 0), .lit (.hw 1), .lit (.bool false), .lit (.bool false), .lit (.bool false), .int .i64, .lit (.int .u32 0)]
abbrev rowP : List OPat := [.arr 10 segT [actRP], .log recT]
abbrev alLC : LoopC := LoopC.of ⟨[(3, .lit (.hw 2)), (6, .lit (.hw 0)), (7, .int .i64), (8, .int .i64)], [.arr 10 segT [actRP], .log recT, .arr 10 segT []]⟩
  (fun ⟨⟨_, _, m, i, _⟩, ⟨⟨f, ⟨b, n, _, _, _, _, _, _, z, _, _⟩, _⟩, rs, ⟨o, _⟩, _⟩⟩ => decide (i = (0 : Int)) && decide (m = ((List.length f + 1 : Nat) : Int)) && List.isEmpty o && smallL f && decide (List.length rs ≤ 1000000000))
  fun ⟨⟨_, _, m, i, _⟩, ⟨⟨f, ⟨b, n, _, _, _, _, _, _, z, _, _⟩, _⟩, rs, ⟨o, _⟩, _⟩⟩ => [(true, .exit 0, alSt (f, b, n, z, rs) (List.length f + 1))]
theorem al_lok : LoopOK P0 H.f65 2 L.f65_3 alLC :=
  loop_ok_of (env_ok consC2_ok) glob0 mixed0 noLoops V.f65_3 (by decide) fun ⟨⟨_, _, m, i, _⟩, ⟨⟨f, ⟨b, n, _, _, _, _, _, _, z, _, _⟩, _⟩, rs, ⟨o, _⟩, _⟩⟩ h hw => by
    simp only [Bool.and_eq_true, decide_eq_true_eq, smallL] at h
    obtain ⟨⟨⟨⟨rfl, rfl⟩, h3⟩, h4, h5⟩, h6⟩ := h
    obtain rfl : o = [] := List.isEmpty_iff.1 h3
    exact ⟨_, all_rounds (f, b, n, z, rs) h4 h5 h6 _ (List.length f + 1) 0 (Nat.zero_add _)⟩
theorem all_ev (f : List Seg) (b n z : Int) (rs : List Rec) : evFn (env consC2) H.f65 (LPof [(3, alLC)]) F.f65 [.hw 0] [.arr 10 segT f [actR b n z], .log recT rs] (finV (.vl segT) rowP 2) = bif decide ((↑(f.length + 1) : Int) = (↑(f.length + 1) : Int)) && true && smallL f && decide (rs.length ≤ 1000000000) && true then some (List.take (f.length + 1) (segsL (f, b, n, z, rs)), (f, (b, n, (), (), (), (), (), (), z, (), ()), ()), rs, ()) else none := by kernel_rfl
def avSt (l : List Seg) (i : Nat) : St := ⟨[(3, .hw 0), (6, .vl segT l), (7, .int .i64 l.length), (8, .int .i64 i)], [(0, .arr 10 segT (l.take i) [])], 1⟩
theorem av_rounds {R : Type} (l : List Seg) (h1 : l.length ≤ 1000000000) (h2 : l.all smallS = true) (K : Ex → St → Option R) : ∀ (m i : Nat), i + m = l.length → rounds (env consC2) H.f65 0 (LPof []) V.f65_3 L.f65_3 (m + 1) (avSt l i) K = K (.exit 0) (avSt l l.length)
  | 0, i, h => by
    obtain rfl : i = l.length := by omega
    rw [rounds_succ']
    refine (allv_rd _ _ _ _ _).trans ?_
    rw [cond_neg (by omega)]
    rfl
  | m + 1, i, h => by
    have ih := av_rounds l h1 h2 K m (i + 1) (by omega)
    have e1 := stake_snoc (l := l) (i := i) (by omega)
    have e3 : IntKind.i64.wrap ((i : Int) + 1) = ((i + 1 : Nat) : Int) := by rw [wrap64 (by omega) (by omega)]; omega
    have e4 : (l.take i ++ [l.getD i segTy.zero]).length = i + 1 := by rw [← e1, List.length_take]; omega
    have h5 := small_at h2 (i := i) (by omega)
    rw [rounds_succ']
    refine (allv_rd _ _ _ _ _).trans ?_
    rw [cond_pos (by omega), cond_pos2 (by omega) (by omega), Int.toNat_natCast, e3, cond_pos h5, cond_pos (by omega)]
    unfold avSt at ih
    rw [e1] at ih
    exact ih
abbrev avLC : LoopC := LoopC.of ⟨[(3, .lit (.hw 0)), (6, .vl segT), (7, .int .i64), (8, .int .i64)], [.arr 10 segT []]⟩
  (fun ⟨⟨_, l, m, i, _⟩, ⟨⟨o, _⟩, _⟩⟩ => decide (i = (0 : Int)) && decide (m = (List.length l : Int)) && List.isEmpty o && smallL l)
  fun ⟨⟨_, l, m, i, _⟩, ⟨⟨o, _⟩, _⟩⟩ => [(true, .exit 0, avSt l (List.length l))]
theorem av_lok : LoopOK P0 H.f65 0 L.f65_3 avLC :=
  loop_ok_of (env_ok consC2_ok) glob0 mixed0 noLoops V.f65_3 (by decide) fun ⟨⟨_, l, m, i, _⟩, ⟨⟨o, _⟩, _⟩⟩ h hw => by
    simp only [Bool.and_eq_true, decide_eq_true_eq, smallL] at h
    obtain ⟨⟨⟨rfl, rfl⟩, h3⟩, h4, h5⟩ := h
    obtain rfl : o = [] := List.isEmpty_iff.1 h3
    exact ⟨_, av_rounds l h4 h5 _ (List.length l) 0 (Nat.zero_add _)⟩
theorem allv_ev (l : List Seg) : evFn (env consC2) H.f65 (LPof [(3, avLC)]) F.f65 [.vl segT l] [] (finT [.sl segT]) = bif decide ((↑l.length : Int) = (↑l.length : Int)) && true && smallL l && true then some (List.take l.length l, ()) else none := by kernel_rfl
end Go.Sim
namespace Go.Sim
set_option linter.unusedSimpArgs false
set_option linter.unusedVariables false
set_option maxRecDepth 10000
def caseAll : VCase := ⟨[.lit (.hw 0)], rowP, .vl segT, rowP, fun _ ⟨⟨f, ⟨b, n, _, _, _, _, _, _, z, _, _⟩, _⟩, rs, _⟩ => [(smallL f && decide (List.length rs ≤ 1000000000), (segsL (f, b, n, z, rs), (f, (b, n, (), (), (), (), (), (), z, (), ()), ()), rs, ()))]⟩
theorem all_ok : caseAll.e.ok P0 I.f65 := vcase_ok (c := caseAll) (H := H.f65) (E := env consC2) (env_ok consC2_ok) glob0 mixed0 G.f65 Bd.f65 (by kernel_rfl) (loops_good (tab := [(3, alLC)]) (by kernel_rfl) (fun x hx => by simp at hx; subst hx; exact al_lok)) fun _ ⟨⟨f, ⟨b, n, _, _, _, _, _, _, z, _, _⟩, _⟩, rs, _⟩ r h hw1 hw2 => by
  obtain ⟨hc, rfl⟩ := pick_pre h
  simp only [Bool.and_eq_true] at hc
  refine (all_ev f b n z rs).trans ?_
  have e : List.take (List.length f + 1) (segsL (f, b, n, z, rs)) = segsL (f, b, n, z, rs) := List.take_of_length_le (by rw [segsL_len]; exact Nat.le_refl _)
  rw [hc.1, hc.2, e]
  simp only [decide_true, Bool.and_self, cond_true]
  rfl
def caseAllv : PCase := ⟨[.ty (.sl segT)], [.sl segT], fun x => (fun (l : List Seg) => [(smallL l, (l, ()))]) x.1⟩
theorem allv_val (l : List Seg) (hc : (smallL l) = true) : evFn (env consC2) H.f65 (LPof [(3, avLC)]) F.f65 [.vl segT l] [] (finT [.sl segT]) = some (l, ()) := by
  rw [allv_ev, hc]
  simp only [decide_true, Bool.and_self, cond_true, List.take_length]
theorem allv_ok : caseAllv.ok P0 I.f65 := case_ok2 (H := H.f65) (E := env consC2) (env_ok consC2_ok) glob0 mixed0 G.f65 Bd.f65 (by kernel_rfl) (loops_good (tab := [(3, avLC)]) (by kernel_rfl) (fun x hx => by simp at hx; subst hx; exact av_lok)) fun ⟨l, ()⟩ y h hw => by
  obtain ⟨hc, rfl⟩ := pick_pre h
  exact allv_val l hc
noncomputable abbrev consD1 : List (FuncId × Con) := [(I.f65, .eff (effOf [caseAll.e]))]
theorem consD1_ok : ∀ x ∈ consD1, HoldsC P0 x.1 x.2 := by
  intro x hx
  simp at hx
  subst hx
  exact ⟨fun args objs r objs2 h _ => effOf_holds (by simp; exact all_ok) args objs r objs2 h, C.f65⟩
theorem segments_ev (f : List Seg) (b n z : Int) (rs : List Rec) : evFn (env consD1) H.f61 (LPof []) F.f61 [.ptr 0 (.tl 0) 0] [.arr 1 .bool [] [[.hw 1]], .arr 10 segT f [actC b n z], .log recT rs] (finV (.vl segT) logP 3) = bif smallL f && decide (rs.length ≤ 1000000000) then some (segsL (f, b, n, z, rs), (((), ()), ()), (f, (b, n, (), (), (), (), (), (), z, (), ()), ()), rs, ()) else none := by kernel_rfl
def caseSegments : VCase := ⟨[.lit (.ptr 0 (.tl 0) 0)], logP, .vl segT, logP, fun _ ⟨_, ⟨f, ⟨b, n, _, _, _, _, _, _, z, _, _⟩, _⟩, rs, _⟩ => [(smallL f && decide (List.length rs ≤ 1000000000), (segsL (f, b, n, z, rs), ((((), ()), ()), (f, (b, n, (), (), (), (), (), (), z, (), ()), ()), rs, ())))]⟩
theorem segments_ok : caseSegments.e.ok P0 I.f61 := vcase_ok (c := caseSegments) (H := H.f61) (E := env consD1) (env_ok consD1_ok) glob0 mixed0 G.f61 Bd.f61 (by kernel_rfl) noLoops fun _ ⟨_, ⟨f, ⟨b, n, _, _, _, _, _, _, z, _, _⟩, _⟩, rs, _⟩ r h hw1 hw2 => by
  obtain ⟨hc, rfl⟩ := pick_pre h
  refine (segments_ev f b n z rs).trans ?_
  have hc : (smallL f && decide (List.length rs ≤ 1000000000)) = true := hc
  rw [hc]
  rfl
noncomputable abbrev consD2 : List (FuncId × Con) := [(I.f61, .eff (effOf [caseSegments.e])), (I.f48, .eff (effOf [caseAppend.e]))] ++ consS2
theorem consD2_ok : ∀ x ∈ consD2, HoldsC P0 x.1 x.2 := by
  intro x hx
  rcases List.mem_append.1 hx with hx | hx
  · simp at hx
    rcases hx with rfl | rfl
    · exact ⟨fun args objs r objs2 h _ => effOf_holds (by simp; exact segments_ok) args objs r objs2 h, C.f61⟩
    · exact ⟨fun args objs r objs2 h _ => effOf_holds (by simp; exact append_ok) args objs r objs2 h, C.f48⟩
  · exact consS2_ok x hx
def H.al15 : Hint := { H.f6 with join := [] }
theorem alive15_ev : evFn (env consD2) H.al15 (LPof []) F.f6 [] [] (finT [.bool]) = some (true, ()) := by kernel_rfl
def caseAlive15 : PCase := ⟨[], [.bool], fun _ => [(true, (true, ()))]⟩
theorem alive15_ok : caseAlive15.ok P0 I.f6 := case_ok2 (H := H.al15) (E := env consD2) (env_ok consD2_ok) glob0 mixed0 G.f6 Bd.f6 (by kernel_rfl) noLoops fun x y h hw => by
  obtain ⟨hc, rfl⟩ := pick_pre h
  exact alive15_ev
noncomputable abbrev consD3 : List (FuncId × Con) := [(I.f6, .pure (pureOf [caseAlive15]))] ++ consD2
theorem consD3_ok : ∀ x ∈ consD3, HoldsC P0 x.1 x.2 := by
  intro x hx
  rcases List.mem_append.1 hx with hx | hx
  · simp at hx
    subst hx
    exact ⟨pureOf_holds (by simp; exact alive15_ok), C.f6⟩
  · exact consD2_ok x hx
def recK (j : Int) : Rec := (j, j, [107], [], false)
def recsK (b : Int) (c : Nat) : List Rec := (List.range c).map fun j => recK (b + (j : Nat))
def goodF (most : Int) (g : Seg) : Bool := g.2.2.2.2.2.1 && decide (IntKind.i64.wrap (g.2.1 - g.1) ≤ most) && decide (g.2.2.1 = IntKind.i64.wrap (g.2.1 - 1))
structure InvK (most : Int) (i : Nat) (L : LogS) : Prop where
  next : L.2.2.1 = (i : Int)
  base : 0 ≤ L.2.1 ∧ L.2.1 ≤ (i : Int) ∧ (i : Int) - L.2.1 < most
  recs : L.2.2.2.2 = recsK L.2.1 ((i : Int) - L.2.1).toNat
  good : L.1.all (goodF most) = true
  low : lowP L = 0
  ok : okB (4 * i) L = true
theorem lowP_seal (L : LogS) : lowP (sealP L) = lowP L := by
  unfold sealP
  cases L.2.1 == L.2.2.1 with
  | true => rfl
  | false =>
    obtain ⟨f, b, n, z, rs⟩ := L
    cases f <;> rfl
structure MidK (most : Int) (i : Nat) (L : LogS) : Prop where
  next : L.2.2.1 = (i : Int)
  base : 0 ≤ L.2.1 ∧ L.2.1 ≤ (i : Int) ∧ (i : Int) - L.2.1 ≤ most
  recs : L.2.2.2.2 = recsK L.2.1 ((i : Int) - L.2.1).toNat
  good : L.1.all (goodF most) = true
  low : lowP L = 0
theorem InvK.mid {most : Int} {i : Nat} {L : LogS} (h : InvK most i L) : MidK most i L := ⟨h.next, ⟨h.base.1, h.base.2.1, by have := h.base.2.2; omega⟩, h.recs, h.good, h.low⟩
end Go.Sim
namespace Go.Sim
set_option linter.unusedSimpArgs false
set_option linter.unusedVariables false
set_option maxRecDepth 10000
abbrev rsegT : Ty := .pair (.int .i64) (.pair (.int .i64) (.pair (.int .i64) (.pair (.int .i64) (.pair .raw (.pair .bool (.pair .bool (.pair .bool (.pair (.int .i64) (.int .u32)))))))))
abbrev RSeg := Int × Int × Int × Int × Value × Bool × Bool × Bool × Int × Int
abbrev envR (cons : List (FuncId × Con)) : Env := mkEnv rows0 ((33, rsegT) :: tys0) cons globs0
theorem allR : allB P0 rows0 ((33, rsegT) :: tys0) = true := by kernel_rfl
theorem envR_ok {cons : List (FuncId × Con)} (hc : ∀ x ∈ cons, HoldsC P0 x.1 x.2) : EnvOK P0 (envR cons) := mkEnv_ok allR hc
theorem globR {cons : List (FuncId × Con)} : GlobOK P0 (envR cons) := .none rfl
def H.repl2 : Hint := { H.f77 with vs := [] }
theorem repl_ev (xs : List RSeg) (y : RSeg) (c : Nat) (i j : Int) : evFn (envR []) H.repl2 (LPof []) F.f77 [.hc 0 0 xs.length c, .int .i64 i, .int .i64 j, .hw 1] [.arr 10 rsegT xs [], .arr 10 rsegT [y] []] (finK 2) = bif decide ((0 : Int) ≤ j) && decide (j ≤ (↑xs.length : Int)) then bif decide ((0 : Int) ≤ i) && decide (i ≤ j) then bif i == j then none else bif j == (↑xs.length : Int) then bif decide ((0 : Int) ≤ i) && decide (i ≤ (↑xs.length : Int)) then bif decide ((List.take i.toNat xs ++ [y]).length * 80 ≤ 140737488355328) then bif decide ((↑(List.take i.toNat xs ++ [y]).length : Int) < (↑xs.length : Int)) then none else some (.hw 2, [.dead, .arr 10 ((Ty.int IntKind.i64).pair ((Ty.int IntKind.i64).pair ((Ty.int IntKind.i64).pair ((Ty.int IntKind.i64).pair (Ty.raw.pair (Ty.bool.pair (Ty.bool.pair (Ty.bool.pair ((Ty.int IntKind.i64).pair (Ty.int IntKind.u32)))))))))) [y] [], .arr 10 ((Ty.int IntKind.i64).pair ((Ty.int IntKind.i64).pair ((Ty.int IntKind.i64).pair ((Ty.int IntKind.i64).pair (Ty.raw.pair (Ty.bool.pair (Ty.bool.pair (Ty.bool.pair ((Ty.int IntKind.i64).pair (Ty.int IntKind.u32)))))))))) (List.take i.toNat xs ++ [y]) []]) else none else bif decide (i = (↑xs.length : Int) + (1 : Int)) && decide (xs.length + 1 ≤ c) && decide (0 + xs.length = xs.length) && decide (xs.length < 9223372036854775807) && true then none else none else bif decide ((0 : Int) ≤ i) && decide (i ≤ (↑xs.length : Int)) then bif decide ((0 : Int) ≤ j) && decide (j ≤ (↑xs.length : Int)) then bif decide (IntKind.i64.wrap (IntKind.i64.wrap ((↑i.toNat : Int) + (1 : Int)) + (↑(xs.length - j.toNat) : Int)) > (↑c : Int)) then bif decide ((0 : Int) ≤ i) && decide (i ≤ (↑xs.length : Int)) then bif decide ((0 : Int) < IntKind.i64.wrap (IntKind.i64.wrap (IntKind.i64.wrap ((↑i.toNat : Int) + (1 : Int)) + (↑(xs.length - j.toNat) : Int)) - i)) && decide (c < i.toNat + (IntKind.i64.wrap (IntKind.i64.wrap (IntKind.i64.wrap ((↑i.toNat : Int) + (1 : Int)) + (↑(xs.length - j.toNat) : Int)) - i)).toNat) && decide (0 + i.toNat ≤ xs.length) && decide ((i.toNat + (IntKind.i64.wrap (IntKind.i64.wrap (IntKind.i64.wrap ((↑i.toNat : Int) + (1 : Int)) + (↑(xs.length - j.toNat) : Int)) - i)).toNat) * 80 ≤ 140737488355328) then bif decide ((0 : Int) ≤ i) && decide (i ≤ (↑(List.take i.toNat xs ++ List.replicate (IntKind.i64.wrap (IntKind.i64.wrap (IntKind.i64.wrap ((↑i.toNat : Int) + (1 : Int)) + (↑(xs.length - j.toNat) : Int)) - i)).toNat rsegT.zero).length : Int)) then bif decide (1 ≤ (List.take i.toNat xs ++ List.replicate (IntKind.i64.wrap (IntKind.i64.wrap (IntKind.i64.wrap ((↑i.toNat : Int) + (1 : Int)) + (↑(xs.length - j.toNat) : Int)) - i)).toNat rsegT.zero).length - i.toNat) && decide (i.toNat + 1 ≤ (List.take i.toNat xs ++ List.replicate (IntKind.i64.wrap (IntKind.i64.wrap (IntKind.i64.wrap ((↑i.toNat : Int) + (1 : Int)) + (↑(xs.length - j.toNat) : Int)) - i)).toNat rsegT.zero).length) then bif decide ((0 : Int) ≤ IntKind.i64.wrap (i + (1 : Int))) && decide (IntKind.i64.wrap (i + (1 : Int)) ≤ (↑(List.take i.toNat (List.take i.toNat xs ++ List.replicate (IntKind.i64.wrap (IntKind.i64.wrap (IntKind.i64.wrap ((↑i.toNat : Int) + (1 : Int)) + (↑(xs.length - j.toNat) : Int)) - i)).toNat rsegT.zero) ++ [y] ++ List.drop (i.toNat + 1) (List.take i.toNat xs ++ List.replicate (IntKind.i64.wrap (IntKind.i64.wrap (IntKind.i64.wrap ((↑i.toNat : Int) + (1 : Int)) + (↑(xs.length - j.toNat) : Int)) - i)).toNat rsegT.zero)).length : Int)) then bif decide ((0 : Int) ≤ j) && decide (j ≤ (↑xs.length : Int)) then bif decide ((List.take (xs.length - j.toNat) (List.drop j.toNat xs)).length ≤ (List.take i.toNat (List.take i.toNat xs ++ List.replicate (IntKind.i64.wrap (IntKind.i64.wrap (IntKind.i64.wrap ((↑i.toNat : Int) + (1 : Int)) + (↑(xs.length - j.toNat) : Int)) - i)).toNat rsegT.zero) ++ [y] ++ List.drop (i.toNat + 1) (List.take i.toNat xs ++ List.replicate (IntKind.i64.wrap (IntKind.i64.wrap (IntKind.i64.wrap ((↑i.toNat : Int) + (1 : Int)) + (↑(xs.length - j.toNat) : Int)) - i)).toNat rsegT.zero)).length - (IntKind.i64.wrap (i + (1 : Int))).toNat) && decide ((IntKind.i64.wrap (i + (1 : Int))).toNat + (List.take (xs.length - j.toNat) (List.drop j.toNat xs)).length ≤ (List.take i.toNat (List.take i.toNat xs ++ List.replicate (IntKind.i64.wrap (IntKind.i64.wrap (IntKind.i64.wrap ((↑i.toNat : Int) + (1 : Int)) + (↑(xs.length - j.toNat) : Int)) - i)).toNat rsegT.zero) ++ [y] ++ List.drop (i.toNat + 1) (List.take i.toNat xs ++ List.replicate (IntKind.i64.wrap (IntKind.i64.wrap (IntKind.i64.wrap ((↑i.toNat : Int) + (1 : Int)) + (↑(xs.length - j.toNat) : Int)) - i)).toNat rsegT.zero)).length) then some (.hw 2, [.arr 10 ((Ty.int IntKind.i64).pair ((Ty.int IntKind.i64).pair ((Ty.int IntKind.i64).pair ((Ty.int IntKind.i64).pair (Ty.raw.pair (Ty.bool.pair (Ty.bool.pair (Ty.bool.pair ((Ty.int IntKind.i64).pair (Ty.int IntKind.u32)))))))))) xs [], .arr 10 ((Ty.int IntKind.i64).pair ((Ty.int IntKind.i64).pair ((Ty.int IntKind.i64).pair ((Ty.int IntKind.i64).pair (Ty.raw.pair (Ty.bool.pair (Ty.bool.pair (Ty.bool.pair ((Ty.int IntKind.i64).pair (Ty.int IntKind.u32)))))))))) [y] [], .arr 10 ((Ty.int IntKind.i64).pair ((Ty.int IntKind.i64).pair ((Ty.int IntKind.i64).pair ((Ty.int IntKind.i64).pair (Ty.raw.pair (Ty.bool.pair (Ty.bool.pair (Ty.bool.pair ((Ty.int IntKind.i64).pair (Ty.int IntKind.u32)))))))))) (List.take (IntKind.i64.wrap (i + (1 : Int))).toNat (List.take i.toNat (List.take i.toNat xs ++ List.replicate (IntKind.i64.wrap (IntKind.i64.wrap (IntKind.i64.wrap ((↑i.toNat : Int) + (1 : Int)) + (↑(xs.length - j.toNat) : Int)) - i)).toNat rsegT.zero) ++ [y] ++ List.drop (i.toNat + 1) (List.take i.toNat xs ++ List.replicate (IntKind.i64.wrap (IntKind.i64.wrap (IntKind.i64.wrap ((↑i.toNat : Int) + (1 : Int)) + (↑(xs.length - j.toNat) : Int)) - i)).toNat rsegT.zero)) ++ List.take (xs.length - j.toNat) (List.drop j.toNat xs) ++ List.drop ((IntKind.i64.wrap (i + (1 : Int))).toNat + (List.take (xs.length - j.toNat) (List.drop j.toNat xs)).length) (List.take i.toNat (List.take i.toNat xs ++ List.replicate (IntKind.i64.wrap (IntKind.i64.wrap (IntKind.i64.wrap ((↑i.toNat : Int) + (1 : Int)) + (↑(xs.length - j.toNat) : Int)) - i)).toNat rsegT.zero) ++ [y] ++ List.drop (i.toNat + 1) (List.take i.toNat xs ++ List.replicate (IntKind.i64.wrap (IntKind.i64.wrap (IntKind.i64.wrap ((↑i.toNat : Int) + (1 : Int)) + (↑(xs.length - j.toNat) : Int)) - i)).toNat rsegT.zero))) []]) else none else none else none else none else none else none else bif decide (i = (↑xs.length : Int) + (1 : Int)) && decide (xs.length + 1 ≤ c) && decide (0 + xs.length = xs.length) && decide (xs.length < 9223372036854775807) && true then none else none else bif decide ((0 : Int) ≤ IntKind.i64.wrap (IntKind.i64.wrap ((↑i.toNat : Int) + (1 : Int)) + (↑(xs.length - j.toNat) : Int))) && decide (IntKind.i64.wrap (IntKind.i64.wrap ((↑i.toNat : Int) + (1 : Int)) + (↑(xs.length - j.toNat) : Int)) ≤ (↑xs.length : Int)) then bif decide (IntKind.i64.wrap (i + (1 : Int)) ≤ j) then bif decide ((0 : Int) ≤ i) && decide (i ≤ (↑(IntKind.i64.wrap (IntKind.i64.wrap ((↑i.toNat : Int) + (1 : Int)) + (↑(xs.length - j.toNat) : Int))).toNat : Int)) then bif decide (1 ≤ (IntKind.i64.wrap (IntKind.i64.wrap ((↑i.toNat : Int) + (1 : Int)) + (↑(xs.length - j.toNat) : Int))).toNat - i.toNat) && decide (i.toNat + 1 ≤ xs.length) then bif decide ((0 : Int) ≤ IntKind.i64.wrap (i + (1 : Int))) && decide (IntKind.i64.wrap (i + (1 : Int)) ≤ (↑(IntKind.i64.wrap (IntKind.i64.wrap ((↑i.toNat : Int) + (1 : Int)) + (↑(xs.length - j.toNat) : Int))).toNat : Int)) then bif decide ((0 : Int) ≤ j) && decide (j ≤ (↑xs.length : Int)) then bif decide ((List.take (xs.length - j.toNat) (List.drop j.toNat (List.take i.toNat xs ++ [y] ++ List.drop (i.toNat + 1) xs))).length ≤ (IntKind.i64.wrap (IntKind.i64.wrap ((↑i.toNat : Int) + (1 : Int)) + (↑(xs.length - j.toNat) : Int))).toNat - (IntKind.i64.wrap (i + (1 : Int))).toNat) && decide ((IntKind.i64.wrap (i + (1 : Int))).toNat + (List.take (xs.length - j.toNat) (List.drop j.toNat (List.take i.toNat xs ++ [y] ++ List.drop (i.toNat + 1) xs))).length ≤ (List.take i.toNat xs ++ [y] ++ List.drop (i.toNat + 1) xs).length) then bif decide ((0 : Int) ≤ IntKind.i64.wrap (IntKind.i64.wrap ((↑i.toNat : Int) + (1 : Int)) + (↑(xs.length - j.toNat) : Int))) && decide (IntKind.i64.wrap (IntKind.i64.wrap ((↑i.toNat : Int) + (1 : Int)) + (↑(xs.length - j.toNat) : Int)) ≤ (↑xs.length : Int)) then bif decide (xs.length - (IntKind.i64.wrap (IntKind.i64.wrap ((↑i.toNat : Int) + (1 : Int)) + (↑(xs.length - j.toNat) : Int))).toNat = 1) && decide ((IntKind.i64.wrap (IntKind.i64.wrap ((↑i.toNat : Int) + (1 : Int)) + (↑(xs.length - j.toNat) : Int))).toNat < (List.take (IntKind.i64.wrap (i + (1 : Int))).toNat (List.take i.toNat xs ++ [y] ++ List.drop (i.toNat + 1) xs) ++ List.take (xs.length - j.toNat) (List.drop j.toNat (List.take i.toNat xs ++ [y] ++ List.drop (i.toNat + 1) xs)) ++ List.drop ((IntKind.i64.wrap (i + (1 : Int))).toNat + (List.take (xs.length - j.toNat) (List.drop j.toNat (List.take i.toNat xs ++ [y] ++ List.drop (i.toNat + 1) xs))).length) (List.take i.toNat xs ++ [y] ++ List.drop (i.toNat + 1) xs)).length) then some (.hc 0 0 (IntKind.i64.wrap (IntKind.i64.wrap ((↑i.toNat : Int) + (1 : Int)) + (↑(xs.length - j.toNat) : Int))).toNat c, [.arr 10 ((Ty.int IntKind.i64).pair ((Ty.int IntKind.i64).pair ((Ty.int IntKind.i64).pair ((Ty.int IntKind.i64).pair (Ty.raw.pair (Ty.bool.pair (Ty.bool.pair (Ty.bool.pair ((Ty.int IntKind.i64).pair (Ty.int IntKind.u32)))))))))) (List.take (IntKind.i64.wrap (IntKind.i64.wrap ((↑i.toNat : Int) + (1 : Int)) + (↑(xs.length - j.toNat) : Int))).toNat (List.take (IntKind.i64.wrap (i + (1 : Int))).toNat (List.take i.toNat xs ++ [y] ++ List.drop (i.toNat + 1) xs) ++ List.take (xs.length - j.toNat) (List.drop j.toNat (List.take i.toNat xs ++ [y] ++ List.drop (i.toNat + 1) xs)) ++ List.drop ((IntKind.i64.wrap (i + (1 : Int))).toNat + (List.take (xs.length - j.toNat) (List.drop j.toNat (List.take i.toNat xs ++ [y] ++ List.drop (i.toNat + 1) xs))).length) (List.take i.toNat xs ++ [y] ++ List.drop (i.toNat + 1) xs)) ++ [rsegT.zero] ++ List.drop ((IntKind.i64.wrap (IntKind.i64.wrap ((↑i.toNat : Int) + (1 : Int)) + (↑(xs.length - j.toNat) : Int))).toNat + 1) (List.take (IntKind.i64.wrap (i + (1 : Int))).toNat (List.take i.toNat xs ++ [y] ++ List.drop (i.toNat + 1) xs) ++ List.take (xs.length - j.toNat) (List.drop j.toNat (List.take i.toNat xs ++ [y] ++ List.drop (i.toNat + 1) xs)) ++ List.drop ((IntKind.i64.wrap (i + (1 : Int))).toNat + (List.take (xs.length - j.toNat) (List.drop j.toNat (List.take i.toNat xs ++ [y] ++ List.drop (i.toNat + 1) xs))).length) (List.take i.toNat xs ++ [y] ++ List.drop (i.toNat + 1) xs))) [], .arr 10 ((Ty.int IntKind.i64).pair ((Ty.int IntKind.i64).pair ((Ty.int IntKind.i64).pair ((Ty.int IntKind.i64).pair (Ty.raw.pair (Ty.bool.pair (Ty.bool.pair (Ty.bool.pair ((Ty.int IntKind.i64).pair (Ty.int IntKind.u32)))))))))) [y] []]) else none else none else none else none else none else none else none else bif decide ((0 : Int) ≤ IntKind.i64.wrap (i + (1 : Int))) && decide (IntKind.i64.wrap (i + (1 : Int)) ≤ (↑(IntKind.i64.wrap (IntKind.i64.wrap ((↑i.toNat : Int) + (1 : Int)) + (↑(xs.length - j.toNat) : Int))).toNat : Int)) then none else none else bif decide (IntKind.i64.wrap (IntKind.i64.wrap ((↑i.toNat : Int) + (1 : Int)) + (↑(xs.length - j.toNat) : Int)) = (↑xs.length : Int) + (1 : Int)) && decide (xs.length + 1 ≤ c) && decide (0 + xs.length = xs.length) && decide (xs.length < 9223372036854775807) && true then bif decide (IntKind.i64.wrap (i + (1 : Int)) ≤ j) then bif decide ((0 : Int) ≤ i) && decide (i ≤ (↑(xs.length + 1) : Int)) then none else none else bif decide ((0 : Int) ≤ IntKind.i64.wrap (i + (1 : Int))) && decide (IntKind.i64.wrap (i + (1 : Int)) ≤ (↑(xs.length + 1) : Int)) then none else none else none else none else bif decide (i = (↑xs.length : Int) + (1 : Int)) && decide (xs.length + 1 ≤ c) && decide (0 + xs.length = xs.length) && decide (xs.length < 9223372036854775807) && true then none else none else none else none := by kernel_rfl
def twoOne {α : Type} (xs : List α) (i : Nat) (y : α) : List α := xs.take i ++ [y] ++ xs.drop (i + 2)
theorem twoOne_len {α : Type} {xs : List α} {i : Nat} {y : α} (h : i + 2 ≤ xs.length) : (twoOne xs i y).length = xs.length - 1 := by
  unfold twoOne
  simp only [List.length_append, List.length_take, List.length_singleton, List.length_drop]
  omega
theorem repl_list (xs : List RSeg) (y z : RSeg) (i : Nat) (h : i + 2 < xs.length) :
    List.take (xs.length - 1) (List.take (i + 1) (List.take i xs ++ [y] ++ List.drop (i + 1) xs) ++ List.take (xs.length - (i + 2)) (List.drop (i + 2) (List.take i xs ++ [y] ++ List.drop (i + 1) xs)) ++ List.drop (i + 1 + (xs.length - (i + 2))) (List.take i xs ++ [y] ++ List.drop (i + 1) xs)) ++ [z] ++
      List.drop (xs.length - 1 + 1) (List.take (i + 1) (List.take i xs ++ [y] ++ List.drop (i + 1) xs) ++ List.take (xs.length - (i + 2)) (List.drop (i + 2) (List.take i xs ++ [y] ++ List.drop (i + 1) xs)) ++ List.drop (i + 1 + (xs.length - (i + 2))) (List.take i xs ++ [y] ++ List.drop (i + 1) xs)) = twoOne xs i y ++ [z] := by
  have hl : (List.take i xs ++ [y]).length = i + 1 := by simp; omega
  have hA : (List.take i xs ++ [y] ++ List.drop (i + 1) xs).length = xs.length := by simp; omega
  have e1 : List.take (i + 1) (List.take i xs ++ [y] ++ List.drop (i + 1) xs) = List.take i xs ++ [y] := List.take_left' hl
  have e2 : List.drop (i + 2) (List.take i xs ++ [y] ++ List.drop (i + 1) xs) = List.drop (i + 2) xs := by
    rw [show i + 2 = (List.take i xs ++ [y]).length + 1 by omega, List.drop_append, hl]
    have e0 : List.drop (i + 1 + 1) (List.take i xs ++ [y]) = [] := List.drop_eq_nil_of_le (by omega)
    rw [e0, List.nil_append, List.drop_drop, show i + 1 + (i + 1 + 1 - (i + 1)) = i + 1 + 1 by omega]
  have e3 : List.take (xs.length - (i + 2)) (List.drop (i + 2) xs) = List.drop (i + 2) xs := List.take_of_length_le (by simp)
  rw [e1, e2, e3]
  have hT : (List.take i xs ++ [y] ++ List.drop (i + 2) xs).length = xs.length - 1 := twoOne_len (y := y) (by omega)
  rw [List.take_left' hT]
  have hD : List.drop (xs.length - 1 + 1) (List.take i xs ++ [y] ++ List.drop (i + 2) xs ++ List.drop (i + 1 + (xs.length - (i + 2))) (List.take i xs ++ [y] ++ List.drop (i + 1) xs)) = [] := by
    apply List.drop_eq_nil_of_le
    rw [List.length_append, hT, List.length_drop, hA]
    omega
  rw [hD, List.append_nil]
  rfl
theorem repl_raw (xs : List RSeg) (y : RSeg) (c i : Nat) (h : i + 2 < xs.length) (hl : xs.length ≤ 1000000000) (hc : xs.length ≤ c) :
    EffGood P0 I.f77 [.hc 0 0 xs.length c, .int .i64 i, .int .i64 ((i + 2 : Nat) : Int), .hw 1] [.arr 10 rsegT xs [], .arr 10 rsegT [y] []] (.hc 0 0 (xs.length - 1) c) [.arr 10 rsegT (twoOne xs i y ++ [rsegT.zero]) [], .arr 10 rsegT [y] []] := by
  refine evFn_sound (H := H.repl2) (E := envR []) (envR_ok env_nil) globR mixed0 G.f77 (by kernel_rfl) Bd.f77 (LP := LPof []) noLoops ?_
  refine (repl_ev xs y c i ((i + 2 : Nat) : Int)).trans ?_
  have w1 : IntKind.i64.wrap ((i : Int) + 1) = ((i + 1 : Nat) : Int) := by rw [wrap64 (by omega) (by omega)]; omega
  have t2 : (((i + 2 : Nat) : Int)).toNat = i + 2 := Int.toNat_natCast _
  have w2 : IntKind.i64.wrap (((i + 1 : Nat) : Int) + ((xs.length - (i + 2) : Nat) : Int)) = ((xs.length - 1 : Nat) : Int) := by rw [wrap64 (by omega) (by omega)]; omega
  have e1 : ((i : Int) == ((i + 2 : Nat) : Int)) = false := by simp; omega
  have e2 : (((i + 2 : Nat) : Int) == (xs.length : Int)) = false := by simp; omega
  have e3 : decide (((xs.length - 1 : Nat) : Int) > (c : Int)) = false := decide_eq_false (by omega)
  have lA : (List.take i xs ++ [y] ++ List.drop (i + 1) xs).length = xs.length := by simp; omega
  have lB : (List.take (xs.length - (i + 2)) (List.drop (i + 2) (List.take i xs ++ [y] ++ List.drop (i + 1) xs))).length = xs.length - (i + 2) := by rw [List.length_take, List.length_drop, lA]; omega
  have lC : (List.take (i + 1) (List.take i xs ++ [y] ++ List.drop (i + 1) xs) ++ List.take (xs.length - (i + 2)) (List.drop (i + 2) (List.take i xs ++ [y] ++ List.drop (i + 1) xs)) ++ List.drop (i + 1 + (xs.length - (i + 2))) (List.take i xs ++ [y] ++ List.drop (i + 1) xs)).length = xs.length := by
    rw [List.length_append, List.length_append, lB, List.length_take, List.length_drop, lA]; omega
  simp only [Int.toNat_natCast, w1, w2, e1, e2, e3, cond_false, lA, lB, lC]
  rw [cond_pos2 (by omega) (by omega), cond_pos2 (by omega) (by omega), cond_pos2 (by omega) (by omega), cond_pos2 (by omega) (by omega)]
  rw [cond_pos2 (by omega) (by omega), cond_pos (by omega), cond_pos2 (by omega) (by omega), cond_pos2 (by omega) (by omega), cond_pos2 (by omega) (by omega), cond_pos2 (by omega) (by omega), cond_pos2 (by omega) (by omega), cond_pos2 (by omega) (by omega), cond_pos2 (by omega) (by omega), repl_list xs y rsegT.zero i h]
end Go.Sim
namespace Go.Sim
set_option linter.unusedSimpArgs false
set_option linter.unusedVariables false
set_option maxRecDepth 10000
def rcells (r : RSeg) : List Value := [.int .i64 r.1, .int .i64 r.2.1, .int .i64 r.2.2.1, .int .i64 r.2.2.2.1, r.2.2.2.2.1, .bool r.2.2.2.2.2.1, .bool r.2.2.2.2.2.2.1, .bool r.2.2.2.2.2.2.2.1, .int .i64 r.2.2.2.2.2.2.2.2.1, .int .u32 r.2.2.2.2.2.2.2.2.2]
theorem rseg_cells {φ : Nat → Nat} {w : World} {r : RSeg} {ds : List Value} (h : Vt φ w rsegT r ds) : ds = rcells r := by
  simp only [Vt] at h
  obtain ⟨_, _, rfl, ⟨rfl, _⟩, _, _, rfl, ⟨rfl, _⟩, _, _, rfl, ⟨rfl, _⟩, _, _, rfl, ⟨rfl, _⟩, _, _, rfl, ⟨rfl, _⟩, _, _, rfl, rfl, _, _, rfl, rfl, _, _, rfl, rfl, _, _, rfl, ⟨rfl, _⟩, rfl, _⟩ := h
  rfl
theorem rseg_told {φ : Nat → Nat} {w : World} {r : RSeg} (h1 : In .i64 r.1) (h2 : In .i64 r.2.1) (h3 : In .i64 r.2.2.1) (h4 : In .i64 r.2.2.2.1) (h5 : r.2.2.2.2.1.oneCell' = true) (h6 : In .i64 r.2.2.2.2.2.2.2.2.1) (h7 : In .u32 r.2.2.2.2.2.2.2.2.2) : Vt φ w rsegT r (rcells r) := by
  simp only [Vt]
  exact ⟨[_], _, rfl, ⟨rfl, h1⟩, [_], _, rfl, ⟨rfl, h2⟩, [_], _, rfl, ⟨rfl, h3⟩, [_], _, rfl, ⟨rfl, h4⟩, [_], _, rfl, ⟨rfl, h5⟩, [_], _, rfl, rfl, [_], _, rfl, rfl, [_], _, rfl, rfl, [_], _, rfl, ⟨rfl, h6⟩, rfl, h7⟩
theorem rseg_of_seg {φ : Nat → Nat} {w : World} {g : Seg} {ds : List Value} (h : Vt φ w segT g ds) : ∃ r : RSeg, Vt φ w rsegT r ds := by
  obtain ⟨b, n, t, e, l, s, c, m, z, u⟩ := g
  simp only [Vt] at h
  obtain ⟨_, _, rfl, ⟨rfl, h1⟩, _, _, rfl, ⟨rfl, h2⟩, _, _, rfl, ⟨rfl, h3⟩, _, _, rfl, ⟨rfl, h4⟩, _, _, rfl, ⟨_, A, cap, rfl, _⟩, _, _, rfl, rfl, _, _, rfl, rfl, _, _, rfl, rfl, _, _, rfl, ⟨rfl, h6⟩, rfl, h7⟩ := h
  exact ⟨(b, n, t, e, .slice A l.length cap, s, c, m, z, u), rseg_told h1 h2 h3 h4 rfl h6 h7⟩
theorem hw_slice {φ : Nat → Nat} {β : Beta} {w : World} {l : Nat} {v : Value} (h : V φ β w (.hw l) v) : ∃ A n c, v = .slice A n c := by
  simp only [V] at h
  split at h
  · obtain ⟨cap, rfl, _⟩ := h
    exact ⟨_, _, _, rfl⟩
  · obtain ⟨A, rfl⟩ := h
    exact ⟨_, _, _, rfl⟩
  · exact h.elim
theorem rseg_of_act {φ : Nat → Nat} {β : Beta} {w : World} {b n z : Int} {ds : List Value} (h : VL φ β w (actR b n z) ds) : ∃ r : RSeg, Vt φ w rsegT r ds := by
  simp only [VL] at h
  obtain ⟨_, _, rfl, h1, _, _, rfl, h2, _, _, rfl, h3, _, _, rfl, h4, u, _, rfl, h5, _, _, rfl, h6, _, _, rfl, h7, _, _, rfl, h8, _, _, rfl, h9, _, _, rfl, h10, rfl⟩ := h
  obtain ⟨A, m, c, rfl⟩ := hw_slice h5
  simp only [V] at h1 h2 h3 h4 h6 h7 h8 h9 h10
  obtain ⟨rfl, h1⟩ := h1
  obtain ⟨rfl, h2⟩ := h2
  obtain ⟨rfl, h3⟩ := h3
  obtain ⟨rfl, h4⟩ := h4
  obtain ⟨rfl, h9⟩ := h9
  obtain ⟨rfl, h10⟩ := h10
  subst h6 h7 h8
  exact ⟨(b, n, 0, 0, .slice A m c, false, false, false, z, 0), rseg_told h1 h2 h3 h4 rfl h9 h10⟩
theorem seg_of_cells {φ : Nat → Nat} {β : Beta} {w : World} {g : Seg} {ds : List Value} (h : VL φ β w (enc segT g) ds) : Vt φ w segT g ds := by
  obtain ⟨b, n, t, e, l, s, c, m, z, u⟩ := g
  simp only [enc, List.append_nil, List.cons_append, List.nil_append, VL] at h
  obtain ⟨_, _, rfl, h1, _, _, rfl, h2, _, _, rfl, h3, _, _, rfl, h4, _, _, rfl, h5, _, _, rfl, h6, _, _, rfl, h7, _, _, rfl, h8, _, _, rfl, h9, _, _, rfl, h10, rfl⟩ := h
  simp only [V] at h1 h2 h3 h4 h5 h6 h7 h8 h9 h10
  obtain ⟨rfl, h1⟩ := h1
  obtain ⟨rfl, h2⟩ := h2
  obtain ⟨rfl, h3⟩ := h3
  obtain ⟨rfl, h4⟩ := h4
  obtain ⟨rfl, h9⟩ := h9
  obtain ⟨rfl, h10⟩ := h10
  subst h6 h7 h8
  rw [Vt] 
  refine ⟨[_], _, rfl, ⟨rfl, h1⟩, ?_⟩
  rw [Vt]
  refine ⟨[_], _, rfl, ⟨rfl, h2⟩, ?_⟩
  rw [Vt]
  refine ⟨[_], _, rfl, ⟨rfl, h3⟩, ?_⟩
  rw [Vt]
  refine ⟨[_], _, rfl, ⟨rfl, h4⟩, ?_⟩
  rw [Vt]
  refine ⟨[_], _, rfl, h5, ?_⟩
  simp only [Vt]
  exact ⟨[_], _, rfl, rfl, [_], _, rfl, rfl, [_], _, rfl, rfl, [_], _, rfl, ⟨rfl, h9⟩, rfl, h10⟩
theorem ex_list {α : Type} {Q : Nat → α → Prop} : ∀ (n : Nat), (∀ k, k < n → ∃ r, Q k r) → ∃ xs : List α, xs.length = n ∧ ∀ k x, xs[k]? = some x → Q k x
  | 0, _ => ⟨[], rfl, fun k x h => by simp at h⟩
  | n + 1, h => by
    obtain ⟨xs, h1, h2⟩ := ex_list n fun k hk => h k (by omega)
    obtain ⟨r, hr⟩ := h n (by omega)
    refine ⟨xs ++ [r], by simp [h1], fun k x hk => ?_⟩
    rw [List.getElem?_append] at hk
    split at hk
    · exact h2 k x hk
    · rename_i hlt
      have hk0 : k - xs.length = 0 := by
        rcases Nat.eq_zero_or_pos (k - xs.length) with h0 | h0
        · exact h0
        · rw [List.getElem?_eq_none (by simp; omega)] at hk
          cases hk
      rw [hk0] at hk
      simp at hk
      subst hk
      obtain rfl : k = n := by omega
      exact hr
theorem twoOne_get {α : Type} {xs : List α} {i : Nat} {y : α} (h : i + 2 ≤ xs.length) (k : Nat) : (twoOne xs i y)[k]? = if k < i then xs[k]? else if k = i then some y else xs[k + 1]? := by
  have h1 : (List.take i xs).length = i := by simp; omega
  have h2 : (List.take i xs ++ [y]).length = i + 1 := by simp; omega
  unfold twoOne
  by_cases a : k < i
  · rw [if_pos a, List.append_assoc, List.getElem?_append_left (by omega), List.getElem?_take, if_pos a]
  · rw [if_neg a]
    by_cases b : k = i
    · rw [if_pos b, List.getElem?_append_left (by omega), List.getElem?_append_right (by omega), h1, b, Nat.sub_self]; rfl
    · rw [if_neg b, List.getElem?_append_right (by omega), h2, List.getElem?_drop]
      congr 1
      omega
theorem repl_eff (f : List Seg) (b n z : Int) (rs : List Rec) (g : Seg) (i : Nat) (hi : i + 2 ≤ f.length) (hl : f.length < 1000000000) :
    EffGood P0 I.f77 [.hw 0, .int .i64 i, .int .i64 ((i + 2 : Nat) : Int), .hw 2] [.arr 10 segT f [actR b n z], .log recT rs, .arr 10 .bool [] [enc segT g]] (.hw 3) [.dead, .log recT rs, .dead, .arr 10 segT (twoOne f i g) [actR b n z]] := fun own φ β w vs hV hW ht => by
  have r0 := hW.rel 0
  have r1 := hW.rel 1
  have r2 := hW.rel 2
  simp only [List.getElem?_cons_zero, List.getElem?_cons_succ, Option.getD_some] at r0 r1 r2
  simp only [VL] at hV
  obtain ⟨v0, _, rfl, a0, v1, _, rfl, a1, v2, _, rfl, a2, v3, _, rfl, a3, rfl⟩ := hV
  rcases h0 : β 0 with _ | (_ | p)
  · simp only [ObjRel, h0] at r0
  · simp only [ObjRel, h0] at r0
    simp at r0
  rcases h2 : β 2 with _ | (_ | q)
  · simp only [ObjRel, h2] at r2
  · simp only [ObjRel, h2] at r2
    simp at r2
  simp only [ObjRel, h0] at r0
  simp only [ObjRel, h2] at r2
  obtain ⟨p1, p2, p3, p4, p5, p6, p7, p8, p9, p10⟩ := r0
  obtain ⟨q1, q2, q3, q4, q5, q6, q7, q8, q9, q10⟩ := r2
  simp only [List.length_singleton, List.length_nil, Nat.zero_add] at p3 q2 q3
  obtain ⟨xs, x1, x2⟩ := ex_list (Q := fun k r => Vt φ w rsegT r (rcells r) ∧ CellsAt w p.block (p.off + k * 10) (rcells r) ∧ (∀ x, f[k]? = some x → Vt φ w segT x (rcells r)) ∧ (k = f.length → VL φ β w (actR b n z) (rcells r))) (f.length + 1) fun k hk => by
    by_cases hkf : k < f.length
    · obtain ⟨ds, d1, d2⟩ := p9 k _ (List.getElem?_eq_getElem hkf)
      obtain ⟨r, hr⟩ := rseg_of_seg d1
      have e := rseg_cells hr
      subst e
      exact ⟨r, hr, d2, fun x hx => by rw [List.getElem?_eq_getElem hkf] at hx; cases hx; exact d1, fun e => by omega⟩
    · obtain rfl : k = f.length := by omega
      obtain ⟨_, ds, d1, d2⟩ := p10 0 _ rfl
      obtain ⟨r, hr⟩ := rseg_of_act d1
      have e := rseg_cells hr
      subst e
      exact ⟨r, hr, d2, fun x hx => by simp at hx, fun _ => d1⟩
  obtain ⟨y, y1, y2, y3⟩ : ∃ r, Vt φ w rsegT r (rcells r) ∧ CellsAt w q.block (q.off + 0 * 10) (rcells r) ∧ Vt φ w segT g (rcells r) := by
    obtain ⟨_, ds, d1, d2⟩ := q10 0 _ rfl
    have d3 := seg_of_cells d1
    obtain ⟨r, hr⟩ := rseg_of_seg d3
    have e := rseg_cells hr
    subst e
    exact ⟨r, hr, d2, d3⟩
  have hd02 : p.block ≠ q.block := hW.dist 0 2 p q (by decide) (by simp) (by simp) h0 h2
  have m0 := hW.mine 0 p (by simp) h0
  have m2 := hW.mine 2 q (by simp) h2
  simp only [V, h0] at a0
  obtain ⟨cap, rfl, c1, c2, c3⟩ := a0
  simp only [V] at a1 a2
  simp only [V, h2] at a3
  obtain ⟨cap2, rfl, c4, c5, c6⟩ := a3
  have m1 : ∀ l, β 1 = some (some l) → l.block < w.heap.size := fun l hl => (hW.mine 1 l (by simp) hl).2
  obtain ⟨β1, hβ⟩ : ∃ β1 : Beta, β1 = fun l => if l = 0 then some (some ⟨p.block, p.off, 10, f.length + 1, f.length + 1⟩) else if l = 1 then some (some ⟨q.block, q.off, 10, 1, 1⟩) else none := ⟨_, rfl⟩
  have b0 : β1 0 = some (some ⟨p.block, p.off, 10, f.length + 1, f.length + 1⟩) := by rw [hβ]; rfl
  have b1 : β1 1 = some (some ⟨q.block, q.off, 10, 1, 1⟩) := by rw [hβ]; rfl
  have b2 : ∀ l, 2 ≤ l → β1 l = none := fun l hl => by rw [hβ]; show (if l = 0 then _ else if l = 1 then _ else none) = none; rw [if_neg (by omega), if_neg (by omega)]
  have hrun := repl_raw xs y cap i (by omega) (by omega) (by omega) (fun k => own k ∧ ∀ l, β 1 = some (some l) → k ≠ l.block) φ β1 w
    [.slice (some ⟨p.block, p.off, none⟩) p.len cap, v1, v2, .slice (some ⟨q.block, q.off, none⟩) q.len cap2] ?_ ?_ b2
  · refine hrun.mono fun e w' ⟨v, φ', β', he, hr, hVr, hWI, htop⟩ => ?_
    have e0 : β' 0 = some (some ⟨p.block, p.off, 10, f.length + 1, f.length + 1⟩) := (hr.agree 0 (by simp)).trans b0
    obtain ⟨β2, hβ2⟩ : ∃ β2 : Beta, β2 = fun l => if l < 3 then β l else if l = 3 then some (some ⟨p.block, p.off, 10, f.length - 1, f.length⟩) else none := ⟨_, rfl⟩
    have g0 : ∀ l, l < 3 → β2 l = β l := fun l hl => by rw [hβ2]; show (if l < 3 then _ else _) = _; rw [if_pos hl]
    have g3 : β2 3 = some (some ⟨p.block, p.off, 10, f.length - 1, f.length⟩) := by rw [hβ2]; rfl
    have g4 : ∀ l, 4 ≤ l → β2 l = none := fun l hl => by rw [hβ2]; show (if l < 3 then _ else if l = 3 then _ else none) = none; rw [if_neg (by omega), if_neg (by omega)]
    have hx : Ext β β2 := fun l x hl => by
      by_cases h : l < 3
      · rw [g0 l h]; exact hl
      · rw [ht l (by simp; omega)] at hl; cases hl
    have hold : ∀ l, β 1 = some (some l) → w'.heap[l.block]? = w.heap[l.block]? ∧ φ' l.block = φ l.block := fun l hl => hr.old _ (m1 l hl) fun h => h.2 l hl rfl
    have R0 := hWI.rel 0
    simp only [List.getElem?_cons_zero, Option.getD_some, ObjRel, e0] at R0
    obtain ⟨-, -, -, -, -, s6, s7, s8, s9, -⟩ := R0
    have tl : (twoOne f i g).length = f.length - 1 := twoOne_len (by omega)
    have tx : (twoOne xs i y).length = f.length := by rw [twoOne_len (by omega), x1]; rfl
    have cell : ∀ k r, (twoOne xs i y)[k]? = some r → CellsAt w' p.block (p.off + k * 10) (rcells r) := fun k r hk => by
      have hlt : k < (twoOne xs i y).length := (List.getElem?_eq_some_iff.1 hk).1
      obtain ⟨ds, d1, d2⟩ := s9 k r (by rw [List.getElem?_append_left hlt]; exact hk)
      rw [rseg_cells d1] at d2
      exact d2
    refine ⟨v, φ', β2, he, ⟨hr.keeps, fun l hl => g0 l (by simpa using hl), hr.grow, fun c hc ho => hr.old c hc fun h => ho h.1⟩, ?_, ?_, fun l hl => g4 l (by simpa using hl)⟩
    · simp only [V, e0] at hVr
      obtain ⟨k1, k2, A, rfl, k3, k4⟩ := hVr
      obtain ⟨rfl, k5⟩ := k4 (by omega)
      simp only [V, g3]
      refine ⟨cap, ?_, by omega, k2, by simpa using k5⟩
      simp [x1]
    · refine ⟨fun l => ?_, fun l u hl hu => ?_, fun l m u u' hlm hl hm hu hu' => ?_, fun c hc => ⟨(hWI.fresh c hc).1.1, (hWI.fresh c hc).2⟩, hWI.laid⟩
      · match l with
        | 0 => simp [ObjRel]
        | 1 => exact ObjRel.keep hr.keeps hx hold r1
        | 2 => simp [ObjRel]
        | 3 =>
          simp only [List.getElem?_cons_zero, List.getElem?_cons_succ, Option.getD_some, ObjRel, g3]
          refine ⟨trivial, tl.symm, by rw [tl]; simp; omega, by rw [p3] at p4; omega, fun _ => rfl, s6, s7, ?_, fun k x hk => ?_, fun k e hk => ?_⟩
          · obtain ⟨c, t, fr, u1, u2⟩ := s8
            exact ⟨c, t, fr, u1, by omega⟩
          · rw [twoOne_get hi] at hk
            by_cases a : k < i
            · rw [if_pos a] at hk
              have hkx : k < xs.length := by omega
              have h3 := cell k _ (by rw [twoOne_get (by omega), if_pos a]; exact List.getElem?_eq_getElem hkx)
              exact ⟨_, Vt.keep hr.keeps _ _ _ ((x2 k _ (List.getElem?_eq_getElem hkx)).2.2.1 x hk), h3⟩
            · rw [if_neg a] at hk
              by_cases b : k = i
              · rw [if_pos b] at hk
                cases hk
                have h3 := cell k y (by rw [twoOne_get (by omega), if_neg a, if_pos b])
                exact ⟨_, Vt.keep hr.keeps _ _ _ y3, h3⟩
              · rw [if_neg b] at hk
                have hkf : k + 1 < f.length := (List.getElem?_eq_some_iff.1 hk).1
                have hkx : k + 1 < xs.length := by omega
                have h3 := cell k _ (by rw [twoOne_get (by omega), if_neg a, if_neg b]; exact List.getElem?_eq_getElem hkx)
                exact ⟨_, Vt.keep hr.keeps _ _ _ ((x2 (k + 1) _ (List.getElem?_eq_getElem hkx)).2.2.1 x hk), h3⟩
          · match k, hk with
            | 0, hk =>
              simp at hk
              subst hk
              have hkx : f.length < xs.length := by omega
              have h3 := cell (f.length - 1) _ (by rw [twoOne_get (by omega), if_neg (by omega), if_neg (by omega), show f.length - 1 + 1 = f.length by omega]; exact List.getElem?_eq_getElem hkx)
              refine ⟨rfl, _, VL.keep hr.keeps hx _ _ ((x2 f.length _ (List.getElem?_eq_getElem hkx)).2.2.2 rfl), ?_⟩
              rw [tl]
              exact h3
        | l + 4 => simp [ObjRel]
      · match l, hl, hu with
        | 0, hl, _ => exact absurd (by simp) hl
        | 1, _, hu =>
          rw [g0 1 (by decide)] at hu
          have := hW.mine 1 u (by simp) hu
          exact ⟨this.1, Nat.lt_of_lt_of_le this.2 hr.grow⟩
        | 2, hl, _ => exact absurd (by simp) hl
        | 3, _, hu =>
          rw [g3] at hu
          cases hu
          exact ⟨m0.1, Nat.lt_of_lt_of_le m0.2 hr.grow⟩
        | l + 4, hl, _ => exact absurd (by simp) hl
      · match l, m, hl, hm, hu, hu' with
        | 0, _, hl, _, _, _ => exact absurd (by simp) hl
        | _, 0, _, hm, _, _ => exact absurd (by simp) hm
        | 2, _, hl, _, _, _ => exact absurd (by simp) hl
        | _, 2, _, hm, _, _ => exact absurd (by simp) hm
        | 1, 1, _, _, _, _ => exact absurd rfl hlm
        | 3, 3, _, _, _, _ => exact absurd rfl hlm
        | 1, 3, _, _, hu, hu' =>
          rw [g0 1 (by decide)] at hu
          rw [g3] at hu'
          cases hu'
          exact hW.dist 1 0 u p (by decide) (by simp) (by simp) hu h0
        | 3, 1, _, _, hu, hu' =>
          rw [g3] at hu
          rw [g0 1 (by decide)] at hu'
          cases hu
          exact hW.dist 0 1 p u' (by decide) (by simp) (by simp) h0 hu'
        | l + 4, _, hl, _, _, _ => exact absurd (by simp) hl
        | _, l + 4, _, hm, _, _ => exact absurd (by simp) hm
  · simp only [VL]
    refine ⟨_, _, rfl, ?_, _, _, rfl, ?_, _, _, rfl, ?_, _, _, rfl, ?_, rfl⟩
    · simp only [V, b0]
      refine ⟨by omega, c2, _, by rw [x1, p3], by omega, fun _ => ⟨by simp, ?_⟩⟩
      rw [p1] at c3
      simpa using c3
    · simp only [V]; exact a1
    · simp only [V]; exact a2
    · simp only [V, b1]
      refine ⟨cap2, by rw [q3], by omega, c5, ?_⟩
      rw [q1] at c6
      exact c6
  · refine ⟨fun l => ?_, fun l u hl hu => ?_, fun l m u u' hlm hl hm hu hu' => ?_, fun c hc => ?_, hW.laid⟩
    · match l with
      | 0 =>
        simp only [List.getElem?_cons_zero, Option.getD_some, ObjRel, b0]
        refine ⟨trivial, x1.symm, by simp [x1], by rw [← p3]; exact p4, fun _ => rfl, p6, p7, ?_, fun k x hx => ?_, fun k e he => by simp at he⟩
        · rw [p3] at p8
          exact p8
        · obtain ⟨d1, d2, _⟩ := x2 k x hx
          exact ⟨_, d1, d2⟩
      | 1 =>
        simp only [List.getElem?_cons_zero, List.getElem?_cons_succ, Option.getD_some, ObjRel, b1]
        refine ⟨trivial, rfl, rfl, by decide, fun _ => rfl, q6, q7, ?_, fun k x hx => ?_, fun k e he => by simp at he⟩
        · rw [q3] at q8
          exact q8
        · match k, hx with
          | 0, hx =>
            simp at hx
            subst hx
            exact ⟨_, y1, y2⟩
      | l + 2 => simp [ObjRel]
    · match l, hl, hu with
      | 0, _, hu =>
        rw [b0] at hu
        cases hu
        exact ⟨⟨m0.1, fun l hl => (hW.dist 0 1 p l (by decide) (by simp) (by simp) h0 hl)⟩, m0.2⟩
      | 1, _, hu =>
        rw [b1] at hu
        cases hu
        exact ⟨⟨m2.1, fun l hl => (hW.dist 2 1 q l (by decide) (by simp) (by simp) h2 hl)⟩, m2.2⟩
      | l + 2, hl, _ => exact absurd (by simp) hl
    · match l, m, hl, hm, hu, hu' with
      | 0, 0, _, _, _, _ => exact absurd rfl hlm
      | 1, 1, _, _, _, _ => exact absurd rfl hlm
      | 0, 1, _, _, hu, hu' =>
        rw [b0] at hu
        rw [b1] at hu'
        cases hu
        cases hu'
        exact hd02
      | 1, 0, _, _, hu, hu' =>
        rw [b1] at hu
        rw [b0] at hu'
        cases hu
        cases hu'
        exact fun e => hd02 e.symm
      | l + 2, _, hl, _, _, _ => exact absurd (by simp) hl
      | _, l + 2, _, hl, _, _ => exact absurd (by simp) hl
    · obtain ⟨h1, h2⟩ := hW.fresh c hc
      exact ⟨⟨h1, fun l hl e => by have := m1 l hl; omega⟩, h2⟩
end Go.Sim
namespace Go.Sim
set_option linter.unusedSimpArgs false
set_option linter.unusedVariables false
set_option maxRecDepth 10000
theorem kk3_rd {R : Type} (a b : List (List Rec)) (s n i : Int) (K : Ex → St → Option R) : roundK (env []) H.f74 0 (LPof []) V.f74_3 L.f74_3 ⟨[(0, .vl (.sl recT) a), (3, .int .i64 s), (9, .vl (.sl recT) b), (10, .int .i64 n), (11, .int .i64 i)], [], 0⟩ K = bif decide (i < n) then bif decide ((0 : Int) ≤ i) && decide (i < (↑b.length : Int)) then bif decide (IntKind.i64.wrap (s + (↑(List.length (b.getD i.toNat [])) : Int)) < (0 : Int)) then none else K .normal { slots := [(0, .vl recTy.sl a), (3, .int .i64 (IntKind.i64.wrap (s + (↑(List.length (b.getD i.toNat [])) : Int)))), (9, .vl recTy.sl b), (10, .int .i64 n), (11, .int .i64 (IntKind.i64.wrap (i + (1 : Int))))], objs := [], nx := 0 } else none else K (.exit 0) { slots := [(0, .vl recTy.sl a), (3, .int .i64 s), (9, .vl recTy.sl b), (10, .int .i64 n), (11, .int .i64 i)], objs := [], nx := 0 } := by kernel_rfl
theorem kk11a_rd {R : Type} (b : List (List Rec)) (n i : Int) (xs : List Rec) (K : Ex → St → Option R) : roundK (env []) H.f74 0 (LPof []) V.f74_11 L.f74_11 ⟨[(6, .hs 0 0 0), (25, .vl (.sl recT) b), (26, .int .i64 n), (27, .int .i64 i)], [(0, .arr 5 recT xs [])], 1⟩ K = bif decide (i < n) then bif decide ((0 : Int) ≤ i) && decide (i < (↑b.length : Int)) then bif decide ((List.take 0 xs ++ b.getD i.toNat []).length * 56 ≤ 140737488355328) then K .normal { slots := [(6, .hw 0), (25, .vl recTy.sl b), (26, .int .i64 n), (27, .int .i64 (IntKind.i64.wrap (i + (1 : Int))))], objs := [(0, .arr 5 recTy (List.take 0 xs ++ b.getD i.toNat []) [])], nx := 1 } else none else none else K (.exit 2) { slots := [(6, .hs 0 0 0), (25, .vl recTy.sl b), (26, .int .i64 n), (27, .int .i64 i)], objs := [(0, .arr 5 recTy xs [])], nx := 1 } := by kernel_rfl
theorem kk11b_rd {R : Type} (b : List (List Rec)) (n i : Int) (xs : List Rec) (K : Ex → St → Option R) : roundK (env []) H.f74 0 (LPof []) V.f74_11 L.f74_11 ⟨[(6, .hw 0), (25, .vl (.sl recT) b), (26, .int .i64 n), (27, .int .i64 i)], [(0, .arr 5 recT xs [])], 1⟩ K = bif decide (i < n) then bif decide ((0 : Int) ≤ i) && decide (i < (↑b.length : Int)) then bif decide ((xs ++ b.getD i.toNat []).length * 56 ≤ 140737488355328) then K .normal { slots := [(6, .hw 0), (25, .vl recTy.sl b), (26, .int .i64 n), (27, .int .i64 (IntKind.i64.wrap (i + (1 : Int))))], objs := [(0, .arr 5 recTy (xs ++ b.getD i.toNat []) [])], nx := 1 } else none else none else K (.exit 2) { slots := [(6, .hw 0), (25, .vl recTy.sl b), (26, .int .i64 n), (27, .int .i64 i)], objs := [(0, .arr 5 recTy xs [])], nx := 1 } := by kernel_rfl
theorem rgrow_ev (n : Int) : evFn (env []) H.f75 (LPof []) F.f75 [.nils, .int .i64 n] [] (finV (.hs 0) [.arr 5 recT []] 0) = bif decide (n < (0 : Int)) then none else bif decide (IntKind.i64.wrap (n - (0 : Int)) > (0 : Int)) then bif decide ((0 : Int) < IntKind.i64.wrap (n - (0 : Int))) && decide ((IntKind.i64.wrap (n - (0 : Int))).toNat * 56 ≤ 140737488355328) then some ((0, 0), (List.replicate (IntKind.i64.wrap (n - (0 : Int))).toNat recTy.zero, ()), ()) else none else none := by kernel_rfl
def H.rgrow2 : Hint := { H.f75 with vs := [] }
theorem rgrow0_ev : evFn (env []) H.rgrow2 (LPof []) F.f75 [.nils, .int .i64 0] [] (finV (.lit .nils) [] 0) = some ((), ()) := by kernel_rfl
def caseRgrow : VCase := ⟨[.lit .nils, .int .i64], [], .hs 0, [.arr 5 recT []], fun ⟨_, n, ()⟩ () => [(decide (0 < n) && decide (n ≤ 1000000000), (((0 : Nat), (0 : Nat)), ((List.replicate n.toNat recT.zero, ()), ())))]⟩
theorem rgrow_val (n : Int) (hc : (decide (0 < n) && decide (n ≤ 1000000000)) = true) : evFn (env []) H.f75 (LPof []) F.f75 [.nils, .int .i64 n] [] (finV (.hs 0) [.arr 5 recT []] 0) = some (((0 : Nat), (0 : Nat)), ((List.replicate n.toNat recT.zero, ()), ())) := by
  simp only [Bool.and_eq_true, decide_eq_true_eq] at hc
  have e : IntKind.i64.wrap (n - (0 : Int)) = n := by rw [wrap64 (by omega) (by omega)]; omega
  rw [rgrow_ev, e, cond_neg (by omega), cond_pos (by omega), cond_pos2 (by omega) (by omega)]
theorem rgrow_ok : caseRgrow.e.ok P0 I.f75 := vcase_ok (c := caseRgrow) (H := H.f75) (E := env []) (env_ok env_nil) glob0 mixed0 G.f75 Bd.f75 (by kernel_rfl) noLoops fun ⟨_, n, ()⟩ () r h hw1 hw2 => by
  obtain ⟨hc, rfl⟩ := pick_pre h
  exact rgrow_val n hc
def caseRgrow0 : VCase := ⟨[.lit .nils, .lit (.int .i64 0)], [], .lit .nils, [], fun _ _ => [(true, ((), ()))]⟩
theorem rgrow0_ok : caseRgrow0.e.ok P0 I.f75 := vcase_ok (c := caseRgrow0) (H := H.rgrow2) (E := env []) (env_ok env_nil) glob0 mixed0 G.f75 Bd.f75 (by kernel_rfl) noLoops fun _ _ r h hw1 hw2 => by
  obtain ⟨hc, rfl⟩ := pick_pre h
  exact rgrow0_ev
noncomputable abbrev consK20 : List (FuncId × Con) := [(I.f75, .eff (effOf [caseRgrow0.e]))]
theorem consK20_ok : ∀ x ∈ consK20, HoldsC P0 x.1 x.2 := by
  intro x hx
  simp at hx
  subst hx
  exact ⟨fun args objs r objs2 h _ => effOf_holds (by simp; exact rgrow0_ok) args objs r objs2 h, C.f75⟩
noncomputable abbrev consK2 : List (FuncId × Con) := [(I.f75, .eff (effOf [caseRgrow.e]))]
theorem consK2_ok : ∀ x ∈ consK2, HoldsC P0 x.1 x.2 := by
  intro x hx
  simp at hx
  subst hx
  exact ⟨fun args objs r objs2 h _ => effOf_holds (by simp; exact rgrow_ok) args objs r objs2 h, C.f75⟩
def lenR (b : List (List Rec)) (i : Nat) : Nat := ((b.take i).map List.length).sum
theorem lenR_succ {b : List (List Rec)} {i : Nat} (h : i < b.length) : lenR b (i + 1) = lenR b i + (b.getD i []).length := by
  unfold lenR
  rw [List.getD_eq_getElem?_getD, List.getElem?_eq_getElem h, List.take_add_one, List.getElem?_eq_getElem h]
  simp only [Option.toList_some, List.map_append, List.sum_append_nat, Option.getD_some, List.map_cons, List.map_nil, List.sum_cons, List.sum_nil, Nat.add_zero]
theorem lenR_mono (b : List (List Rec)) : ∀ (m i : Nat), i + m = b.length → lenR b i ≤ lenR b b.length
  | 0, i, h => by rw [show i = b.length by omega]; exact Nat.le_refl _
  | m + 1, i, h => by
    have := lenR_mono b m (i + 1) (by omega)
    rw [lenR_succ (by omega)] at this
    omega
theorem lenR_le {b : List (List Rec)} {i : Nat} (h : i ≤ b.length) : lenR b i ≤ lenR b b.length := lenR_mono b (b.length - i) i (by omega)
theorem rflat_len (b : List (List Rec)) (i : Nat) : (b.take i).flatten.length = lenR b i := by unfold lenR; rw [List.length_flatten]
theorem rflat_succ {b : List (List Rec)} {i : Nat} (h : i < b.length) : (b.take (i + 1)).flatten = (b.take i).flatten ++ b.getD i [] := by
  rw [List.getD_eq_getElem?_getD, List.getElem?_eq_getElem h, List.take_add_one, List.getElem?_eq_getElem h]
  simp only [Option.toList_some, List.flatten_append, Option.getD_some, List.flatten_cons, List.flatten_nil, List.append_nil]
def k3St (b : List (List Rec)) (i : Nat) : St := ⟨[(0, .vl (.sl recT) b), (3, .int .i64 (lenR b i : Nat)), (9, .vl (.sl recT) b), (10, .int .i64 b.length), (11, .int .i64 i)], [], 0⟩
theorem k3_rounds {R : Type} (b : List (List Rec)) (hb : lenR b b.length ≤ 1000000000) (hm : b.length ≤ maxL) (K : Ex → St → Option R) : ∀ (m i : Nat), i + m = b.length → rounds (env []) H.f74 0 (LPof []) V.f74_3 L.f74_3 (m + 1) (k3St b i) K = K (.exit 0) (k3St b b.length)
  | 0, i, h => by
    obtain rfl : i = b.length := by omega
    rw [rounds_succ']
    refine (kk3_rd _ _ _ _ _ _).trans ?_
    rw [cond_neg (by omega)]
    rfl
  | m + 1, i, h => by
    have ih := k3_rounds b hb hm K m (i + 1) (by omega)
    unfold maxL at hm
    have h1 := lenR_succ (b := b) (i := i) (by omega)
    have h2 := lenR_le (b := b) (i := i + 1) (by omega)
    have e1 : IntKind.i64.wrap ((lenR b i : Nat) + ((b.getD i []).length : Int)) = ((lenR b (i + 1) : Nat) : Int) := by rw [wrap64 (by omega) (by omega), h1]; omega
    have e3 : IntKind.i64.wrap ((i : Int) + 1) = ((i + 1 : Nat) : Int) := by rw [wrap64 (by omega) (by omega)]; omega
    rw [rounds_succ']
    refine (kk3_rd _ _ _ _ _ _).trans ?_
    rw [cond_pos (by omega), cond_pos2 (by omega) (by omega), Int.toNat_natCast, e1, cond_neg (by omega), e3]
    exact ih
abbrev k3LC : LoopC := LoopC.of ⟨[(0, .vl (.sl recT)), (3, .int .i64), (9, .vl (.sl recT)), (10, .int .i64), (11, .int .i64)], []⟩ (fun x => decide (x.1.2.2.2.2.1 = (0 : Int)) && decide (x.1.2.1 = (0 : Int)) && decide (x.1.2.2.1 = x.1.1) && decide (x.1.2.2.2.1 = (List.length x.1.1 : Int)) && decide (lenR x.1.1 (List.length x.1.1) ≤ 1000000000))
  fun x => [(true, .exit 0, k3St x.1.1 (List.length x.1.1))]
theorem k3_lok : LoopOK P0 H.f74 0 L.f74_3 k3LC :=
  loop_ok_of (env_ok env_nil) glob0 mixed0 noLoops V.f74_3 (by decide) fun ⟨⟨a, s, b, n, i, _⟩, _⟩ h hw => by
    simp only [Bool.and_eq_true, decide_eq_true_eq] at h
    obtain ⟨⟨⟨⟨rfl, rfl⟩, rfl⟩, rfl⟩, h5⟩ := h
    exact ⟨_, k3_rounds b h5 hw.1.1.1 _ b.length 0 (Nat.zero_add _)⟩
def k11St (b : List (List Rec)) (i : Nat) : St := ⟨[(6, .hw 0), (25, .vl (.sl recT) b), (26, .int .i64 b.length), (27, .int .i64 i)], [(0, .arr 5 recT (b.take i).flatten [])], 1⟩
theorem k11_rounds {R : Type} (b : List (List Rec)) (hb : lenR b b.length ≤ 1000000000) (hm : b.length ≤ maxL) (K : Ex → St → Option R) : ∀ (m i : Nat), i + m = b.length → rounds (env []) H.f74 0 (LPof []) V.f74_11 L.f74_11 (m + 1) (k11St b i) K = K (.exit 2) (k11St b b.length)
  | 0, i, h => by
    obtain rfl : i = b.length := by omega
    rw [rounds_succ']
    refine (kk11b_rd _ _ _ _ _).trans ?_
    rw [cond_neg (by omega)]
    rfl
  | m + 1, i, h => by
    have ih := k11_rounds b hb hm K m (i + 1) (by omega)
    unfold maxL at hm
    have h2 := lenR_le (b := b) (i := i + 1) (by omega)
    have e1 := rflat_succ (b := b) (i := i) (by omega)
    have e2 := rflat_len b (i + 1)
    have e3 : IntKind.i64.wrap ((i : Int) + 1) = ((i + 1 : Nat) : Int) := by rw [wrap64 (by omega) (by omega)]; omega
    rw [rounds_succ']
    refine (kk11b_rd _ _ _ _ _).trans ?_
    rw [cond_pos (by omega), cond_pos2 (by omega) (by omega), Int.toNat_natCast, ← e1, e2, cond_pos (by omega), e3]
    exact ih
theorem k11_go {R : Type} (b : List (List Rec)) (xs : List Rec) (h0 : 0 < b.length) (hb : lenR b b.length ≤ 1000000000) (hm : b.length ≤ maxL) (K : Ex → St → Option R) : ∃ m, rounds (env []) H.f74 0 (LPof []) V.f74_11 L.f74_11 m ⟨[(6, .hs 0 0 0), (25, .vl (.sl recT) b), (26, .int .i64 b.length), (27, .int .i64 0)], [(0, .arr 5 recT xs [])], 1⟩ K = K (.exit 2) (k11St b b.length) := by
  refine ⟨b.length - 1 + 1 + 1, ?_⟩
  have ih := k11_rounds b hb hm K (b.length - 1) 1 (by omega)
  have h2 := lenR_le (b := b) (i := 1) (by omega)
  have e1 := rflat_succ (b := b) (i := 0) h0
  have e2 := rflat_len b 1
  have e0 : (0 : Int).toNat = 0 := rfl
  have e4 : List.take 0 xs ++ b.getD 0 [] = (b.take 1).flatten := by rw [e1]; simp
  rw [rounds_succ']
  refine (kk11a_rd _ _ _ _ _).trans ?_
  rw [cond_pos (by omega), cond_pos2 (by omega) (by omega), e0, e4, e2, cond_pos (by omega)]
  exact ih
abbrev k11LC : LoopC := LoopC.of ⟨[(6, .hs 0), (25, .vl (.sl recT)), (26, .int .i64), (27, .int .i64)], [.arr 5 recT []]⟩ (fun x => decide (x.1.1.1 = 0) && decide (x.1.1.2 = 0) && decide (x.1.2.2.2.1 = (0 : Int)) && decide (x.1.2.2.1 = (List.length x.1.2.1 : Int)) && decide (0 < List.length x.1.2.1) && decide (lenR x.1.2.1 (List.length x.1.2.1) ≤ 1000000000))
  fun x => [(true, .exit 2, k11St x.1.2.1 (List.length x.1.2.1))]
theorem k11_lok : LoopOK P0 H.f74 0 L.f74_11 k11LC :=
  loop_ok_of (env_ok env_nil) glob0 mixed0 noLoops V.f74_11 (by decide) fun ⟨⟨⟨o, q⟩, b, n, i, _⟩, ⟨⟨xs, _⟩, _⟩⟩ h hw => by
    simp only [Bool.and_eq_true, decide_eq_true_eq] at h
    obtain ⟨⟨⟨⟨⟨rfl, rfl⟩, rfl⟩, rfl⟩, h3⟩, h4⟩ := h
    exact k11_go b xs h3 h4 hw.1.2.1.1 _
theorem rconcat_ev (b : List (List Rec)) : evFn (env consK2) H.f74 (LPof [(3, k3LC), (11, k11LC)]) F.f74 [.vl (.sl recT) b] [] (finT [.sl recT]) = bif decide (b = b) && decide ((↑b.length : Int) = (↑b.length : Int)) && decide (lenR b b.length ≤ 1000000000) && true then bif decide ((0 : (Pat.int IntKind.i64).den) < (↑(lenR b b.length) : Int)) && decide ((↑(lenR b b.length) : Int) ≤ (1000000000 : (Pat.int IntKind.i64).den)) then bif decide ((↑b.length : Int) = (↑b.length : Int)) && decide (0 < b.length) && decide (lenR b b.length ≤ 1000000000) && true then some ((List.take b.length b).flatten, ()) else none else none else none := by kernel_rfl
theorem rconcat00_ev : evFn (env consK20) H.f74 (loopsF (env consK20) H.f74 0 B.f74 5) F.f74 [.vl (.sl recT) [[], []]] [] (finT [.sl recT]) = some ([[], []].getD 0 [] ++ [[], []].getD 1 [], ()) := by kernel_rfl
def rjoinB (b : List (List Rec)) : Bool := decide (b.length = 2) && decide (lenR b b.length ≤ 1000000000)
def caseRconcat : PCase := ⟨[.ty (.sl (.sl recT))], [.sl recT], fun x => [(rjoinB x.1, (List.flatten x.1, ()))]⟩
def caseRconcatA : PCase := ⟨[.ty (.sl (.sl recT))], [.sl recT], fun x => [(decide (0 < lenR x.1 (List.length x.1)) && decide (lenR x.1 (List.length x.1) ≤ 1000000000), (List.flatten x.1, ()))]⟩
def caseRconcat0 : PCase := ⟨[.ty (.sl (.sl recT))], [.sl recT], fun x => [(decide (x.1 = [[], []]), ([], ()))]⟩
theorem rconcatA_ok : caseRconcatA.ok P0 I.f74 := case_ok2 (H := H.f74) (E := env consK2) (env_ok consK2_ok) glob0 mixed0 G.f74 Bd.f74 (by kernel_rfl) (loops_good (tab := [(3, k3LC), (11, k11LC)]) (by kernel_rfl) (fun x hx => by simp at hx; rcases hx with rfl | rfl; exact k3_lok; exact k11_lok)) fun ⟨b, ()⟩ y h hw => by
  obtain ⟨hc, rfl⟩ := pick_pre h
  simp only [Bool.and_eq_true, decide_eq_true_eq] at hc
  have h0 : 0 < b.length := by
    rcases Nat.eq_zero_or_pos b.length with h | h
    · have : lenR b b.length = 0 := by rw [h]; rfl
      omega
    · exact h
  refine (rconcat_ev b).trans ?_
  have e1 : decide ((0 : (Pat.int IntKind.i64).den) < ((lenR b b.length : Nat) : Int)) = true := decide_eq_true (show (0 : Int) < ((lenR b b.length : Nat) : Int) by omega)
  have e2 : decide (((lenR b b.length : Nat) : Int) ≤ (1000000000 : (Pat.int IntKind.i64).den)) = true := decide_eq_true (show ((lenR b b.length : Nat) : Int) ≤ 1000000000 by omega)
  simp only [e1, e2, hc.2, h0, decide_true, Bool.and_self, cond_true, List.take_length]
  rfl
theorem rconcat0_ok : caseRconcat0.ok P0 I.f74 := case_ok2 (H := H.f74) (E := env consK20) (env_ok consK20_ok) glob0 mixed0 G.f74 Bd.f74 (by kernel_rfl) (loopsF_good (env_ok consK20_ok) glob0 mixed0 (by kernel_rfl) 5) fun ⟨b, ()⟩ y h hw => by
  obtain ⟨hc, rfl⟩ := pick_pre h
  have hc := of_decide_eq_true hc
  obtain rfl : b = [[], []] := hc
  exact rconcat00_ev
theorem rconcat_ok : caseRconcat.ok P0 I.f74 := fun ⟨b, ()⟩ y h hw => by
  obtain ⟨hc, rfl⟩ := pick_pre h
  have hc : rjoinB b = true := hc
  unfold rjoinB at hc
  simp only [Bool.and_eq_true, decide_eq_true_eq] at hc
  by_cases h0 : 0 < lenR b b.length
  · have hp : pick (caseRconcatA.f (b, ())) = some (List.flatten b, ()) := by show pick [(decide (0 < lenR b b.length) && decide (lenR b b.length ≤ 1000000000), _)] = _; rw [decide_eq_true h0, decide_eq_true hc.2]; rfl
    exact rconcatA_ok (b, ()) _ hp hw
  · match b, hc, h0 with
    | [x, y], _, h0 =>
      simp [lenR] at h0
      obtain ⟨rfl, rfl⟩ := h0
      have hp : pick (caseRconcat0.f ([[], []], ())) = some ([], ()) := rfl
      exact rconcat0_ok ([[], []], ()) _ hp hw
end Go.Sim
namespace Go.Sim
set_option linter.unusedSimpArgs false
set_option linter.unusedVariables false
set_option maxRecDepth 10000
noncomputable abbrev consE1 : List (FuncId × Con) := [(I.f43, .pure (pureOf [caseRecright])), (I.f35, .pure (pureOf [caseRight1])), (I.f71, .pure (pureOf [caseSize])), (I.f29, .pure (pureOf [caseRbytes]))]
theorem consE1_ok : ∀ x ∈ consE1, HoldsC P0 x.1 x.2 := by
  intro x hx
  simp at hx
  rcases hx with rfl | rfl | rfl | rfl
  · exact ⟨pureOf_holds (by simp; exact recright_ok), C.f43⟩
  · exact ⟨pureOf_holds (by simp; exact right1_ok), C.f35⟩
  · exact ⟨pureOf_holds (by simp; exact size_ok), C.f71⟩
  · exact ⟨pureOf_holds (by simp; exact rbytes_ok), C.f29⟩
theorem recs_rd {R : Type} (g : Seg) (f : Bool) (nx : Int) (rs : List Rec) (n i : Int) (K : Ex → St → Option R) : roundK (env consE1) H.f70 0 (LPof []) V.f70_3 L.f70_3 ⟨[(1, .ptr 0 (.tl 0) 0), (2, .bool f), (3, .int .i64 nx), (9, .vl recT rs), (10, .int .i64 n), (11, .int .i64 i)], [(0, .arr 10 .bool [] [enc segT g])], 1⟩ K = bif decide (i < n) then bif decide ((0 : Int) ≤ i) && decide (i < (↑rs.length : Int)) then Option.bind (bif !recR (rs.getD i.toNat recTy.zero) then some true else bif decide ((rs.getD i.toNat recTy.zero).1 < nx) then some true else some (decide ((rs.getD i.toNat recTy.zero).1 ≥ g.2.1))) fun v => bif v then K .ret { slots := [(1, .ptr 0 (.tl 0) 0), (2, .bool false), (3, .int .i64 nx), (9, .vl recTy rs), (10, .int .i64 n), (11, .int .i64 i)], objs := [(0, .arr 10 .bool [] [[.int .i64 g.1, .int .i64 g.2.1, .int .i64 g.2.2.1, .int .i64 g.2.2.2.1, .vl recTy g.2.2.2.2.1, .bool g.2.2.2.2.2.1, .bool g.2.2.2.2.2.2.1, .bool g.2.2.2.2.2.2.2.1, .int .i64 g.2.2.2.2.2.2.2.2.1, .int .u32 g.2.2.2.2.2.2.2.2.2]])], nx := 1 } else K .normal { slots := [(1, .ptr 0 (.tl 0) 0), (2, .bool f), (3, .int .i64 (IntKind.i64.wrap ((rs.getD i.toNat recTy.zero).1 + (1 : Int)))), (9, .vl recTy rs), (10, .int .i64 n), (11, .int .i64 (IntKind.i64.wrap (i + (1 : Int))))], objs := [(0, .arr 10 .bool [] [[.int .i64 g.1, .int .i64 g.2.1, .int .i64 g.2.2.1, .int .i64 g.2.2.2.1, .vl recTy g.2.2.2.2.1, .bool g.2.2.2.2.2.1, .bool g.2.2.2.2.2.2.1, .bool g.2.2.2.2.2.2.2.1, .int .i64 g.2.2.2.2.2.2.2.2.1, .int .u32 g.2.2.2.2.2.2.2.2.2]])], nx := 1 } else none else K (.exit 0) { slots := [(1, .ptr 0 (.tl 0) 0), (2, .bool f), (3, .int .i64 nx), (9, .vl recTy rs), (10, .int .i64 n), (11, .int .i64 i)], objs := [(0, .arr 10 .bool [] [[.int .i64 g.1, .int .i64 g.2.1, .int .i64 g.2.2.1, .int .i64 g.2.2.2.1, .vl recTy g.2.2.2.2.1, .bool g.2.2.2.2.2.1, .bool g.2.2.2.2.2.2.1, .bool g.2.2.2.2.2.2.2.1, .int .i64 g.2.2.2.2.2.2.2.2.1, .int .u32 g.2.2.2.2.2.2.2.2.2]])], nx := 1 } := by kernel_rfl
theorem time10_ev (n : Int) : evFn (env []) H.f28 (LPof []) F.f28 [.int .i64 n] [] (finT [.bool]) = Option.bind (bif decide (n ≥ (-1099511627776 : Int)) then some (decide (n ≤ (1099511627776 : Int))) else some false) fun v => some (v, ()) := by kernel_rfl
def caseTime10 : PCase := ⟨[.ty (.int .i64)], [.bool], fun x => (fun (n : Int) => [(true, ((decide (n ≥ -1099511627776) && decide (n ≤ 1099511627776)), ()))]) x.1⟩
theorem time10_val (n : Int) : evFn (env []) H.f28 (LPof []) F.f28 [.int .i64 n] [] (finT [.bool]) = some ((decide (n ≥ -1099511627776) && decide (n ≤ 1099511627776)), ()) := by
  rw [time10_ev]; simp only [and_bif, Option.bind_some]
theorem time10_ok : caseTime10.ok P0 I.f28 := case_ok2 (H := H.f28) (E := env []) (env_ok env_nil) glob0 mixed0 G.f28 Bd.f28 (by kernel_rfl) noLoops fun ⟨n, ()⟩ y h hw => by
  obtain ⟨hc, rfl⟩ := pick_pre h
  exact time10_val n
theorem rsame_rd {R : Type} (a b : List Rec) (f : Bool) (i : Int) (K : Ex → St → Option R) : roundK (env []) H.f36 0 (LPof []) V.f36_4 L.f36_4 ⟨[(0, .vl recT a), (1, .vl recT b), (4, .bool f), (5, .int .i64 i)], [], 0⟩ K = bif decide (i < (↑a.length : Int)) then bif decide ((0 : Int) ≤ i) && decide (i < (↑a.length : Int)) then bif decide ((0 : Int) ≤ i) && decide (i < (↑b.length : Int)) then bif !((a.getD i.toNat recTy.zero).1 == (b.getD i.toNat recTy.zero).1 && ((a.getD i.toNat recTy.zero).2.1 == (b.getD i.toNat recTy.zero).2.1 && ((a.getD i.toNat recTy.zero).2.2.1 == (b.getD i.toNat recTy.zero).2.2.1 && ((a.getD i.toNat recTy.zero).2.2.2.1 == (b.getD i.toNat recTy.zero).2.2.2.1 && ((a.getD i.toNat recTy.zero).2.2.2.2 == (b.getD i.toNat recTy.zero).2.2.2.2 && true))))) then K .ret { slots := [(0, .vl recTy a), (1, .vl recTy b), (4, .bool false), (5, .int .i64 i)], objs := [], nx := 0 } else K .normal { slots := [(0, .vl recTy a), (1, .vl recTy b), (4, .bool f), (5, .int .i64 (IntKind.i64.wrap (i + (1 : Int))))], objs := [], nx := 0 } else none else none else K (.exit 0) { slots := [(0, .vl recTy a), (1, .vl recTy b), (4, .bool f), (5, .int .i64 i)], objs := [], nx := 0 } := by kernel_rfl
theorem big8_rd {R : Type} (l : List Rec) (f : Bool) (i : Int) (K : Ex → St → Option R) : roundK (env []) H.f8 0 (LPof []) V.f8_2 L.f8_2 ⟨[(0, .vl recT l), (2, .bool f), (3, .int .i64 i)], [], 0⟩ K = bif decide (i < (↑l.length : Int)) then Option.bind (bif decide ((0 : Int) ≤ i) && decide (i < (↑l.length : Int)) then bif decide ((↑(List.length (l.getD i.toNat recTy.zero).2.2.1) : Int) > (250 : Int)) then some true else bif decide ((0 : Int) ≤ i) && decide (i < (↑l.length : Int)) then some (decide ((↑(List.length (l.getD i.toNat recTy.zero).2.2.2.1) : Int) > (300 : Int))) else none else none) fun v => bif v then K .ret { slots := [(0, .vl recTy l), (2, .bool true), (3, .int .i64 i)], objs := [], nx := 0 } else K .normal { slots := [(0, .vl recTy l), (2, .bool f), (3, .int .i64 (IntKind.i64.wrap (i + (1 : Int))))], objs := [], nx := 0 } else K (.exit 0) { slots := [(0, .vl recTy l), (2, .bool f), (3, .int .i64 i)], objs := [], nx := 0 } := by kernel_rfl
def sameSt (a b : List Rec) (f : Bool) (i : Nat) : St := ⟨[(0, .vl recT a), (1, .vl recT b), (4, .bool f), (5, .int .i64 i)], [], 0⟩
def difB (a b : List Rec) (i : Nat) : Bool := !(recEqB (a.getD i recTy.zero) (b.getD i recTy.zero))
abbrev sameLC : LoopC := LoopC.of ⟨[(0, .vl recT), (1, .vl recT), (4, .bool), (5, .int .i64)], []⟩ (fun x => decide (List.length x.1.2.1 = List.length x.1.1) && decide (x.1.2.2.2.1 = (0 : Int)))
    fun x => [((firstFrom (difB x.1.1 x.1.2.1) 0 (List.length x.1.1)).isSome, .ret, sameSt x.1.1 x.1.2.1 false ((firstFrom (difB x.1.1 x.1.2.1) 0 (List.length x.1.1)).getD 0)), (true, .exit 0, sameSt x.1.1 x.1.2.1 x.1.2.2.1 (List.length x.1.1))]
theorem same_lok : LoopOK P0 H.f36 0 L.f36_4 sameLC :=
  loop_ok_of (env_ok env_nil) glob0 mixed0 noLoops V.f36_4 (by decide) fun ⟨⟨a, b, f, i, _⟩, _⟩ h hw => by
    simp only [Bool.and_eq_true, decide_eq_true_eq] at h
    obtain ⟨h1, h2⟩ := h
    subst h2
    have hm : List.length a ≤ maxL := hw.1.1.1
    unfold maxL at hm
    refine ⟨_, Eq.trans (search_rounds (S := sameSt a b f) (T := sameSt a b false) (p := difB a b) (n := List.length a) (e1 := .ret) (e2 := .exit 0) (s2 := sameSt a b f (List.length a)) (by simp) (by simp) (fun i hi K => ?_) (fun K => ?_) _ (List.length a) 0 (by omega)) search_pick⟩
    · unfold sameSt
      rw [rsame_rd, cond_pos (by omega), cond_pos2 (by omega) (by omega), cond_pos2 (by omega) (by omega), Int.toNat_natCast, wrap64 (by omega) (by omega)]
      rfl
    · unfold sameSt
      rw [rsame_rd, cond_neg (by omega)]
theorem rsame_ev (a b : List Rec) : evFn (env []) H.f36 (LPof [(4, sameLC)]) F.f36 [.vl recT a, .vl recT b] [] (finT [.bool]) = bif (↑a.length : Int) != (↑b.length : Int) then some (false, ()) else bif decide (b.length = a.length) && true && (firstFrom (difB a b) 0 a.length).isSome then some (false, ()) else bif decide (b.length = a.length) && true && true then some (true, ()) else none := by kernel_rfl
def caseSameR : PCase := ⟨[.ty (.sl recT), .ty (.sl recT)], [.bool], fun x => (fun (a b : List Rec) => [(true, (decide (a = b), ()))]) x.1 x.2.1⟩
theorem rsame_val (a b : List Rec) : evFn (env []) H.f36 (LPof [(4, sameLC)]) F.f36 [.vl recT a, .vl recT b] [] (finT [.bool]) = some (decide (a = b), ()) := by
  rw [rsame_ev]
  by_cases h : b.length = a.length
  · have h1 : ((a.length : Int) != (b.length : Int)) = false := by simp; omega
    have := firstFrom_eq recEqB_eq recTy.zero h
    unfold difB
    rw [h1, this, decide_eq_true h]
    cases decide (a = b) <;> rfl
  · have h1 : ((a.length : Int) != (b.length : Int)) = true := by simp; omega
    have h2 : a ≠ b := fun e => h (by rw [e])
    rw [h1, decide_eq_false h2]; rfl
theorem rsame_ok : caseSameR.ok P0 I.f36 := case_ok2 (H := H.f36) (E := env []) (env_ok env_nil) glob0 mixed0 G.f36 Bd.f36 (by kernel_rfl) (loops_good (tab := [(4, sameLC)]) (by kernel_rfl) (fun x hx => by simp at hx; subst hx; exact same_lok)) fun ⟨a, b, ()⟩ y h hw => by
  obtain ⟨hc, rfl⟩ := pick_pre h
  exact rsame_val a b
def nextR (g : Seg) : Nat → Int
  | 0 => g.1
  | k + 1 => IntKind.i64.wrap ((g.2.2.2.2.1.getD k recTy.zero).1 + 1)
def badRc (g : Seg) (k : Nat) : Bool := !recR (g.2.2.2.2.1.getD k recTy.zero) || (decide ((g.2.2.2.2.1.getD k recTy.zero).1 < nextR g k) || decide ((g.2.2.2.2.1.getD k recTy.zero).1 ≥ g.2.1))
theorem ors_bif3 {a b c : Bool} : (bif a then some true else bif b then some true else some c) = some (a || (b || c)) := by cases a <;> cases b <;> rfl
def rcSt (g : Seg) (f : Bool) (k : Nat) : St := ⟨[(1, .ptr 0 (.tl 0) 0), (2, .bool f), (3, .int .i64 (nextR g k)), (9, .vl recT g.2.2.2.2.1), (10, .int .i64 (List.length g.2.2.2.2.1)), (11, .int .i64 k)], [(0, .arr 10 .bool [] [enc segT g])], 1⟩
abbrev segP : List Pat := [.int .i64, .int .i64, .int .i64, .int .i64, .vl recT, .bool, .bool, .bool, .int .i64, .int .u32]
abbrev rcLC : LoopC := LoopC.of ⟨[(1, .lit (.ptr 0 (.tl 0) 0)), (2, .bool), (3, .int .i64), (9, .vl recT), (10, .int .i64), (11, .int .i64)], [.box 10 [segP]]⟩
  (fun ⟨⟨_, f, nx, rs, n, i, _⟩, ⟨⟨⟨b, m, t, gn, l, s, c, r, z, u, _⟩, _⟩, _⟩⟩ => decide (i = (0 : Int)) && decide (nx = b) && decide (rs = l) && decide (n = (List.length l : Int)))
  fun ⟨⟨_, f, nx, rs, n, i, _⟩, ⟨⟨⟨b, m, t, gn, l, s, c, r, z, u, _⟩, _⟩, _⟩⟩ => [((firstFrom (badRc (b, m, t, gn, l, s, c, r, z, u)) 0 (List.length l)).isSome, .ret, rcSt (b, m, t, gn, l, s, c, r, z, u) false ((firstFrom (badRc (b, m, t, gn, l, s, c, r, z, u)) 0 (List.length l)).getD 0)),
    (true, .exit 0, rcSt (b, m, t, gn, l, s, c, r, z, u) f (List.length l))]
theorem rc_lok : LoopOK P0 H.f70 0 L.f70_3 rcLC :=
  loop_ok_of (env_ok consE1_ok) glob0 mixed0 noLoops V.f70_3 (by decide) fun ⟨⟨_, f, nx, rs, n, i, _⟩, ⟨⟨⟨b, m, t, gn, l, s, c, r, z, u, _⟩, _⟩, _⟩⟩ h hw => by
    simp only [Bool.and_eq_true, decide_eq_true_eq] at h
    obtain ⟨⟨⟨rfl, rfl⟩, rfl⟩, rfl⟩ := h
    have hm : List.length rs ≤ maxL := hw.1.2.2.2.1.1
    unfold maxL at hm
    refine ⟨_, Eq.trans (search_rounds (S := rcSt (nx, m, t, gn, rs, s, c, r, z, u) f) (T := rcSt (nx, m, t, gn, rs, s, c, r, z, u) false) (p := badRc (nx, m, t, gn, rs, s, c, r, z, u)) (n := List.length rs) (e1 := .ret) (e2 := .exit 0) (s2 := rcSt (nx, m, t, gn, rs, s, c, r, z, u) f (List.length rs)) (by simp) (by simp) (fun k hk K => ?_) (fun K => ?_) _ (List.length rs) 0 (by omega)) search_pick⟩
    · refine (recs_rd (nx, m, t, gn, rs, s, c, r, z, u) f (nextR (nx, m, t, gn, rs, s, c, r, z, u) k) rs (List.length rs : Int) k K).trans ?_
      have e3 : IntKind.i64.wrap ((k : Int) + 1) = ((k + 1 : Nat) : Int) := by rw [wrap64 (by omega) (by omega)]; omega
      rw [cond_pos (by omega), cond_pos2 (by omega) (by omega), Int.toNat_natCast, ors_bif3, Option.bind_some, e3]
      rfl
    · refine (recs_rd (nx, m, t, gn, rs, s, c, r, z, u) f (nextR (nx, m, t, gn, rs, s, c, r, z, u) (List.length rs)) rs (List.length rs : Int) (List.length rs) K).trans ?_
      rw [cond_neg (by omega)]
      rfl
theorem recs_ev (g : Seg) : evFn (env consE1) H.f70 (LPof [(3, rcLC)]) F.f70 [valOf segT g] [] (finT [.bool]) = bif decide (g.1 = g.1) && decide (g.2.2.2.2.1 = g.2.2.2.2.1) && decide ((↑(List.length g.2.2.2.2.1) : Int) = (↑(List.length g.2.2.2.2.1) : Int)) && (firstFrom (badRc g) 0 (List.length g.2.2.2.2.1)).isSome then some (false, ()) else bif decide (g.1 = g.1) && decide (g.2.2.2.2.1 = g.2.2.2.2.1) && decide ((↑(List.length g.2.2.2.2.1) : Int) = (↑(List.length g.2.2.2.2.1) : Int)) && true then some (true, ()) else none := by kernel_rfl
def chainB (g : Seg) : Bool := (firstFrom (badRc g) 0 (List.length g.2.2.2.2.1)).isNone
def caseRecs : PCase := ⟨[.ty segT], [.bool], fun x => (fun (g : Seg) => [(true, (chainB g, ()))]) x.1⟩
theorem recs_val (g : Seg) : evFn (env consE1) H.f70 (LPof [(3, rcLC)]) F.f70 [valOf segT g] [] (finT [.bool]) = some (chainB g, ()) := by
  rw [recs_ev]
  unfold chainB
  simp only [decide_true, Bool.true_and, Bool.and_true]
  cases firstFrom (badRc g) 0 (List.length g.2.2.2.2.1) <;> rfl
theorem recs_ok : caseRecs.ok P0 I.f70 := case_ok2 (H := H.f70) (E := env consE1) (env_ok consE1_ok) glob0 mixed0 G.f70 Bd.f70 (by kernel_rfl) (loops_good (tab := [(3, rcLC)]) (by kernel_rfl) (fun x hx => by simp at hx; subst hx; exact rc_lok)) fun ⟨g, ()⟩ y h hw => by
  obtain ⟨hc, rfl⟩ := pick_pre h
  exact recs_val g
noncomputable abbrev consE2 : List (FuncId × Con) := [(I.f70, .pure (pureOf [caseRecs]))] ++ consE1
theorem consE2_ok : ∀ x ∈ consE2, HoldsC P0 x.1 x.2 := by
  intro x hx
  rcases List.mem_append.1 hx with hx | hx
  · simp at hx
    subst hx
    exact ⟨pureOf_holds (by simp; exact recs_ok), C.f70⟩
  · exact consE1_ok x hx
theorem may_ev (g : Seg) (q : Bool) : evFn (env consE2) H.f68 (LPof []) F.f68 [valOf segT g, .bool q] [] (finT [.bool]) = Option.bind (bif decide (g.1 < (0 : Int)) then some true else bif decide (g.2.2.2.1 < (0 : Int)) then some true else bif decide (g.2.2.2.2.2.2.2.2.1 < (0 : Int)) then some true else bif decide (g.2.1 < g.1) then some true else bif decide (g.2.1 > (1125899906842624 : Int)) then some true else some !chainB g) fun v => bif v then bif v then some (false, ()) else ((Option.bind (bif decide (g.2.2.1 < (-1099511627776 : Int)) then some true else some (decide (g.2.2.1 > (1099511627776 : Int)))) fun v => some (v, ())).bind fun v => bif v.1 then some (v.1, ()) else Option.bind (bif q then bif g.2.2.1 != (0 : Int) then some true else bif g.2.2.2.2.2.2.1 then some true else some g.2.2.2.2.2.2.2.1 else some false) fun v => some (v, ())).bind fun v => bif v.1 then some (false, ()) else bif g.2.2.2.2.2.2.2.1 then some ((↑(List.length g.2.2.2.2.1) : Int) == (0 : Int), ()) else Option.bind (bif g.2.2.2.2.2.2.2.2.2 == (0 : Int) then bif decide (List.length g.2.2.2.2.1 ≤ 1000000000) then some (g.2.2.2.2.2.2.2.2.1 == (↑(bytS g.2.2.2.2.1).length : Int)) else none else some false) fun v => some (v, ()) else bif g.2.2.2.2.2.1 == q then bif g.2.2.2.2.2.1 == q then some (false, ()) else ((Option.bind (bif decide (g.2.2.1 < (-1099511627776 : Int)) then some true else some (decide (g.2.2.1 > (1099511627776 : Int)))) fun v => some (v, ())).bind fun v => bif v.1 then some (v.1, ()) else Option.bind (bif q then bif g.2.2.1 != (0 : Int) then some true else bif g.2.2.2.2.2.2.1 then some true else some g.2.2.2.2.2.2.2.1 else some false) fun v => some (v, ())).bind fun v => bif v.1 then some (false, ()) else bif g.2.2.2.2.2.2.2.1 then some ((↑(List.length g.2.2.2.2.1) : Int) == (0 : Int), ()) else Option.bind (bif g.2.2.2.2.2.2.2.2.2 == (0 : Int) then bif decide (List.length g.2.2.2.2.1 ≤ 1000000000) then some (g.2.2.2.2.2.2.2.2.1 == (↑(bytS g.2.2.2.2.1).length : Int)) else none else some false) fun v => some (v, ()) else Option.bind (bif g.2.2.2.2.2.1 then some (g.2.1 == g.1) else some false) fun v => bif v then some (false, ()) else ((Option.bind (bif decide (g.2.2.1 < (-1099511627776 : Int)) then some true else some (decide (g.2.2.1 > (1099511627776 : Int)))) fun v => some (v, ())).bind fun v => bif v.1 then some (v.1, ()) else Option.bind (bif q then bif g.2.2.1 != (0 : Int) then some true else bif g.2.2.2.2.2.2.1 then some true else some g.2.2.2.2.2.2.2.1 else some false) fun v => some (v, ())).bind fun v => bif v.1 then some (false, ()) else bif g.2.2.2.2.2.2.2.1 then some ((↑(List.length g.2.2.2.2.1) : Int) == (0 : Int), ()) else Option.bind (bif g.2.2.2.2.2.2.2.2.2 == (0 : Int) then bif decide (List.length g.2.2.2.2.1 ≤ 1000000000) then some (g.2.2.2.2.2.2.2.2.1 == (↑(bytS g.2.2.2.2.1).length : Int)) else none else some false) fun v => some (v, ()) := by kernel_rfl
def mayB (g : Seg) (q : Bool) : Bool := !(decide (g.1 < 0) || (decide (g.2.2.2.1 < 0) || (decide (g.2.2.2.2.2.2.2.2.1 < 0) || (decide (g.2.1 < g.1) || (decide (g.2.1 > 1125899906842624) || !chainB g))))) &&
  (!(g.2.2.2.2.2.1 == q) && (!(g.2.2.2.2.2.1 && g.2.1 == g.1) && (!(decide (g.2.2.1 < -1099511627776) || decide (g.2.2.1 > 1099511627776)) && (!(q && (g.2.2.1 != 0 || (g.2.2.2.2.2.2.1 || g.2.2.2.2.2.2.2.1))) &&
  (bif g.2.2.2.2.2.2.2.1 then ((List.length g.2.2.2.2.1 : Int) == 0) else g.2.2.2.2.2.2.2.2.2 == 0 && g.2.2.2.2.2.2.2.2.1 == ((bytS g.2.2.2.2.1).length : Int))))))
theorem bool_may (A S T U W Rm Lz Z q : Bool) : (bif A then bif A then some (false, ()) else (bif U then some (U, ()) else some (W, ())).bind (fun v => bif v.1 then some (false, ()) else bif Rm then some (Lz, ()) else some (Z, ())) else bif S then bif S then some (false, ()) else (bif U then some (U, ()) else some (W, ())).bind (fun v => bif v.1 then some (false, ()) else bif Rm then some (Lz, ()) else some (Z, ())) else
    bif T then some (false, ()) else (bif U then some (U, ()) else some (W, ())).bind (fun v => bif v.1 then some (false, ()) else bif Rm then some (Lz, ()) else some (Z, ()))) = some (!A && (!S && (!T && (!U && (!W && (bif Rm then Lz else Z))))), ()) := by
  cases A <;> cases S <;> cases T <;> cases U <;> cases W <;> cases Rm <;> rfl
def caseMay : PCase := ⟨[.ty segT, .ty .bool], [.bool], fun x => (fun (g : Seg) (q : Bool) => [(decide (List.length g.2.2.2.2.1 ≤ 1000000000), (mayB g q, ()))]) x.1 x.2.1⟩
theorem may_val (g : Seg) (q : Bool) (hc : (decide (List.length g.2.2.2.2.1 ≤ 1000000000)) = true) : evFn (env consE2) H.f68 (LPof []) F.f68 [valOf segT g, .bool q] [] (finT [.bool]) = some (mayB g q, ()) := by
  rw [may_ev, hc]
  simp only [or_bif, and_bif, Option.bind_some, cond_true]
  exact bool_may _ _ _ _ _ _ _ _ q
theorem may_ok : caseMay.ok P0 I.f68 := case_ok2 (H := H.f68) (E := env consE2) (env_ok consE2_ok) glob0 mixed0 G.f68 Bd.f68 (by kernel_rfl) noLoops fun ⟨g, q, ()⟩ y h hw => by
  obtain ⟨hc, rfl⟩ := pick_pre h
  exact may_val g q hc
noncomputable abbrev consE3 : List (FuncId × Con) := [(I.f68, .pure (pureOf [caseMay])), (I.f65, .pure (pureOf [caseAllv]))] ++ consE2
theorem consE3_ok : ∀ x ∈ consE3, HoldsC P0 x.1 x.2 := by
  intro x hx
  rcases List.mem_append.1 hx with hx | hx
  · simp at hx
    rcases hx with rfl | rfl
    · exact ⟨pureOf_holds (by simp; exact may_ok), C.f68⟩
    · exact ⟨pureOf_holds (by simp; exact allv_ok), C.f65⟩
  · exact consE2_ok x hx
theorem of_rd {R : Type} (l : List Seg) (p : Bool) (n m i : Int) (K : Ex → St → Option R) : roundK (env consE3) H.f64 0 (LPof []) V.f64_5 L.f64_5 ⟨[(0, .vl segT l), (2, .nilp), (3, .bool p), (4, .int .i64 n), (11, .vl segT l), (12, .int .i64 m), (13, .int .i64 i)], [], 0⟩ K = bif decide (i < m) then bif decide ((0 : Int) ≤ i) && decide (i < (↑l.length : Int)) then Option.bind (bif decide ((l.getD i.toNat segTy.zero).2.2.2.2.1.length ≤ 1000000000) then bif !mayB (l.getD i.toNat segTy.zero) (IntKind.i64.wrap (i + (1 : Int)) == n) then some true else bif decide (i > (0 : Int)) then bif decide ((0 : Int) ≤ IntKind.i64.wrap (i - (1 : Int))) && decide (IntKind.i64.wrap (i - (1 : Int)) < (↑l.length : Int)) then bif (l.getD i.toNat segTy.zero).1 != (l.getD (IntKind.i64.wrap (i - (1 : Int))).toNat segTy.zero).2.1 then some true else bif (l.getD i.toNat segTy.zero).2.2.2.2.2.2.2.1 then bif decide ((0 : Int) ≤ IntKind.i64.wrap (i - (1 : Int))) && decide (IntKind.i64.wrap (i - (1 : Int)) < (↑l.length : Int)) then some !(l.getD (IntKind.i64.wrap (i - (1 : Int))).toNat segTy.zero).2.2.2.2.2.2.2.1 else none else some false else none else some false else none) fun v => bif v then K .ret { slots := [(0, .vl segTy l), (2, .nilp), (3, .bool false), (4, .int .i64 n), (11, .vl segTy l), (12, .int .i64 m), (13, .int .i64 i)], objs := [], nx := 0 } else K .normal { slots := [(0, .vl segTy l), (2, .nilp), (3, .bool p), (4, .int .i64 n), (11, .vl segTy l), (12, .int .i64 m), (13, .int .i64 (IntKind.i64.wrap (i + (1 : Int))))], objs := [], nx := 0 } else none else K (.exit 0) { slots := [(0, .vl segTy l), (2, .nilp), (3, .bool p), (4, .int .i64 n), (11, .vl segTy l), (12, .int .i64 m), (13, .int .i64 i)], objs := [], nx := 0 } := by kernel_rfl
theorem rlin_rd {R : Type} (l : List Seg) (f : Bool) (n : Int) (lo : Bool) (i : Int) (g : Seg) (k : Int) (K : Ex → St → Option R) : roundK (env consE1) H.f23 0 (LPof []) V.f23_15 L.f23_15 ⟨[(0, .vl segT l), (2, .bool f), (3, .int .i64 n), (4, .bool lo), (5, .int .i64 i), (6, .ptr 0 (.tl 0) 0), (7, .int .i64 k)], [(0, .arr 10 .bool [] [enc segT g])], 1⟩ K = bif decide (k < (↑(List.length g.2.2.2.2.1) : Int)) then bif decide ((0 : Int) ≤ k) && decide (k < (↑(List.length g.2.2.2.2.1) : Int)) then Option.bind (bif !recR (List.getD g.2.2.2.2.1 k.toNat recTy.zero) then some true else bif decide ((List.getD g.2.2.2.2.1 k.toNat recTy.zero).1 < g.1) then some true else bif decide ((List.getD g.2.2.2.2.1 k.toNat recTy.zero).1 ≥ g.2.1) then some true else bif decide (k > (0 : Int)) then bif decide ((0 : Int) ≤ IntKind.i64.wrap (k - (1 : Int))) && decide (IntKind.i64.wrap (k - (1 : Int)) < (↑(List.length g.2.2.2.2.1) : Int)) then some (decide ((List.getD g.2.2.2.2.1 k.toNat recTy.zero).1 ≤ (List.getD g.2.2.2.2.1 (IntKind.i64.wrap (k - (1 : Int))).toNat recTy.zero).1)) else none else some false) fun v => bif v then K .ret { slots := [(0, .vl segTy l), (2, .bool false), (3, .int .i64 n), (4, .bool lo), (5, .int .i64 i), (6, .ptr 0 (.tl 0) 0), (7, .int .i64 k)], objs := [(0, .arr 10 .bool [] [[.int .i64 g.1, .int .i64 g.2.1, .int .i64 g.2.2.1, .int .i64 g.2.2.2.1, .vl recTy g.2.2.2.2.1, .bool g.2.2.2.2.2.1, .bool g.2.2.2.2.2.2.1, .bool g.2.2.2.2.2.2.2.1, .int .i64 g.2.2.2.2.2.2.2.2.1, .int .u32 g.2.2.2.2.2.2.2.2.2]])], nx := 1 } else K .normal { slots := [(0, .vl segTy l), (2, .bool f), (3, .int .i64 n), (4, .bool lo), (5, .int .i64 i), (6, .ptr 0 (.tl 0) 0), (7, .int .i64 (IntKind.i64.wrap (k + (1 : Int))))], objs := [(0, .arr 10 .bool [] [[.int .i64 g.1, .int .i64 g.2.1, .int .i64 g.2.2.1, .int .i64 g.2.2.2.1, .vl recTy g.2.2.2.2.1, .bool g.2.2.2.2.2.1, .bool g.2.2.2.2.2.2.1, .bool g.2.2.2.2.2.2.2.1, .int .i64 g.2.2.2.2.2.2.2.2.1, .int .u32 g.2.2.2.2.2.2.2.2.2]])], nx := 1 } else none else K (.exit 2) { slots := [(0, .vl segTy l), (2, .bool f), (3, .int .i64 n), (4, .bool lo), (5, .int .i64 i), (6, .ptr 0 (.tl 0) 0), (7, .int .i64 k)], objs := [(0, .arr 10 .bool [] [[.int .i64 g.1, .int .i64 g.2.1, .int .i64 g.2.2.1, .int .i64 g.2.2.2.1, .vl recTy g.2.2.2.2.1, .bool g.2.2.2.2.2.1, .bool g.2.2.2.2.2.2.1, .bool g.2.2.2.2.2.2.2.1, .int .i64 g.2.2.2.2.2.2.2.2.1, .int .u32 g.2.2.2.2.2.2.2.2.2]])], nx := 1 } := by kernel_rfl
end Go.Sim
namespace Go.Sim
set_option linter.unusedSimpArgs false
set_option linter.unusedVariables false
set_option maxRecDepth 10000
instance segDec0 : DecidableEq (Bool × Bool × Bool × Int × Int) := inferInstance
instance segDec1 : DecidableEq (List Rec × Bool × Bool × Bool × Int × Int) := @instDecidableEqProd _ _ recsDec segDec0
instance segDec2 : DecidableEq (Int × Int × List Rec × Bool × Bool × Bool × Int × Int) := @instDecidableEqProd _ _ _ (@instDecidableEqProd _ _ _ segDec1)
instance segDec : DecidableEq Seg := @instDecidableEqProd _ _ _ (@instDecidableEqProd _ _ _ segDec2)
instance segsDec : DecidableEq (List Seg) := @instDecidableEqList Seg segDec
noncomputable abbrev consF0 : List (FuncId × Con) := [(I.f36, .pure (pureOf [caseSameR]))]
theorem consF0_ok : ∀ x ∈ consF0, HoldsC P0 x.1 x.2 := by
  intro x hx
  simp at hx
  subst hx
  exact ⟨pureOf_holds (by simp; exact rsame_ok), C.f36⟩
theorem ssame_rd {R : Type} (a b : List Seg) (f : Bool) (i : Int) (K : Ex → St → Option R) : roundK (env consF0) H.f24 0 (LPof []) V.f24_4 L.f24_4 ⟨[(0, .vl segT a), (1, .vl segT b), (4, .bool f), (5, .int .i64 i)], [], 0⟩ K = bif decide (i < (↑a.length : Int)) then bif decide ((0 : Int) ≤ i) && decide (i < (↑a.length : Int)) then bif decide ((0 : Int) ≤ i) && decide (i < (↑b.length : Int)) then Option.bind (bif (a.getD i.toNat segTy.zero).1 != (b.getD i.toNat segTy.zero).1 then some true else bif (a.getD i.toNat segTy.zero).2.1 != (b.getD i.toNat segTy.zero).2.1 then some true else bif (a.getD i.toNat segTy.zero).2.2.1 != (b.getD i.toNat segTy.zero).2.2.1 then some true else bif (a.getD i.toNat segTy.zero).2.2.2.1 != (b.getD i.toNat segTy.zero).2.2.2.1 then some true else bif !decide ((a.getD i.toNat segTy.zero).2.2.2.2.1 = (b.getD i.toNat segTy.zero).2.2.2.2.1) then some true else bif !(a.getD i.toNat segTy.zero).2.2.2.2.2.1 == (b.getD i.toNat segTy.zero).2.2.2.2.2.1 then some true else bif !(a.getD i.toNat segTy.zero).2.2.2.2.2.2.1 == (b.getD i.toNat segTy.zero).2.2.2.2.2.2.1 then some true else bif !(a.getD i.toNat segTy.zero).2.2.2.2.2.2.2.1 == (b.getD i.toNat segTy.zero).2.2.2.2.2.2.2.1 then some true else bif (a.getD i.toNat segTy.zero).2.2.2.2.2.2.2.2.1 != (b.getD i.toNat segTy.zero).2.2.2.2.2.2.2.2.1 then some true else some ((a.getD i.toNat segTy.zero).2.2.2.2.2.2.2.2.2 != (b.getD i.toNat segTy.zero).2.2.2.2.2.2.2.2.2)) fun v => bif v then K .ret { slots := [(0, .vl segTy a), (1, .vl segTy b), (4, .bool false), (5, .int .i64 i)], objs := [], nx := 0 } else K .normal { slots := [(0, .vl segTy a), (1, .vl segTy b), (4, .bool f), (5, .int .i64 (IntKind.i64.wrap (i + (1 : Int))))], objs := [], nx := 0 } else none else none else K (.exit 0) { slots := [(0, .vl segTy a), (1, .vl segTy b), (4, .bool f), (5, .int .i64 i)], objs := [], nx := 0 } := by kernel_rfl
def badO (l : List Seg) (i : Nat) : Bool := !mayB (l.getD i segTy.zero) (((i + 1 : Nat) : Int) == (List.length l : Int)) || (decide (i > 0) && ((l.getD i segTy.zero).1 != (l.getD (i - 1) segTy.zero).2.1 || ((l.getD i segTy.zero).2.2.2.2.2.2.2.1 && !(l.getD (i - 1) segTy.zero).2.2.2.2.2.2.2.1)))
def ofSt (l : List Seg) (p : Bool) (i : Nat) : St := ⟨[(0, .vl segT l), (2, .nilp), (3, .bool p), (4, .int .i64 l.length), (11, .vl segT l), (12, .int .i64 l.length), (13, .int .i64 i)], [], 0⟩
abbrev ofLC : LoopC := LoopC.of ⟨[(0, .vl segT), (2, .lit .nilp), (3, .bool), (4, .int .i64), (11, .vl segT), (12, .int .i64), (13, .int .i64)], []⟩
  (fun ⟨⟨l, _, p, n, l2, m, i, _⟩, _⟩ => decide (i = (0 : Int)) && decide (l2 = l) && decide (n = (List.length l : Int)) && decide (m = (List.length l : Int)) && smallL l)
  fun ⟨⟨l, _, p, n, l2, m, i, _⟩, _⟩ => [((firstFrom (badO l) 0 (List.length l)).isSome, .ret, ofSt l false ((firstFrom (badO l) 0 (List.length l)).getD 0)), (true, .exit 0, ofSt l p (List.length l))]
theorem of_lok : LoopOK P0 H.f64 0 L.f64_5 ofLC :=
  loop_ok_of (env_ok consE3_ok) glob0 mixed0 noLoops V.f64_5 (by decide) fun ⟨⟨l, _, p, n, l2, m, i, _⟩, _⟩ h hw => by
    simp only [Bool.and_eq_true, decide_eq_true_eq, smallL] at h
    obtain ⟨⟨⟨⟨rfl, rfl⟩, rfl⟩, rfl⟩, h5, h6⟩ := h
    have h5 : List.length l2 ≤ 1000000000 := h5
    refine ⟨_, Eq.trans (search_rounds (S := ofSt l2 p) (T := ofSt l2 false) (p := badO l2) (n := List.length l2) (e1 := .ret) (e2 := .exit 0) (s2 := ofSt l2 p (List.length l2)) (by simp) (by simp) (fun k hk K => ?_) (fun K => ?_) _ (List.length l2) 0 (by omega)) search_pick⟩
    · refine (of_rd l2 p (List.length l2 : Int) (List.length l2 : Int) k K).trans ?_
      have e3 : IntKind.i64.wrap ((k : Int) + 1) = ((k + 1 : Nat) : Int) := by rw [wrap64 (by omega) (by omega)]; omega
      have hs := small_at h6 hk
      rw [cond_pos (by omega), cond_pos2 (by omega) (by omega), Int.toNat_natCast, e3, cond_pos hs]
      have e : (bif !mayB (l2.getD k segTy.zero) (((k + 1 : Nat) : Int) == (List.length l2 : Int)) then some true else bif decide ((k : Int) > 0) then bif decide ((0 : Int) ≤ IntKind.i64.wrap ((k : Int) - 1)) && decide (IntKind.i64.wrap ((k : Int) - 1) < (List.length l2 : Int)) then
          bif (l2.getD k segTy.zero).1 != (l2.getD (IntKind.i64.wrap ((k : Int) - 1)).toNat segTy.zero).2.1 then some true else bif (l2.getD k segTy.zero).2.2.2.2.2.2.2.1 then bif decide ((0 : Int) ≤ IntKind.i64.wrap ((k : Int) - 1)) && decide (IntKind.i64.wrap ((k : Int) - 1) < (List.length l2 : Int)) then
          some !(l2.getD (IntKind.i64.wrap ((k : Int) - 1)).toNat segTy.zero).2.2.2.2.2.2.2.1 else none else some false else none else some false) = some (badO l2 k) := by
        unfold badO
        by_cases h0 : k > 0
        · have w : IntKind.i64.wrap ((k : Int) - 1) = ((k - 1 : Nat) : Int) := by rw [wrap64 (by omega) (by omega)]; omega
          rw [w, Int.toNat_natCast, cond_pos (show (k : Int) > 0 by omega), cond_pos2 (by omega) (by omega), cond_pos2 (by omega) (by omega), and_bif, or_bif, or_bif, decide_eq_true h0, Bool.true_and]
        · rw [cond_neg (show ¬ (k : Int) > 0 by omega), or_bif, decide_eq_false h0, Bool.false_and]
      rw [e, Option.bind_some]
      rfl
    · refine (of_rd l2 p (List.length l2 : Int) (List.length l2 : Int) (List.length l2 : Nat) K).trans ?_
      rw [cond_neg (by omega)]
      rfl
def badRr (g : Seg) (k : Nat) : Bool := !recR (g.2.2.2.2.1.getD k recTy.zero) || (decide ((g.2.2.2.2.1.getD k recTy.zero).1 < g.1) || (decide ((g.2.2.2.2.1.getD k recTy.zero).1 ≥ g.2.1) || (decide (k > 0) && decide ((g.2.2.2.2.1.getD k recTy.zero).1 ≤ (g.2.2.2.2.1.getD (k - 1) recTy.zero).1))))
def rlSt (l : List Seg) (f : Bool) (n : Int) (lo : Bool) (i : Int) (g : Seg) (k : Nat) : St := ⟨[(0, .vl segT l), (2, .bool f), (3, .int .i64 n), (4, .bool lo), (5, .int .i64 i), (6, .ptr 0 (.tl 0) 0), (7, .int .i64 k)], [(0, .arr 10 .bool [] [enc segT g])], 1⟩
abbrev rlLC : LoopC := LoopC.of ⟨[(0, .vl segT), (2, .bool), (3, .int .i64), (4, .bool), (5, .int .i64), (6, .lit (.ptr 0 (.tl 0) 0)), (7, .int .i64)], [.box 10 [segP]]⟩
  (fun ⟨⟨l, f, n, lo, i, _, k, _⟩, ⟨⟨⟨b, m, t, gn, rs, s, c, r, z, u, _⟩, _⟩, _⟩⟩ => decide (k = (0 : Int)))
  fun ⟨⟨l, f, n, lo, i, _, k, _⟩, ⟨⟨⟨b, m, t, gn, rs, s, c, r, z, u, _⟩, _⟩, _⟩⟩ => [((firstFrom (badRr (b, m, t, gn, rs, s, c, r, z, u)) 0 (List.length rs)).isSome, .ret, rlSt l false n lo i (b, m, t, gn, rs, s, c, r, z, u) ((firstFrom (badRr (b, m, t, gn, rs, s, c, r, z, u)) 0 (List.length rs)).getD 0)),
    (true, .exit 2, rlSt l f n lo i (b, m, t, gn, rs, s, c, r, z, u) (List.length rs))]
theorem rl_lok : LoopOK P0 H.f23 0 L.f23_15 rlLC :=
  loop_ok_of (env_ok consE1_ok) glob0 mixed0 noLoops V.f23_15 (by decide) fun ⟨⟨l, f, n, lo, i, _, k, _⟩, ⟨⟨⟨b, m, t, gn, rs, s, c, r, z, u, _⟩, _⟩, _⟩⟩ h hw => by
    obtain rfl := of_decide_eq_true h
    have hm : List.length rs ≤ maxL := hw.2.1.1.2.2.2.2.1.1
    unfold maxL at hm
    refine ⟨_, Eq.trans (search_rounds (S := rlSt l f n lo i (b, m, t, gn, rs, s, c, r, z, u)) (T := rlSt l false n lo i (b, m, t, gn, rs, s, c, r, z, u)) (p := badRr (b, m, t, gn, rs, s, c, r, z, u)) (n := List.length rs) (e1 := .ret) (e2 := .exit 2) (s2 := rlSt l f n lo i (b, m, t, gn, rs, s, c, r, z, u) (List.length rs)) (by simp) (by simp) (fun k hk K => ?_) (fun K => ?_) _ (List.length rs) 0 (by omega)) search_pick⟩
    · refine (rlin_rd l f n lo i (b, m, t, gn, rs, s, c, r, z, u) k K).trans ?_
      have e3 : IntKind.i64.wrap ((k : Int) + 1) = ((k + 1 : Nat) : Int) := by rw [wrap64 (by omega) (by omega)]; omega
      simp only
      rw [cond_pos (by omega), cond_pos2 (by omega) (by omega), Int.toNat_natCast, e3]
      have e : (bif !recR (List.getD rs k recTy.zero) then some true else bif decide ((List.getD rs k recTy.zero).1 < b) then some true else bif decide ((List.getD rs k recTy.zero).1 ≥ m) then some true else bif decide ((k : Int) > 0) then bif decide ((0 : Int) ≤ IntKind.i64.wrap ((k : Int) - 1)) && decide (IntKind.i64.wrap ((k : Int) - 1) < (List.length rs : Int)) then
          some (decide ((List.getD rs k recTy.zero).1 ≤ (List.getD rs (IntKind.i64.wrap ((k : Int) - 1)).toNat recTy.zero).1)) else none else some false) = some (badRr (b, m, t, gn, rs, s, c, r, z, u) k) := by
        unfold badRr
        by_cases h0 : k > 0
        · have w : IntKind.i64.wrap ((k : Int) - 1) = ((k - 1 : Nat) : Int) := by rw [wrap64 (by omega) (by omega)]; omega
          rw [w, Int.toNat_natCast, cond_pos (show (k : Int) > 0 by omega), cond_pos2 (by omega) (by omega), or_bif, or_bif, or_bif, decide_eq_true h0, Bool.true_and]
        · rw [cond_neg (show ¬ (k : Int) > 0 by omega), or_bif, or_bif, or_bif, decide_eq_false h0, Bool.false_and]
      refine (congrArg (fun o => Option.bind o _) e).trans ?_
      rfl
    · refine (rlin_rd l f n lo i (b, m, t, gn, rs, s, c, r, z, u) (List.length rs : Nat) K).trans ?_
      simp only
      rw [cond_neg (by omega)]
      rfl
noncomputable abbrev consE4 : List (FuncId × Con) := [(I.f28, .pure (pureOf [caseTime10]))] ++ consE1
theorem consE4_ok : ∀ x ∈ consE4, HoldsC P0 x.1 x.2 := by
  intro x hx
  rcases List.mem_append.1 hx with hx | hx
  · simp at hx
    subst hx
    exact ⟨pureOf_holds (by simp; exact time10_ok), C.f28⟩
  · exact consE1_ok x hx
theorem rlout_rd {R : Type} (l : List Seg) (f : Bool) (n : Int) (lo : Bool) (i : Int) (K : Ex → St → Option R) : roundK (env consE4) H.f23 0 (LPof [(15, rlLC)]) V.f23_4 L.f23_4 ⟨[(0, .vl segT l), (2, .bool f), (3, .int .i64 n), (4, .bool lo), (5, .int .i64 i)], [], 0⟩ K = bif decide (i < n) then bif decide ((0 : Int) ≤ i) && decide (i < (↑l.length : Int)) then Option.bind (bif decide ((l.getD i.toNat segTy.zero).1 < (0 : Int)) then some true else bif decide ((l.getD i.toNat segTy.zero).1 > (l.getD i.toNat segTy.zero).2.1) then some true else bif decide ((l.getD i.toNat segTy.zero).2.1 > (1125899906842624 : Int)) then some true else bif decide (i > (0 : Int)) then bif decide ((0 : Int) ≤ IntKind.i64.wrap (i - (1 : Int))) && decide (IntKind.i64.wrap (i - (1 : Int)) < (↑l.length : Int)) then bif (l.getD i.toNat segTy.zero).1 != (l.getD (IntKind.i64.wrap (i - (1 : Int))).toNat segTy.zero).2.1 then some true else bif decide ((l.getD i.toNat segTy.zero).2.2.2.1 < (0 : Int)) then some true else bif decide ((l.getD i.toNat segTy.zero).2.2.2.2.2.2.2.2.1 < (0 : Int)) then some true else some !(decide ((l.getD i.toNat segTy.zero).2.2.1 ≥ (-1099511627776 : Int)) && decide ((l.getD i.toNat segTy.zero).2.2.1 ≤ (1099511627776 : Int))) else none else bif decide ((l.getD i.toNat segTy.zero).2.2.2.1 < (0 : Int)) then some true else bif decide ((l.getD i.toNat segTy.zero).2.2.2.2.2.2.2.2.1 < (0 : Int)) then some true else some !(decide ((l.getD i.toNat segTy.zero).2.2.1 ≥ (-1099511627776 : Int)) && decide ((l.getD i.toNat segTy.zero).2.2.1 ≤ (1099511627776 : Int)))) fun v => bif v then K .ret { slots := [(0, .vl segTy l), (2, .bool false), (3, .int .i64 n), (4, .bool lo), (5, .int .i64 i)], objs := [], nx := 0 } else Option.bind (bif !(l.getD i.toNat segTy.zero).2.2.2.2.2.1 == decide (IntKind.i64.wrap (i + (1 : Int)) < n) then some true else bif (l.getD i.toNat segTy.zero).2.2.2.2.2.1 then bif (l.getD i.toNat segTy.zero).1 == (l.getD i.toNat segTy.zero).2.1 then some true else bif !(l.getD i.toNat segTy.zero).2.2.2.2.2.1 then bif (l.getD i.toNat segTy.zero).2.2.2.2.2.2.1 then some true else bif (l.getD i.toNat segTy.zero).2.2.2.2.2.2.2.1 then some true else some ((l.getD i.toNat segTy.zero).2.2.1 != (0 : Int)) else some false else bif !(l.getD i.toNat segTy.zero).2.2.2.2.2.1 then bif (l.getD i.toNat segTy.zero).2.2.2.2.2.2.1 then some true else bif (l.getD i.toNat segTy.zero).2.2.2.2.2.2.2.1 then some true else some ((l.getD i.toNat segTy.zero).2.2.1 != (0 : Int)) else some false) fun v => bif v then K .ret { slots := [(0, .vl segTy l), (2, .bool false), (3, .int .i64 n), (4, .bool lo), (5, .int .i64 i)], objs := [], nx := 0 } else Option.bind (bif (l.getD i.toNat segTy.zero).2.2.2.2.2.2.2.1 then bif lo then some true else bif decide ((↑(List.length (l.getD i.toNat segTy.zero).2.2.2.2.1) : Int) > (0 : Int)) then some true else bif !(l.getD i.toNat segTy.zero).2.2.2.2.2.2.2.1 then bif (l.getD i.toNat segTy.zero).2.2.2.2.2.2.2.2.2 != (0 : Int) then some true else bif decide (List.length (l.getD i.toNat segTy.zero).2.2.2.2.1 ≤ 1000000000) then some ((l.getD i.toNat segTy.zero).2.2.2.2.2.2.2.2.1 != (↑(bytS (l.getD i.toNat segTy.zero).2.2.2.2.1).length : Int)) else none else some false else bif !(l.getD i.toNat segTy.zero).2.2.2.2.2.2.2.1 then bif (l.getD i.toNat segTy.zero).2.2.2.2.2.2.2.2.2 != (0 : Int) then some true else bif decide (List.length (l.getD i.toNat segTy.zero).2.2.2.2.1 ≤ 1000000000) then some ((l.getD i.toNat segTy.zero).2.2.2.2.2.2.2.2.1 != (↑(bytS (l.getD i.toNat segTy.zero).2.2.2.2.1).length : Int)) else none else some false) fun v => bif v then K .ret { slots := [(0, .vl segTy l), (2, .bool false), (3, .int .i64 n), (4, .bool lo), (5, .int .i64 i)], objs := [], nx := 0 } else Option.bind (bif lo then some true else some !(l.getD i.toNat segTy.zero).2.2.2.2.2.2.2.1) fun v => bif (firstFrom (badRr (l.getD i.toNat segTy.zero)) 0 (List.length (l.getD i.toNat segTy.zero).2.2.2.2.1)).isSome then K .ret { slots := [(0, .vl segTy l), (2, .bool false), (3, .int .i64 n), (4, .bool v), (5, .int .i64 i)], objs := [], nx := 0 } else K .normal { slots := [(0, .vl segTy l), (2, .bool f), (3, .int .i64 n), (4, .bool v), (5, .int .i64 (IntKind.i64.wrap (i + (1 : Int))))], objs := [], nx := 0 } else none else K (.exit 0) { slots := [(0, .vl segTy l), (2, .bool f), (3, .int .i64 n), (4, .bool lo), (5, .int .i64 i)], objs := [], nx := 0 } := by kernel_rfl
def locI (l : List Seg) : Nat → Bool
  | 0 => false
  | i + 1 => locI l i || !(l.getD i segTy.zero).2.2.2.2.2.2.2.1
def cA (l : List Seg) (i : Nat) : Bool := decide ((l.getD i segTy.zero).1 < 0) || (decide ((l.getD i segTy.zero).1 > (l.getD i segTy.zero).2.1) || (decide ((l.getD i segTy.zero).2.1 > 1125899906842624) || ((decide (i > 0) && (l.getD i segTy.zero).1 != (l.getD (i - 1) segTy.zero).2.1) ||
  (decide ((l.getD i segTy.zero).2.2.2.1 < 0) || (decide ((l.getD i segTy.zero).2.2.2.2.2.2.2.2.1 < 0) || !(decide ((l.getD i segTy.zero).2.2.1 ≥ -1099511627776) && decide ((l.getD i segTy.zero).2.2.1 ≤ 1099511627776)))))))
def cB (l : List Seg) (i : Nat) : Bool := (!(l.getD i segTy.zero).2.2.2.2.2.1 == decide (((i + 1 : Nat) : Int) < (List.length l : Int))) || (((l.getD i segTy.zero).2.2.2.2.2.1 && (l.getD i segTy.zero).1 == (l.getD i segTy.zero).2.1) || (!(l.getD i segTy.zero).2.2.2.2.2.1 && ((l.getD i segTy.zero).2.2.2.2.2.2.1 || ((l.getD i segTy.zero).2.2.2.2.2.2.2.1 || (l.getD i segTy.zero).2.2.1 != 0))))
def cC (l : List Seg) (i : Nat) : Bool := ((l.getD i segTy.zero).2.2.2.2.2.2.2.1 && (locI l i || decide ((List.length (l.getD i segTy.zero).2.2.2.2.1 : Int) > 0))) || (!(l.getD i segTy.zero).2.2.2.2.2.2.2.1 && ((l.getD i segTy.zero).2.2.2.2.2.2.2.2.2 != 0 || (l.getD i segTy.zero).2.2.2.2.2.2.2.2.1 != ((bytS (l.getD i segTy.zero).2.2.2.2.1).length : Int)))
def badN (g : Seg) : Bool := (firstFrom (badRr g) 0 (List.length g.2.2.2.2.1)).isSome
def badL (l : List Seg) (i : Nat) : Bool := cA l i || (cB l i || (cC l i || badN (l.getD i segTy.zero)))
def rgSt (l : List Seg) (f : Bool) (lo : Bool) (i : Nat) : St := ⟨[(0, .vl segT l), (2, .bool f), (3, .int .i64 l.length), (4, .bool lo), (5, .int .i64 i)], [], 0⟩
def rgT (l : List Seg) (i : Nat) : St := rgSt l false (bif cA l i || (cB l i || cC l i) then locI l i else locI l (i + 1)) i
theorem rg_round {R : Type} (l : List Seg) (f : Bool) (hl : l.length ≤ 1000000000) (hs : l.all smallS = true) (i : Nat) (hi : i < l.length) (K : Ex → St → Option R) :
    roundK (env consE4) H.f23 0 (LPof [(15, rlLC)]) V.f23_4 L.f23_4 (rgSt l f (locI l i) i) K = bif badL l i then K .ret (rgT l i) else K .normal (rgSt l f (locI l (i + 1)) (i + 1)) := by
  refine (rlout_rd l f (List.length l : Int) (locI l i) i K).trans ?_
  have e3 : IntKind.i64.wrap ((i : Int) + 1) = ((i + 1 : Nat) : Int) := by rw [wrap64 (by omega) (by omega)]; omega
  have hsm := small_at hs hi
  rw [cond_pos (by omega), cond_pos2 (by omega) (by omega), Int.toNat_natCast, e3]
  unfold badL rgT
  have eA : (bif decide ((l.getD i segTy.zero).1 < (0 : Int)) then some true else bif decide ((l.getD i segTy.zero).1 > (l.getD i segTy.zero).2.1) then some true else bif decide ((l.getD i segTy.zero).2.1 > (1125899906842624 : Int)) then some true else bif decide ((i : Int) > (0 : Int)) then bif decide ((0 : Int) ≤ IntKind.i64.wrap ((i : Int) - (1 : Int))) && decide (IntKind.i64.wrap ((i : Int) - (1 : Int)) < (List.length l : Int)) then bif (l.getD i segTy.zero).1 != (l.getD (IntKind.i64.wrap ((i : Int) - (1 : Int))).toNat segTy.zero).2.1 then some true else bif decide ((l.getD i segTy.zero).2.2.2.1 < (0 : Int)) then some true else bif decide ((l.getD i segTy.zero).2.2.2.2.2.2.2.2.1 < (0 : Int)) then some true else some !(decide ((l.getD i segTy.zero).2.2.1 ≥ (-1099511627776 : Int)) && decide ((l.getD i segTy.zero).2.2.1 ≤ (1099511627776 : Int))) else none else bif decide ((l.getD i segTy.zero).2.2.2.1 < (0 : Int)) then some true else bif decide ((l.getD i segTy.zero).2.2.2.2.2.2.2.2.1 < (0 : Int)) then some true else some !(decide ((l.getD i segTy.zero).2.2.1 ≥ (-1099511627776 : Int)) && decide ((l.getD i segTy.zero).2.2.1 ≤ (1099511627776 : Int)))) = some (cA l i) := by
    unfold cA
    by_cases h0 : i > 0
    · have w : IntKind.i64.wrap ((i : Int) - 1) = ((i - 1 : Nat) : Int) := by rw [wrap64 (by omega) (by omega)]; omega
      rw [w, Int.toNat_natCast, cond_pos (show (i : Int) > 0 by omega), cond_pos2 (by omega) (by omega)]
      simp only [or_bif, decide_eq_true h0, Bool.true_and]
    · rw [cond_neg (show ¬ (i : Int) > 0 by omega)]
      simp only [or_bif, decide_eq_false h0, Bool.false_and, Bool.false_or]
  rw [eA, Option.bind_some]
  cases hA : cA l i with
  | true => rfl
  | false =>
  rw [cond_false, Bool.false_or]
  have eB : (bif !(l.getD i segTy.zero).2.2.2.2.2.1 == decide (((i + 1 : Nat) : Int) < (List.length l : Int)) then some true else bif (l.getD i segTy.zero).2.2.2.2.2.1 then bif (l.getD i segTy.zero).1 == (l.getD i segTy.zero).2.1 then some true else bif !(l.getD i segTy.zero).2.2.2.2.2.1 then bif (l.getD i segTy.zero).2.2.2.2.2.2.1 then some true else bif (l.getD i segTy.zero).2.2.2.2.2.2.2.1 then some true else some ((l.getD i segTy.zero).2.2.1 != (0 : Int)) else some false else bif !(l.getD i segTy.zero).2.2.2.2.2.1 then bif (l.getD i segTy.zero).2.2.2.2.2.2.1 then some true else bif (l.getD i segTy.zero).2.2.2.2.2.2.2.1 then some true else some ((l.getD i segTy.zero).2.2.1 != (0 : Int)) else some false) = some (cB l i) := by
    unfold cB
    cases (l.getD i segTy.zero).2.2.2.2.2.1 <;> simp only [or_bif, cond_true, cond_false, Bool.not_true, Bool.not_false, Bool.true_and, Bool.false_and, Bool.or_false, Bool.false_or]
  rw [eB, Option.bind_some]
  cases hB : cB l i with
  | true => rfl
  | false =>
  rw [cond_false, Bool.false_or]
  have eC : (bif (l.getD i segTy.zero).2.2.2.2.2.2.2.1 then bif locI l i then some true else bif decide ((List.length (l.getD i segTy.zero).2.2.2.2.1 : Int) > (0 : Int)) then some true else bif !(l.getD i segTy.zero).2.2.2.2.2.2.2.1 then bif (l.getD i segTy.zero).2.2.2.2.2.2.2.2.2 != (0 : Int) then some true else bif decide (List.length (l.getD i segTy.zero).2.2.2.2.1 ≤ 1000000000) then some ((l.getD i segTy.zero).2.2.2.2.2.2.2.2.1 != ((bytS (l.getD i segTy.zero).2.2.2.2.1).length : Int)) else none else some false else bif !(l.getD i segTy.zero).2.2.2.2.2.2.2.1 then bif (l.getD i segTy.zero).2.2.2.2.2.2.2.2.2 != (0 : Int) then some true else bif decide (List.length (l.getD i segTy.zero).2.2.2.2.1 ≤ 1000000000) then some ((l.getD i segTy.zero).2.2.2.2.2.2.2.2.1 != ((bytS (l.getD i segTy.zero).2.2.2.2.1).length : Int)) else none else some false) = some (cC l i) := by
    unfold cC
    rw [decide_eq_true hsm]
    cases (l.getD i segTy.zero).2.2.2.2.2.2.2.1 <;> simp only [or_bif, cond_true, cond_false, Bool.not_true, Bool.not_false, Bool.true_and, Bool.false_and, Bool.or_false, Bool.false_or]
  rw [eC, Option.bind_some]
  cases hC : cC l i with
  | true => rfl
  | false =>
  rw [cond_false, Bool.false_or, or_bif, Option.bind_some]
  unfold badN
  cases (firstFrom (badRr (l.getD i segTy.zero)) 0 (List.length (l.getD i segTy.zero).2.2.2.2.1)).isSome <;> rfl
abbrev rgLC : LoopC := LoopC.of ⟨[(0, .vl segT), (2, .bool), (3, .int .i64), (4, .bool), (5, .int .i64)], []⟩
  (fun ⟨⟨l, f, n, lo, i, _⟩, _⟩ => decide (i = (0 : Int)) && decide (n = (List.length l : Int)) && !lo && smallL l)
  fun ⟨⟨l, f, n, lo, i, _⟩, _⟩ => [((firstFrom (badL l) 0 (List.length l)).isSome, .ret, rgT l ((firstFrom (badL l) 0 (List.length l)).getD 0)), (true, .exit 0, rgSt l f (locI l (List.length l)) (List.length l))]
theorem rg_lok : LoopOK P0 H.f23 0 L.f23_4 rgLC :=
  loop_ok_of (env_ok consE4_ok) glob0 mixed0 (loops_good (tab := [(15, rlLC)]) (by kernel_rfl) (fun x hx => by simp at hx; subst hx; exact rl_lok)) V.f23_4 (by decide) fun ⟨⟨l, f, n, lo, i, _⟩, _⟩ h hw => by
    simp only [Bool.and_eq_true, decide_eq_true_eq, smallL, Bool.not_eq_true'] at h
    obtain ⟨⟨⟨rfl, rfl⟩, rfl⟩, h5, h6⟩ := h
    have h5 : List.length l ≤ 1000000000 := h5
    refine ⟨_, Eq.trans (search_rounds (S := fun i => rgSt l f (locI l i) i) (T := rgT l) (p := badL l) (n := List.length l) (e1 := .ret) (e2 := .exit 0) (s2 := rgSt l f (locI l (List.length l)) (List.length l)) (by simp) (by simp) (fun k hk K => rg_round l f h5 h6 k hk K) (fun K => ?_) _ (List.length l) 0 (by omega)) search_pick⟩
    refine (rlout_rd l f (List.length l : Int) (locI l (List.length l)) (List.length l : Nat) K).trans ?_
    rw [cond_neg (by omega)]
    rfl
theorem rlog_ev (l : List Seg) : evFn (env consE4) H.f23 (LPof [(4, rgLC), (15, rlLC)]) F.f23 [.vl segT l] [] (finT [.bool]) = bif decide ((↑l.length : Int) = (↑l.length : Int)) && true && smallL l && (firstFrom (badL l) 0 l.length).isSome then some (false, ()) else bif decide ((↑l.length : Int) = (↑l.length : Int)) && true && smallL l && true then some (decide ((↑l.length : Int) > (0 : Int)), ()) else none := by kernel_rfl
end Go.Sim
namespace Go.Sim
set_option linter.unusedSimpArgs false
set_option linter.unusedVariables false
set_option maxRecDepth 10000
def rightO (l : List Seg) : Bool := decide (0 < List.length l) && (firstFrom (badO l) 0 (List.length l)).isNone
def rightB (l : List Seg) : Bool := decide (0 < List.length l) && (firstFrom (badL l) 0 (List.length l)).isNone
theorem ff_eq {p q : Nat → Bool} : ∀ (m i : Nat), (∀ j, j < i → p j = false) → (∀ j, j < i → q j = false) → (∀ k, k < i + m → (∀ j, j < k → p j = false) → (∀ j, j < k → q j = false) → p k = q k) → firstFrom p i m = firstFrom q i m
  | 0, i, _, _, _ => rfl
  | m + 1, i, hp, hq, h => by
    have e := h i (by omega) hp hq
    simp only [firstFrom]
    rw [e]
    cases hb : q i with
    | true => rfl
    | false =>
      exact ff_eq m (i + 1) (fun j hj => by
        rcases Nat.lt_or_ge j i with h1 | h1
        · exact hp j h1
        · rw [show j = i by omega, e, hb]) (fun j hj => by
        rcases Nat.lt_or_ge j i with h1 | h1
        · exact hq j h1
        · rw [show j = i by omega, hb]) (fun k hk => h k (by omega))
theorem chain_eq (g : Seg) : chainB g = !badN g := by
  have key : firstFrom (badRc g) 0 (List.length g.2.2.2.2.1) = firstFrom (badRr g) 0 (List.length g.2.2.2.2.1) := ff_eq _ 0 (fun j hj => by omega) (fun j hj => by omega) fun k hk hp hq => by
    unfold badRc badRr
    cases k with
    | zero => simp [nextR]
    | succ k =>
      have h1 := hq k (by omega)
      unfold badRr at h1
      simp only [Bool.or_eq_false_iff, Bool.not_eq_false', decide_eq_false_iff_not] at h1
      obtain ⟨r1, r2, r3, _⟩ := h1
      have hr : (g.2.2.2.2.1.getD k recTy.zero).1 ≥ 0 ∧ (g.2.2.2.2.1.getD k recTy.zero).1 ≤ 1125899906842624 := by
        unfold recR at r1
        simp only [Bool.and_eq_true, decide_eq_true_eq] at r1
        exact ⟨r1.1, r1.2.1⟩
      have e : nextR g (k + 1) = (g.2.2.2.2.1.getD k recTy.zero).1 + 1 := wrap64 (by omega) (by omega)
      rw [e]
      cases recR (g.2.2.2.2.1.getD (k + 1) recTy.zero) with
      | false => rfl
      | true =>
        simp only [Bool.not_true, Bool.false_or, Nat.add_sub_cancel, show k + 1 > 0 from Nat.succ_pos _, decide_true, Bool.true_and]
        apply Bool.eq_iff_iff.2
        simp only [Bool.or_eq_true, decide_eq_true_eq]
        omega
  unfold chainB badN
  rw [key]
  cases firstFrom (badRr g) 0 (List.length g.2.2.2.2.1) <;> rfl
theorem loc_eq {l : List Seg} : ∀ {i : Nat}, (∀ j, j < i → badO l j = false) → locI l i = (decide (i > 0) && !(l.getD (i - 1) segTy.zero).2.2.2.2.2.2.2.1)
  | 0, _ => rfl
  | i + 1, h => by
    have ih := loc_eq (l := l) (i := i) (fun j hj => h j (by omega))
    have hb := h i (by omega)
    show (locI l i || !(l.getD i segTy.zero).2.2.2.2.2.2.2.1) = _
    rw [ih, Nat.add_sub_cancel, decide_eq_true (show i + 1 > 0 by omega), Bool.true_and]
    unfold badO at hb
    simp only [Bool.or_eq_false_iff] at hb
    have hb := hb.2
    cases h0 : decide (i > 0) with
    | false => rfl
    | true =>
      rw [h0, Bool.true_and] at hb
      simp only [Bool.or_eq_false_iff] at hb
      have hb := hb.2
      revert hb
      cases (l.getD i segTy.zero).2.2.2.2.2.2.2.1 <;> cases (l.getD (i - 1) segTy.zero).2.2.2.2.2.2.2.1 <;> simp
theorem bool_log (b0 g0 z0 bn big inn s q nb tl tg tz c r len0 u0 ze ip bp pr tm : Bool) (ht : tm = !(tl || tg)) :
    (!(!(b0 || (g0 || (z0 || (bn || (big || inn))))) && (!(s == q) && (!(s && nb) && (!(tl || tg) && (!(q && (!tz || (c || r))) && (bif r then len0 else u0 && ze)))))) || (ip && (bp || (r && !pr)))) =
    ((b0 || (bn || (big || ((ip && bp) || (g0 || (z0 || !tm)))))) || (((!s == !q) || ((s && nb) || (!s && (c || (r || !tz))))) || (((r && ((ip && !pr) || !len0)) || (!r && (!u0 || !ze))) || inn))) := by
  subst ht
  cases s <;> cases q <;> cases r <;> cases ip <;> cases pr <;> simp [Bool.or_comm, Bool.or_left_comm, Bool.or_assoc]
theorem bad_eq {l : List Seg} {i : Nat} (hi : i < l.length) (h : ∀ j, j < i → badO l j = false) : badO l i = badL l i := by
  have e1 : decide (((i + 1 : Nat) : Int) < (List.length l : Int)) = !(((i + 1 : Nat) : Int) == (List.length l : Int)) := by
    apply Bool.eq_iff_iff.2
    simp only [decide_eq_true_eq, Bool.not_eq_true', beq_eq_false_iff_ne]
    omega
  have e2 : ((l.getD i segTy.zero).1 == (l.getD i segTy.zero).2.1) = ((l.getD i segTy.zero).2.1 == (l.getD i segTy.zero).1) := by
    apply Bool.eq_iff_iff.2
    simp only [beq_iff_eq]
    exact eq_comm
  have e3 : decide ((List.length (l.getD i segTy.zero).2.2.2.2.1 : Int) > 0) = !((List.length (l.getD i segTy.zero).2.2.2.2.1 : Int) == 0) := by
    apply Bool.eq_iff_iff.2
    simp only [decide_eq_true_eq, Bool.not_eq_true', beq_eq_false_iff_ne]
    omega
  have ht : (decide ((l.getD i segTy.zero).2.2.1 ≥ -1099511627776) && decide ((l.getD i segTy.zero).2.2.1 ≤ 1099511627776)) = !(decide ((l.getD i segTy.zero).2.2.1 < -1099511627776) || decide ((l.getD i segTy.zero).2.2.1 > 1099511627776)) := by
    apply Bool.eq_iff_iff.2
    simp only [Bool.and_eq_true, decide_eq_true_eq, Bool.not_eq_true', Bool.or_eq_false_iff, decide_eq_false_iff_not]
    omega
  unfold badO badL mayB cA cB cC
  rw [chain_eq, loc_eq h, Bool.not_not, e1, e2, e3]
  exact bool_log _ _ _ _ _ _ _ (((i + 1 : Nat) : Int) == (List.length l : Int)) _ _ _ ((l.getD i segTy.zero).2.2.1 == 0) _ _ ((List.length (l.getD i segTy.zero).2.2.2.2.1 : Int) == 0) ((l.getD i segTy.zero).2.2.2.2.2.2.2.2.2 == 0) ((l.getD i segTy.zero).2.2.2.2.2.2.2.2.1 == ((bytS (l.getD i segTy.zero).2.2.2.2.1).length : Int)) _ _ _ _ ht
theorem right_eq (l : List Seg) : rightO l = rightB l := by
  have key : firstFrom (badO l) 0 (List.length l) = firstFrom (badL l) 0 (List.length l) := ff_eq _ 0 (fun j hj => by omega) (fun j hj => by omega) fun k hk hp _ => bad_eq (by omega) hp
  unfold rightO rightB
  rw [key]
theorem len0_eq (l : List Seg) : ((List.length l : Int) == 0) = !decide (0 < List.length l) := by
  apply Bool.eq_iff_iff.2
  simp only [beq_iff_eq, Bool.not_eq_true', decide_eq_false_iff_not]
  omega
def caseRlog : PCase := ⟨[.ty (.sl segT)], [.bool], fun x => (fun (l : List Seg) => [(smallL l, (rightB l, ()))]) x.1⟩
theorem rlog_val (l : List Seg) (hc : (smallL l) = true) : evFn (env consE4) H.f23 (LPof [(4, rgLC), (15, rlLC)]) F.f23 [.vl segT l] [] (finT [.bool]) = some (rightB l, ()) := by
  rw [rlog_ev, hc]
  unfold rightB
  simp only [decide_true, Bool.true_and, Bool.and_true]
  have e : decide ((List.length l : Int) > 0) = decide (0 < List.length l) := by
    apply Bool.eq_iff_iff.2
    simp only [decide_eq_true_eq]
    omega
  rw [e]
  cases firstFrom (badL l) 0 (List.length l) with
  | none => simp
  | some j => simp
theorem rlog_ok : caseRlog.ok P0 I.f23 := case_ok2 (H := H.f23) (E := env consE4) (env_ok consE4_ok) glob0 mixed0 G.f23 Bd.f23 (by kernel_rfl) (loops_good (tab := [(4, rgLC), (15, rlLC)]) (by kernel_rfl) (fun x hx => by simp at hx; rcases hx with rfl | rfl <;> first | exact rg_lok | exact rl_lok)) fun ⟨l, ()⟩ y h hw => by
  obtain ⟨hc, rfl⟩ := pick_pre h
  exact rlog_val l hc
theorem seg_dif (a b : Seg) : (bif a.1 != b.1 then some true else bif a.2.1 != b.2.1 then some true else bif a.2.2.1 != b.2.2.1 then some true else bif a.2.2.2.1 != b.2.2.2.1 then some true else bif !decide (a.2.2.2.2.1 = b.2.2.2.2.1) then some true else bif !a.2.2.2.2.2.1 == b.2.2.2.2.2.1 then some true else bif !a.2.2.2.2.2.2.1 == b.2.2.2.2.2.2.1 then some true else bif !a.2.2.2.2.2.2.2.1 == b.2.2.2.2.2.2.2.1 then some true else bif a.2.2.2.2.2.2.2.2.1 != b.2.2.2.2.2.2.2.2.1 then some true else some (a.2.2.2.2.2.2.2.2.2 != b.2.2.2.2.2.2.2.2.2)) = some !decide (a = b) := by
  obtain ⟨a1, a2, a3, a4, a5, a6, a7, a8, a9, a10⟩ := a
  obtain ⟨b1, b2, b3, b4, b5, b6, b7, b8, b9, b10⟩ := b
  simp only [or_bif]
  congr 1
  rw [Bool.eq_iff_iff]
  simp only [Bool.or_eq_true, bne_iff_ne, ne_eq, Bool.not_eq_true', decide_eq_false_iff_not, beq_eq_false_iff_ne, Prod.mk.injEq]
  constructor
  · intro h
    rintro ⟨h1, h2, h3, h4, h5, h6, h7, h8, h9, h10⟩
    subst h1; subst h2; subst h3; subst h4; subst h5; subst h6; subst h7; subst h8; subst h9; subst h10
    simp at h
  · intro h
    by_cases h1 : a1 = b1
    · by_cases h2 : a2 = b2
      · by_cases h3 : a3 = b3
        · by_cases h4 : a4 = b4
          · by_cases h5 : a5 = b5
            · by_cases h6 : a6 = b6
              · by_cases h7 : a7 = b7
                · by_cases h8 : a8 = b8
                  · by_cases h9 : a9 = b9
                    · exact .inr (.inr (.inr (.inr (.inr (.inr (.inr (.inr (.inr fun h10 => h ⟨h1, h2, h3, h4, h5, h6, h7, h8, h9, h10⟩))))))))
                    · exact .inr (.inr (.inr (.inr (.inr (.inr (.inr (.inr (.inl h9))))))))
                  · exact .inr (.inr (.inr (.inr (.inr (.inr (.inr (.inl h8)))))))
                · exact .inr (.inr (.inr (.inr (.inr (.inr (.inl h7))))))
              · exact .inr (.inr (.inr (.inr (.inr (.inl h6)))))
            · exact .inr (.inr (.inr (.inr (.inl h5))))
          · exact .inr (.inr (.inr (.inl h4)))
        · exact .inr (.inr (.inl h3))
      · exact .inr (.inl h2)
    · exact .inl h1
def difS (a b : List Seg) (i : Nat) : Bool := !(decide (a.getD i segTy.zero = b.getD i segTy.zero))
def smSt (a b : List Seg) (f : Bool) (i : Nat) : St := ⟨[(0, .vl segT a), (1, .vl segT b), (4, .bool f), (5, .int .i64 i)], [], 0⟩
abbrev smLC : LoopC := LoopC.of ⟨[(0, .vl segT), (1, .vl segT), (4, .bool), (5, .int .i64)], []⟩ (fun x => decide (List.length x.1.2.1 = List.length x.1.1) && decide (x.1.2.2.2.1 = (0 : Int)))
    fun x => [((firstFrom (difS x.1.1 x.1.2.1) 0 (List.length x.1.1)).isSome, .ret, smSt x.1.1 x.1.2.1 false ((firstFrom (difS x.1.1 x.1.2.1) 0 (List.length x.1.1)).getD 0)), (true, .exit 0, smSt x.1.1 x.1.2.1 x.1.2.2.1 (List.length x.1.1))]
theorem sm_lok : LoopOK P0 H.f24 0 L.f24_4 smLC :=
  loop_ok_of (env_ok consF0_ok) glob0 mixed0 noLoops V.f24_4 (by decide) fun ⟨⟨a, b, f, i, _⟩, _⟩ h hw => by
    simp only [Bool.and_eq_true, decide_eq_true_eq] at h
    obtain ⟨h1, h2⟩ := h
    subst h2
    have hm : List.length a ≤ maxL := hw.1.1.1
    unfold maxL at hm
    refine ⟨_, Eq.trans (search_rounds (S := smSt a b f) (T := smSt a b false) (p := difS a b) (n := List.length a) (e1 := .ret) (e2 := .exit 0) (s2 := smSt a b f (List.length a)) (by simp) (by simp) (fun i hi K => ?_) (fun K => ?_) _ (List.length a) 0 (by omega)) search_pick⟩
    · refine (ssame_rd a b f i K).trans ?_
      rw [cond_pos (by omega), cond_pos2 (by omega) (by omega), cond_pos2 (by omega) (by omega), Int.toNat_natCast, seg_dif, wrap64 (by omega) (by omega)]
      rfl
    · refine (ssame_rd a b f (List.length a : Nat) K).trans ?_
      rw [cond_neg (by omega)]
      rfl
theorem ssame_ev (a b : List Seg) : evFn (env consF0) H.f24 (LPof [(4, smLC)]) F.f24 [.vl segT a, .vl segT b] [] (finT [.bool]) = bif (↑a.length : Int) != (↑b.length : Int) then some (false, ()) else bif decide (b.length = a.length) && true && (firstFrom (difS a b) 0 a.length).isSome then some (false, ()) else bif decide (b.length = a.length) && true && true then some (true, ()) else none := by kernel_rfl
def caseSsame : PCase := ⟨[.ty (.sl segT), .ty (.sl segT)], [.bool], fun x => (fun (a b : List Seg) => [(true, (decide (a = b), ()))]) x.1 x.2.1⟩
theorem ssame_val (a b : List Seg) : evFn (env consF0) H.f24 (LPof [(4, smLC)]) F.f24 [.vl segT a, .vl segT b] [] (finT [.bool]) = some (decide (a = b), ()) := by
  rw [ssame_ev]
  by_cases h : b.length = a.length
  · have h1 : ((a.length : Int) != (b.length : Int)) = false := by simp; omega
    have := firstFrom_eq (q := fun a b => decide (a = b)) (fun _ _ => rfl) segTy.zero h
    unfold difS
    rw [h1, this, decide_eq_true h]
    cases decide (a = b) <;> rfl
  · have h1 : ((a.length : Int) != (b.length : Int)) = true := by simp; omega
    have h2 : a ≠ b := fun e => h (by rw [e])
    rw [h1, decide_eq_false h2]; rfl
theorem ssame_ok : caseSsame.ok P0 I.f24 := case_ok2 (H := H.f24) (E := env consF0) (env_ok consF0_ok) glob0 mixed0 G.f24 Bd.f24 (by kernel_rfl) (loops_good (tab := [(4, smLC)]) (by kernel_rfl) (fun x hx => by simp at hx; subst hx; exact sm_lok)) fun ⟨a, b, ()⟩ y h hw => by
  obtain ⟨hc, rfl⟩ := pick_pre h
  exact ssame_val a b
end Go.Sim
namespace Go.Sim
set_option linter.unusedSimpArgs false
set_option linter.unusedVariables false
set_option maxRecDepth 10000
def longQ (l : List Rec) (i : Nat) : Bool := decide (((List.length (l.getD i recTy.zero).2.2.1 : Nat) : Int) > 250) || decide (((List.length (l.getD i recTy.zero).2.2.2.1 : Nat) : Int) > 300)
def b8St (l : List Rec) (f : Bool) (i : Nat) : St := ⟨[(0, .vl recT l), (2, .bool f), (3, .int .i64 i)], [], 0⟩
abbrev b8LC : LoopC := LoopC.of ⟨[(0, .vl recT), (2, .bool), (3, .int .i64)], []⟩ (fun x => decide (x.1.2.2.1 = (0 : Int)))
    fun x => [((firstFrom (longQ x.1.1) 0 (List.length x.1.1)).isSome, .ret, b8St x.1.1 true ((firstFrom (longQ x.1.1) 0 (List.length x.1.1)).getD 0)), (true, .exit 0, b8St x.1.1 x.1.2.1 (List.length x.1.1))]
theorem b8_lok : LoopOK P0 H.f8 0 L.f8_2 b8LC :=
  loop_ok_of (env_ok env_nil) glob0 mixed0 noLoops V.f8_2 (by decide) fun ⟨⟨l, f, i, _⟩, _⟩ h hw => by
    obtain rfl := of_decide_eq_true h
    have hm : List.length l ≤ maxL := hw.1.1.1
    unfold maxL at hm
    refine ⟨_, Eq.trans (search_rounds (S := b8St l f) (T := b8St l true) (p := longQ l) (n := List.length l) (e1 := .ret) (e2 := .exit 0) (s2 := b8St l f (List.length l)) (by simp) (by simp) (fun i hi K => ?_) (fun K => ?_) _ (List.length l) 0 (by omega)) search_pick⟩
    · refine (big8_rd l f i K).trans ?_
      rw [cond_pos (by omega), cond_pos2 (by omega) (by omega), cond_pos2 (by omega) (by omega), Int.toNat_natCast, or_bif, wrap64 (by omega) (by omega)]
      rfl
    · refine (big8_rd l f (List.length l : Nat) K).trans ?_
      rw [cond_neg (by omega)]
      rfl
theorem big8_ev (l : List Rec) : evFn (env []) H.f8 (LPof [(2, b8LC)]) F.f8 [.vl recT l] [] (finT [.bool]) = bif (firstFrom (longQ l) 0 l.length).isSome then some (true, ()) else some (decide ((↑l.length : Int) > (60 : Int)), ()) := by kernel_rfl
def big8B (l : List Rec) : Bool := (firstFrom (longQ l) 0 (List.length l)).isSome || decide ((List.length l : Int) > 60)
def caseBig8 : PCase := ⟨[.ty (.sl recT)], [.bool], fun x => (fun (l : List Rec) => [(true, (big8B l, ()))]) x.1⟩
theorem big8_val (l : List Rec) : evFn (env []) H.f8 (LPof [(2, b8LC)]) F.f8 [.vl recT l] [] (finT [.bool]) = some (big8B l, ()) := by
  rw [big8_ev]
  unfold big8B
  cases firstFrom (longQ l) 0 (List.length l) <;> simp
theorem big8_ok : caseBig8.ok P0 I.f8 := case_ok2 (H := H.f8) (E := env []) (env_ok env_nil) glob0 mixed0 G.f8 Bd.f8 (by kernel_rfl) (loops_good (tab := [(2, b8LC)]) (by kernel_rfl) (fun x hx => by simp at hx; subst hx; exact b8_lok)) fun ⟨l, ()⟩ y h hw => by
  obtain ⟨hc, rfl⟩ := pick_pre h
  exact big8_val l
end Go.Sim
namespace Go.Sim
set_option linter.unusedSimpArgs false
set_option linter.unusedVariables false
set_option maxRecDepth 10000
def caseRepl : VCase := ⟨[.lit (.hw 0), .int .i64, .int .i64, .lit (.hw 2)], [.arr 10 segT [actRP], .log recT, .box 10 [segP]], .lit (.hw 3), [.dead, .log recT, .dead, .arr 10 segT [actRP]],
  fun ⟨_, i, j, _⟩ ⟨⟨f, ⟨b, n, _, _, _, _, _, _, z, _, _⟩, _⟩, rs, ⟨⟨g1, g2, g3, g4, g5, g6, g7, g8, g9, g10, _⟩, _⟩, _⟩ =>
    [(decide ((0 : Int) ≤ i) && decide (j = i + 2) && decide (j ≤ (List.length f : Int)) && decide (List.length f < 1000000000), ((), ((), rs, (), (twoOne f i.toNat (g1, g2, g3, g4, g5, g6, g7, g8, g9, g10), (b, n, (), (), (), (), (), (), z, (), ()), ()), ())))]⟩
theorem replArith {i j : Int} {n : Nat} (h1 : (0 : Int) ≤ i) (h2 : j = i + 2) (h3 : j ≤ (n : Int)) : ∃ k : Nat, i = (k : Int) ∧ j = ((k + 2 : Nat) : Int) ∧ k + 2 ≤ n := ⟨i.toNat, by omega, by omega, by omega⟩
theorem repl_ok : caseRepl.e.ok P0 I.f77 := fun ⟨_, i, j, _, _⟩ ⟨⟨f, ⟨b, n, _, _, _, _, _, _, z, _, _⟩, _⟩, rs, ⟨⟨g1, g2, g3, g4, g5, g6, g7, g8, g9, g10, _⟩, _⟩, _⟩ r objs' hxy hw1 hw2 => by
  obtain ⟨z, hz, e0⟩ := pick_mapAlt hxy
  cases e0
  obtain ⟨hc, rfl⟩ := pick_pre hz
  simp only [Bool.and_eq_true, decide_eq_true_eq] at hc
  obtain ⟨⟨⟨h1, h2⟩, h3⟩, h4⟩ := hc
  obtain ⟨k, rfl, rfl, h5⟩ := replArith h1 h2 h3
  exact repl_eff f b n _ rs (g1, g2, g3, g4, g5, g6, g7, g8, g9, g10) k h5 h4
noncomputable abbrev consR3 : List (FuncId × Con) := [(I.f74, .pure (pureOf [caseRconcat]))] ++ consS2
theorem consR3_ok : ∀ x ∈ consR3, HoldsC P0 x.1 x.2 := by
  intro x hx
  rcases List.mem_append.1 hx with hx | hx
  · simp at hx
    subst hx
    exact ⟨pureOf_holds (by simp; exact rconcat_ok), C.f74⟩
  · exact consS2_ok x hx
theorem merged_ev (g h : Seg) : evFn (env consR3) H.f69 (LPof []) F.f69 [valOf segT g, valOf segT h] [] (finT [segT]) = bif rjoinB [g.2.2.2.2.1, h.2.2.2.2.1] then bif g.2.2.2.2.2.2.1 then bif decide ([g.2.2.2.2.1, h.2.2.2.2.1].flatten.length ≤ 1000000000) then some ((g.1, h.2.1, bif decide (h.2.2.1 > g.2.2.1) then h.2.2.1 else g.2.2.1, IntKind.i64.wrap ((bif decide (h.2.2.2.1 > g.2.2.2.1) then h.2.2.2.1 else g.2.2.2.1) + (1 : Int)), [g.2.2.2.2.1, h.2.2.2.2.1].flatten, true, h.2.2.2.2.2.2.1, false, (↑(bytS [g.2.2.2.2.1, h.2.2.2.2.1].flatten).length : Int), (0 : Int)), ()) else none else bif decide ([g.2.2.2.2.1, h.2.2.2.2.1].flatten.length ≤ 1000000000) then some ((g.1, h.2.1, bif decide (h.2.2.1 > g.2.2.1) then h.2.2.1 else g.2.2.1, IntKind.i64.wrap ((bif decide (h.2.2.2.1 > g.2.2.2.1) then h.2.2.2.1 else g.2.2.2.1) + (1 : Int)), [g.2.2.2.2.1, h.2.2.2.2.1].flatten, true, false, false, (↑(bytS [g.2.2.2.2.1, h.2.2.2.2.1].flatten).length : Int), (0 : Int)), ()) else none else none := by kernel_rfl
def mxZ (a b : Int) : Int := bif decide (b > a) then b else a
def merge2 (g h : Seg) : Seg := (g.1, h.2.1, mxZ g.2.2.1 h.2.2.1, mxZ g.2.2.2.1 h.2.2.2.1 + 1, g.2.2.2.2.1 ++ h.2.2.2.2.1, true, g.2.2.2.2.2.2.1 && h.2.2.2.2.2.2.1, false, ((bytS (g.2.2.2.2.1 ++ h.2.2.2.2.1)).length : Int), 0)
def mgB (g h : Seg) : Bool := decide (g.2.2.2.2.1.length + h.2.2.2.2.1.length ≤ 1000000000) && decide (-9000000000000000000 ≤ g.2.2.2.1) && decide (g.2.2.2.1 ≤ 9000000000000000000) && decide (-9000000000000000000 ≤ h.2.2.2.1) && decide (h.2.2.2.1 ≤ 9000000000000000000)
theorem merged_eq (g h : Seg) (hb : mgB g h = true) : evFn (env consR3) H.f69 (LPof []) F.f69 [valOf segT g, valOf segT h] [] (finT [segT]) = some (merge2 g h, ()) := by
  unfold mgB at hb
  simp only [Bool.and_eq_true, decide_eq_true_eq] at hb
  obtain ⟨⟨⟨⟨h2, h3⟩, h4⟩, h5⟩, h6⟩ := hb
  rw [merged_ev]
  have e1 : rjoinB [g.2.2.2.2.1, h.2.2.2.2.1] = true := by simp [rjoinB, lenR]; omega
  have e2 : [g.2.2.2.2.1, h.2.2.2.2.1].flatten = g.2.2.2.2.1 ++ h.2.2.2.2.1 := by simp
  have e3 : (bif decide (h.2.2.2.1 > g.2.2.2.1) then h.2.2.2.1 else g.2.2.2.1) = mxZ g.2.2.2.1 h.2.2.2.1 := rfl
  have e5 : (bif decide (h.2.2.1 > g.2.2.1) then h.2.2.1 else g.2.2.1) = mxZ g.2.2.1 h.2.2.1 := rfl
  have e4 : IntKind.i64.wrap (mxZ g.2.2.2.1 h.2.2.2.1 + 1) = mxZ g.2.2.2.1 h.2.2.2.1 + 1 := by
    refine wrap64 ?_ ?_ <;> (unfold mxZ; cases decide (h.2.2.2.1 > g.2.2.2.1) <;> simp only [cond_true, cond_false] <;> omega)
  have b3 : decide ((g.2.2.2.2.1 ++ h.2.2.2.2.1).length ≤ 1000000000) = true := decide_eq_true (by simp; omega)
  rw [e1, e2, e3, e4, e5, b3]
  unfold merge2
  cases g.2.2.2.2.2.2.1 <;> rfl
def caseMerged : PCase := ⟨[.ty segT, .ty segT], [segT], fun x => (fun (g k : Seg) => [(mgB g k, (merge2 g k, ()))]) x.1 x.2.1⟩
theorem merged_val (g k : Seg) (hc : (mgB g k) = true) : evFn (env consR3) H.f69 (LPof []) F.f69 [valOf segT g, valOf segT k] [] (finT [segT]) = some (merge2 g k, ()) := by
  exact merged_eq g k hc
theorem merged_ok : caseMerged.ok P0 I.f69 := case_ok2 (H := H.f69) (E := env consR3) (env_ok consR3_ok) glob0 mixed0 G.f69 Bd.f69 (by kernel_rfl) noLoops fun ⟨g, k, ()⟩ y h hw => by
  obtain ⟨hc, rfl⟩ := pick_pre h
  exact merged_val g k hc
theorem whole_ev (g : Seg) : evFn (env consR3) H.f56 (LPof []) F.f56 [valOf segT g] [] (finT [.bool]) = Option.bind (bif g.2.2.2.2.2.1 then some !g.2.2.2.2.2.2.2.1 else some false) fun v => some (v, ()) := by kernel_rfl
def wholeS (g : Seg) : Bool := g.2.2.2.2.2.1 && !g.2.2.2.2.2.2.2.1
def caseWhole : PCase := ⟨[.ty segT], [.bool], fun x => (fun (g : Seg) => [(true, (wholeS g, ()))]) x.1⟩
theorem whole_val (g : Seg) : evFn (env consR3) H.f56 (LPof []) F.f56 [valOf segT g] [] (finT [.bool]) = some (wholeS g, ()) := by
  rw [whole_ev]; unfold wholeS; cases g.2.2.2.2.2.1 <;> rfl
theorem whole_ok : caseWhole.ok P0 I.f56 := case_ok2 (H := H.f56) (E := env consR3) (env_ok consR3_ok) glob0 mixed0 G.f56 Bd.f56 (by kernel_rfl) noLoops fun ⟨g, ()⟩ y h hw => by
  obtain ⟨hc, rfl⟩ := pick_pre h
  exact whole_val g
noncomputable abbrev consR4 : List (FuncId × Con) := [(I.f56, .pure (pureOf [caseWhole])), (I.f69, .pure (pureOf [caseMerged])), (I.f77, .eff (effOf [caseRepl.e]))] ++ consR3
theorem consR4_ok : ∀ x ∈ consR4, HoldsC P0 x.1 x.2 := by
  intro x hx
  rcases List.mem_append.1 hx with hx | hx
  · simp at hx
    rcases hx with rfl | rfl | rfl
    · exact ⟨pureOf_holds (by simp; exact whole_ok), C.f56⟩
    · exact ⟨pureOf_holds (by simp; exact merged_ok), C.f69⟩
    · exact ⟨fun args objs r objs2 h _ => effOf_holds (by simp; exact repl_ok) args objs r objs2 h, C.f77⟩
  · exact consR3_ok x hx
def H.merge2 : Hint := { H.f55 with vs := [] }
theorem merge_rd {R : Type} (most i : Int) (q : Bool) (f : List Seg) (b n z : Int) (rs : List Rec) (K : Ex → St → Option R) : roundK (env consR4) H.merge2 1 (LPof []) V.f55_3 L.f55_3 ⟨[(0, .ptr 0 (.tl 0) 0), (1, .int .i64 most), (4, .bool q), (5, .fn (.func I.f56) [] []), (6, .int .i64 i)], [(0, .arr 1 .bool [] [[.hw 1]]), (1, .arr 10 segT f [actC b n z]), (2, .log recT rs)], 3⟩ K = bif decide (IntKind.i64.wrap (i + (1 : Int)) < (↑(f.length + 1) : Int)) then bif decide ((0 : Int) ≤ i) && decide (i < (↑(f.length + 1) : Int)) then bif decide (i.toNat < f.length) then bif decide ((0 : Int) ≤ IntKind.i64.wrap (i + (1 : Int))) && decide (IntKind.i64.wrap (i + (1 : Int)) < (↑(f.length + 1) : Int)) then bif decide ((IntKind.i64.wrap (i + (1 : Int))).toNat < f.length) then Option.bind (bif wholeS (f.getD i.toNat segTy.zero) then bif wholeS (f.getD (IntKind.i64.wrap (i + (1 : Int))).toNat segTy.zero) then some (decide (IntKind.i64.wrap ((↑(List.length (f.getD i.toNat segTy.zero).2.2.2.2.1) : Int) + (↑(List.length (f.getD (IntKind.i64.wrap (i + (1 : Int))).toNat segTy.zero).2.2.2.2.1) : Int)) ≤ most)) else some false else some false) fun v => bif v then bif mgB (f.getD i.toNat segTy.zero) (f.getD (IntKind.i64.wrap (i + (1 : Int))).toNat segTy.zero) then bif decide ((0 : Int) ≤ i) && decide (IntKind.i64.wrap (i + (2 : Int)) = i + (2 : (Pat.int IntKind.i64).den)) && decide (IntKind.i64.wrap (i + (2 : Int)) ≤ (↑f.length : Int)) && decide (f.length < 1000000000) then K .ret { slots := [(0, .ptr 0 (.tl 0) 0), (1, .int .i64 most), (4, .bool true), (5, .fn (Fn.func 47) [] []), (6, .int .i64 i)], objs := [(0, .arr 1 .bool [] [[.hw 1]]), (1, .arr 10 segTy (twoOne f i.toNat (merge2 (f.getD i.toNat segTy.zero) (f.getD (IntKind.i64.wrap (i + (1 : Int))).toNat segTy.zero))) [[.int .i64 b, .int .i64 n, .int .i64 (0 : Int), .int .i64 (0 : Int), .hw 2, .bool false, .bool false, .bool false, .int .i64 z, .int .u32 (0 : Int)]]), (2, .log recTy rs)], nx := 3 } else none else none else K .normal { slots := [(0, .ptr 0 (.tl 0) 0), (1, .int .i64 most), (4, .bool q), (5, .fn (Fn.func 47) [] []), (6, .int .i64 (IntKind.i64.wrap (i + (1 : Int))))], objs := [(0, .arr 1 .bool [] [[.hw 1]]), (1, .arr 10 segTy f [[.int .i64 b, .int .i64 n, .int .i64 (0 : Int), .int .i64 (0 : Int), .hw 2, .bool false, .bool false, .bool false, .int .i64 z, .int .u32 (0 : Int)]]), (2, .log recTy rs)], nx := 3 } else bif decide ((IntKind.i64.wrap (i + (1 : Int))).toNat - f.length = 0) then Option.bind (bif wholeS (f.getD i.toNat segTy.zero) then some false else some false) fun v => bif v then bif mgB (f.getD i.toNat segTy.zero) (b, n, (0 : Int), (0 : Int), rs, false, false, false, z, (0 : Int)) then bif decide ((0 : Int) ≤ i) && decide (IntKind.i64.wrap (i + (2 : Int)) = i + (2 : (Pat.int IntKind.i64).den)) && decide (IntKind.i64.wrap (i + (2 : Int)) ≤ (↑f.length : Int)) && decide (f.length < 1000000000) then K .ret { slots := [(0, .ptr 0 (.tl 0) 0), (1, .int .i64 most), (4, .bool true), (5, .fn (Fn.func 47) [] []), (6, .int .i64 i)], objs := [(0, .arr 1 .bool [] [[.hw 1]]), (1, .arr 10 segTy (twoOne f i.toNat (merge2 (f.getD i.toNat segTy.zero) (b, n, (0 : Int), (0 : Int), rs, false, false, false, z, (0 : Int)))) [[.int .i64 b, .int .i64 n, .int .i64 (0 : Int), .int .i64 (0 : Int), .hw 2, .bool false, .bool false, .bool false, .int .i64 z, .int .u32 (0 : Int)]]), (2, .log recTy rs)], nx := 3 } else none else none else K .normal { slots := [(0, .ptr 0 (.tl 0) 0), (1, .int .i64 most), (4, .bool q), (5, .fn (Fn.func 47) [] []), (6, .int .i64 (IntKind.i64.wrap (i + (1 : Int))))], objs := [(0, .arr 1 .bool [] [[.hw 1]]), (1, .arr 10 segTy f [[.int .i64 b, .int .i64 n, .int .i64 (0 : Int), .int .i64 (0 : Int), .hw 2, .bool false, .bool false, .bool false, .int .i64 z, .int .u32 (0 : Int)]]), (2, .log recTy rs)], nx := 3 } else none else none else bif decide (i.toNat - f.length = 0) then bif decide ((0 : Int) ≤ IntKind.i64.wrap (i + (1 : Int))) && decide (IntKind.i64.wrap (i + (1 : Int)) < (↑(f.length + 1) : Int)) then bif decide ((IntKind.i64.wrap (i + (1 : Int))).toNat < f.length) then K .normal { slots := [(0, .ptr 0 (.tl 0) 0), (1, .int .i64 most), (4, .bool q), (5, .fn (Fn.func 47) [] []), (6, .int .i64 (IntKind.i64.wrap (i + (1 : Int))))], objs := [(0, .arr 1 .bool [] [[.hw 1]]), (1, .arr 10 segTy f [[.int .i64 b, .int .i64 n, .int .i64 (0 : Int), .int .i64 (0 : Int), .hw 2, .bool false, .bool false, .bool false, .int .i64 z, .int .u32 (0 : Int)]]), (2, .log recTy rs)], nx := 3 } else bif decide ((IntKind.i64.wrap (i + (1 : Int))).toNat - f.length = 0) then K .normal { slots := [(0, .ptr 0 (.tl 0) 0), (1, .int .i64 most), (4, .bool q), (5, .fn (Fn.func 47) [] []), (6, .int .i64 (IntKind.i64.wrap (i + (1 : Int))))], objs := [(0, .arr 1 .bool [] [[.hw 1]]), (1, .arr 10 segTy f [[.int .i64 b, .int .i64 n, .int .i64 (0 : Int), .int .i64 (0 : Int), .hw 2, .bool false, .bool false, .bool false, .int .i64 z, .int .u32 (0 : Int)]]), (2, .log recTy rs)], nx := 3 } else none else none else none else none else K (.exit 0) { slots := [(0, .ptr 0 (.tl 0) 0), (1, .int .i64 most), (4, .bool q), (5, .fn (Fn.func 47) [] []), (6, .int .i64 i)], objs := [(0, .arr 1 .bool [] [[.hw 1]]), (1, .arr 10 segTy f [[.int .i64 b, .int .i64 n, .int .i64 (0 : Int), .int .i64 (0 : Int), .hw 2, .bool false, .bool false, .bool false, .int .i64 z, .int .u32 (0 : Int)]]), (2, .log recTy rs)], nx := 3 } := by kernel_rfl
end Go.Sim
namespace Go.Sim
def sufC : Nat → Code → Code
  | 0, c => c
  | n + 1, .seq _ b => sufC n b
  | _ + 1, _ => .skip
def preC : Nat → Code → Code
  | 0, _ => .skip
  | n + 1, .seq a b => .seq a (preC n b)
  | _ + 1, c => c
theorem cut_skip {E : Env} {H : Hint} {k0 : Nat} {R : Type} {LP : Loops R} (K : Ex → St → Option R) : (fun e s' => match e with
      | .normal => ev E H k0 LP .skip s' K
      | e => K e s') = K := by
  funext e s'
  cases e <;> rfl
theorem ev_cut {E : Env} {H : Hint} {k0 : Nat} (hj : H.jc = []) {R : Type} {LP : Loops R} : ∀ (n : Nat) (c : Code) (s : St) (K : Ex → St → Option R),
    ev E H k0 LP c s K = ev E H k0 LP (preC n c) s fun e s' => match e with
      | .normal => ev E H k0 LP (sufC n c) s' K
      | e => K e s' := by
  intro n
  induction n with
  | zero => intro c s K; rfl
  | succ n ih =>
    intro c s K
    cases c with
    | seq a b =>
      have hn : (cond (loopFree a) (lk? H.jc (firstRegion a)) none) = none := by rw [hj]; cases loopFree a <;> rfl
      simp only [preC, sufC, ev]
      rw [hn]
      simp only
      congr 1
      funext e s'
      cases e with
      | normal => exact ih b s' K
      | exit i => rfl
      | ret => rfl
    | _ => simp only [preC, sufC]; rw [cut_skip]
end Go.Sim
namespace Go.Sim
set_option linter.unusedSimpArgs false
set_option linter.unusedVariables false
set_option maxRecDepth 10000
theorem gre_rd {R : Type} (t : Int) (l : List Rec) (i : Int) (K : Ex → St → Option R) : roundK (env []) H.f26 0 (LPof []) V.f26_3 L.f26_3 ⟨[(0, .vl recT l), (3, .int .i64 t), (4, .int .i64 i)], [], 0⟩ K = bif decide (i < (↑l.length : Int)) then Option.bind (bif i == (0 : Int) then some true else bif decide ((0 : Int) ≤ i) && decide (i < (↑l.length : Int)) then some (decide ((l.getD i.toNat recTy.zero).2.1 > t)) else none) fun v => bif v then bif decide ((0 : Int) ≤ i) && decide (i < (↑l.length : Int)) then K .normal { slots := [(0, .vl recTy l), (3, .int .i64 (l.getD i.toNat recTy.zero).2.1), (4, .int .i64 (IntKind.i64.wrap (i + (1 : Int))))], objs := [], nx := 0 } else none else K .normal { slots := [(0, .vl recTy l), (3, .int .i64 t), (4, .int .i64 (IntKind.i64.wrap (i + (1 : Int))))], objs := [], nx := 0 } else K (.exit 0) { slots := [(0, .vl recTy l), (3, .int .i64 t), (4, .int .i64 i)], objs := [], nx := 0 } := by kernel_rfl
def grSt (l : List Rec) (i : Nat) : St := ⟨[(0, .vl recT l), (3, .int .i64 (latI l i)), (4, .int .i64 i)], [], 0⟩
theorem gr_rounds {R : Type} (l : List Rec) (hl : l.length ≤ maxL) (K : Ex → St → Option R) : ∀ (m i : Nat), i + m = l.length → rounds (env []) H.f26 0 (LPof []) V.f26_3 L.f26_3 (m + 1) (grSt l i) K = K (.exit 0) (grSt l l.length)
  | 0, i, h => by
    obtain rfl : i = l.length := by omega
    rw [rounds_succ']
    refine (gre_rd _ _ _ _).trans ?_
    rw [cond_neg (by omega)]
    rfl
  | m + 1, i, h => by
    have ih := gr_rounds l hl K m (i + 1) (by omega)
    unfold maxL at hl
    have e3 : IntKind.i64.wrap ((i : Int) + 1) = ((i + 1 : Nat) : Int) := by rw [wrap64 (by omega) (by omega)]; omega
    rw [rounds_succ']
    refine (gre_rd _ _ _ _).trans ?_
    rw [cond_pos (by omega), cond_pos2 (by omega) (by omega), Int.toNat_natCast, e3, i0_dec, or_bif, Option.bind_some]
    have e4 : latI l (i + 1) = bif decide (i = 0) || decide ((l.getD i recTy.zero).2.1 > latI l i) then (l.getD i recTy.zero).2.1 else latI l i := rfl
    unfold grSt at ih
    rw [e4] at ih
    cases hb : decide (i = 0) || decide ((l.getD i recTy.zero).2.1 > latI l i) with
    | true => rw [hb] at ih; rw [cond_true, cond_pos2 (by omega) (by omega)]; exact ih
    | false => rw [hb] at ih; exact ih
abbrev grLC : LoopC := LoopC.of ⟨[(0, .vl recT), (3, .int .i64), (4, .int .i64)], []⟩ (fun x => decide (x.1.2.1 = (0 : Int)) && decide (x.1.2.2.1 = (0 : Int)))
  fun x => [(true, .exit 0, grSt x.1.1 (List.length x.1.1))]
theorem gr_lok : LoopOK P0 H.f26 0 L.f26_3 grLC :=
  loop_ok_of (env_ok env_nil) glob0 mixed0 noLoops V.f26_3 (by decide) fun ⟨⟨l, t, i, _⟩, _⟩ h hw => by
    simp only [Bool.and_eq_true, decide_eq_true_eq] at h
    obtain ⟨rfl, rfl⟩ := h
    exact ⟨_, gr_rounds l hw.1.1.1 _ l.length 0 (Nat.zero_add _)⟩
theorem gre_ev (l : List Rec) : evFn (env []) H.f26 (LPof [(3, grLC)]) F.f26 [.vl recT l] [] (finT [.int .i64]) = some (latI l l.length, ()) := by kernel_rfl
def caseGreat : PCase := ⟨[.ty (.sl recT)], [.int .i64], fun x => (fun (l : List Rec) => [(true, (latS l, ()))]) x.1⟩
theorem gre_val (l : List Rec) : evFn (env []) H.f26 (LPof [(3, grLC)]) F.f26 [.vl recT l] [] (finT [.int .i64]) = some (latS l, ()) := by
  rw [gre_ev]
  rfl
theorem gre_ok : caseGreat.ok P0 I.f26 := case_ok2 (H := H.f26) (E := env []) (env_ok env_nil) glob0 mixed0 G.f26 Bd.f26 (by kernel_rfl) (loops_good (tab := [(3, grLC)]) (by kernel_rfl) (fun x hx => by simp at hx; subst hx; exact gr_lok)) fun ⟨l, ()⟩ y h hw => by
  obtain ⟨hc, rfl⟩ := pick_pre h
  exact gre_val l
abbrev docP : List OPat := [.box 1 [[.lit (.hw 1)]], .arr 10 segT []]
abbrev docQ : List OPat := [.box 1 [[.lit (.hw 2)]], .dead, .arr 10 segT []]
theorem rnew_ev : evFn (env []) H.f22 (LPof []) F.f22 [] [] (finV (.lit (.ptr 0 (.tl 0) 0)) [.box 1 [[.lit (.hw 1)]], .box 10 [segP]] 0) = some ((), (((), ()), ()), (((0 : Int), (0 : Int), (0 : Int), (0 : Int), [], false, false, false, (0 : Int), (0 : Int), ()), ()), ()) := by kernel_rfl
theorem rlow_ev (l : List Seg) : evFn (env []) H.f16 (LPof []) F.f16 [.ptr 0 (.tl 0) 0] [.arr 1 .bool [] [[.hw 1]], .arr 10 segT l []] (finV (.int .i64) docP 2) = bif decide ((0 : Int) < (↑l.length : Int)) then some ((l.getD 0 segTy.zero).1, (((), ()), ()), (l, ()), ()) else none := by kernel_rfl
theorem rhigh_ev (l : List Seg) : evFn (env []) H.f15 (LPof []) F.f15 [.ptr 0 (.tl 0) 0] [.arr 1 .bool [] [[.hw 1]], .arr 10 segT l []] (finV (.int .i64) docP 2) = bif decide ((0 : Int) ≤ IntKind.i64.wrap ((↑l.length : Int) - (1 : Int))) && decide (IntKind.i64.wrap ((↑l.length : Int) - (1 : Int)) < (↑l.length : Int)) then some ((l.getD (IntKind.i64.wrap ((↑l.length : Int) - (1 : Int))).toNat segTy.zero).2.1, (((), ()), ()), (l, ()), ()) else none := by kernel_rfl
theorem rrem_ev (l : List Seg) : evFn (env []) H.f21 (LPof []) F.f21 [.ptr 0 (.tl 0) 0] [.arr 1 .bool [] [[.hw 1]], .arr 10 segT l []] (finV .bool docP 2) = bif decide ((0 : Int) < (↑l.length : Int)) then some ((l.getD 0 segTy.zero).2.2.2.2.2.2.2.1, (((), ()), ()), (l, ()), ()) else none := by kernel_rfl
theorem box_typed {n : FuncId} {args : List AV} {g : Seg} (h : EffGood P0 n args [] (.ptr 0 (.tl 0) 0) [.arr 1 .bool [] [[.hw 1]], .arr 10 .bool [] [enc segT g]]) : EffGood P0 n args [] (.ptr 0 (.tl 0) 0) [.arr 1 .bool [] [[.hw 1]], .arr 10 segT [g] []] := fun own φ β w vs hV hW ht => by
  refine (h own φ β w vs hV hW ht).mono fun e w' ⟨v, φ', β', he, hr, hVr, hWI, htop⟩ => ?_
  have R0 := hWI.rel 0
  have R1 := hWI.rel 1
  simp only [List.getElem?_cons_zero, List.getElem?_cons_succ, Option.getD_some] at R0 R1
  rcases e1 : β' 1 with _ | (_ | q)
  · simp only [ObjRel, e1] at R1
  · simp only [ObjRel, e1] at R1
    exact absurd R1.2 (by simp)
  rcases e0 : β' 0 with _ | (_ | p)
  · simp only [ObjRel, e0] at R0
  · simp only [ObjRel, e0] at R0
    exact absurd R0.2 (by simp)
  simp only [ObjRel, e1] at R1
  simp only [ObjRel, e0] at R0
  obtain ⟨q1, q2, q3, q4, q5, q6, q7, q8, q9, q10⟩ := R1
  obtain ⟨p1, p2, p3, p4, p5, p6, p7, p8, p9, p10⟩ := R0
  obtain ⟨β2, hβ2⟩ : ∃ β2 : Beta, β2 = fun l => if l = 1 then some (some ⟨q.block, q.off, q.sz, 1, q.len⟩) else β' l := ⟨_, rfl⟩
  have g1 : β2 1 = some (some ⟨q.block, q.off, q.sz, 1, q.len⟩) := by rw [hβ2]; rfl
  have g0 : ∀ l, l ≠ 1 → β2 l = β' l := fun l hl => by rw [hβ2]; show (if l = 1 then _ else _) = _; rw [if_neg hl]
  refine ⟨v, φ', β2, he, ⟨hr.keeps, fun l hl => absurd hl (Nat.not_lt_zero _), hr.grow, hr.old⟩, ?_, ?_, fun l hl => by rw [g0 l (by simp at hl; omega)]; exact htop l hl⟩
  · simp only [V, e0] at hVr
    simp only [V, g0 0 (by decide), e0]
    exact hVr
  · refine ⟨fun l => ?_, fun l u hl hu => ?_, fun l m u u' hlm hl hm hu hu' => ?_, hWI.fresh, hWI.laid⟩
    · match l with
      | 0 =>
        simp only [List.getElem?_cons_zero, Option.getD_some, ObjRel, g0 0 (by decide), e0]
        refine ⟨p1, p2, p3, p4, p5, p6, p7, p8, p9, fun k e hk => ?_⟩
        obtain ⟨a, ds, d1, d2⟩ := p10 k e hk
        refine ⟨a, ds, ?_, d2⟩
        match k, hk with
        | 0, hk =>
          simp at hk
          subst hk
          simp only [VL, V, e1] at d1
          simp only [VL, V, g1]
          exact d1
      | 1 =>
        simp only [List.getElem?_cons_zero, List.getElem?_cons_succ, Option.getD_some, ObjRel, g1]
        simp only [List.length_cons, List.length_nil, Nat.zero_add] at q3 q10
        refine ⟨q1, rfl, q3, q4, fun _ => rfl, q6, q7, q8, fun k x hk => ?_, fun k e hk => by simp at hk⟩
        match k, hk with
        | 0, hk =>
          simp at hk
          subst hk
          obtain ⟨_, ds, d1, d2⟩ := q10 0 _ rfl
          exact ⟨ds, seg_of_cells d1, d2⟩
      | l + 2 => simp [ObjRel]
    · by_cases h1 : l = 1
      · subst h1
        rw [g1] at hu
        cases hu
        exact hWI.mine 1 q (by simp) e1
      · rw [g0 l h1] at hu
        match l, h1 with
        | 0, _ => exact hWI.mine 0 u (by simp) hu
        | l + 2, _ => exact absurd (by simp) hl
    · match l, m, hl, hm with
      | 0, 0, _, _ => exact absurd rfl hlm
      | 1, 1, _, _ => exact absurd rfl hlm
      | 0, 1, _, _ =>
        rw [g0 0 (by decide)] at hu
        rw [g1] at hu'
        cases hu'
        exact hWI.dist 0 1 u q hlm (by simp) (by simp) hu e1
      | 1, 0, _, _ =>
        rw [g0 0 (by decide)] at hu'
        rw [g1] at hu
        cases hu
        exact hWI.dist 1 0 q u' hlm (by simp) (by simp) e1 hu'
      | l + 2, _, hl, _ => exact absurd (by simp) hl
      | _, l + 2, _, hm => exact absurd (by simp) hm
def caseRnew : VCase := ⟨[], [], .lit (.ptr 0 (.tl 0) 0), docP, fun _ _ => [(true, ((), ((((), ()), ()), ([segTy.zero], ()), ())))]⟩
theorem rnew_ok : caseRnew.e.ok P0 I.f22 := fun _ _ r objs' hxy hw1 hw2 => by
  obtain ⟨z, hz, e0⟩ := pick_mapAlt hxy
  cases e0
  obtain ⟨_, rfl⟩ := pick_pre hz
  have h1 : (⟨[], [], .lit (.ptr 0 (.tl 0) 0), [.box 1 [[.lit (.hw 1)]], .box 10 [segP]], fun _ _ => [(true, ((), ((((), ()), ()), ((0, 0, 0, 0, [], false, false, false, 0, 0, ()), ()), ())))]⟩ : VCase).e.ok P0 I.f22 :=
    vcase_ok (H := H.f22) (E := env []) (env_ok env_nil) glob0 mixed0 G.f22 Bd.f22 (by kernel_rfl) noLoops fun _ _ r h hw1 hw2 => by
      obtain ⟨_, rfl⟩ := pick_pre h
      exact rnew_ev
  exact box_typed (h1 () () _ _ rfl hw1 hw2)
def rlowP (l : List Seg) : Int := (l.getD 0 segTy.zero).1
def lastS (l : List Seg) : Seg := l.getD (l.length - 1) segTy.zero
def rhighP (l : List Seg) : Int := (lastS l).2.1
def rremP (l : List Seg) : Bool := (l.getD 0 segTy.zero).2.2.2.2.2.2.2.1
def docB (l : List Seg) : Bool := decide (0 < l.length) && decide (l.length ≤ 1000000000)
theorem docB_at {l : List Seg} (h : docB l = true) : 0 < l.length ∧ l.length ≤ 1000000000 := by
  unfold docB at h
  simpa using h
theorem lastI {l : List Seg} (h : docB l = true) : IntKind.i64.wrap ((l.length : Int) - 1) = ((l.length - 1 : Nat) : Int) := by
  have := docB_at h
  rw [wrap64 (by omega) (by omega)]
  omega
def caseRlow : VCase := ⟨[.lit (.ptr 0 (.tl 0) 0)], [.box 1 [[.lit (.hw 1)]], .arr 10 segT []], .int .i64, [.box 1 [[.lit (.hw 1)]], .arr 10 segT []], fun ⟨_, _⟩ ⟨_, ⟨l, _⟩, _⟩ => [(docB l, (rlowP l, ((((), ()), ()), (l, ()), ())))]⟩
theorem rlow_val (l : List Seg) (hc : (docB l) = true) : evFn (env []) H.f16 (LPof []) F.f16 [.ptr 0 (.tl 0) 0] [.arr 1 .bool [] [[.hw 1]], .arr 10 segT l []] (finV (.int .i64) [.box 1 [[.lit (.hw 1)]], .arr 10 segT []] 2) = some (rlowP l, ((((), ()), ()), (l, ()), ())) := by
  have := docB_at hc
  rw [rlow_ev, cond_pos (by omega)]
  rfl
theorem rlow_ok : caseRlow.e.ok P0 I.f16 := vcase_ok (c := caseRlow) (H := H.f16) (E := env []) (env_ok env_nil) glob0 mixed0 G.f16 Bd.f16 (by kernel_rfl) noLoops fun ⟨_, _⟩ ⟨_, ⟨l, _⟩, _⟩ r h hw1 hw2 => by
  obtain ⟨hc, rfl⟩ := pick_pre h
  exact rlow_val l hc
def caseRhigh : VCase := ⟨[.lit (.ptr 0 (.tl 0) 0)], [.box 1 [[.lit (.hw 1)]], .arr 10 segT []], .int .i64, [.box 1 [[.lit (.hw 1)]], .arr 10 segT []], fun ⟨_, _⟩ ⟨_, ⟨l, _⟩, _⟩ => [(docB l, (rhighP l, ((((), ()), ()), (l, ()), ())))]⟩
theorem rhigh_val (l : List Seg) (hc : (docB l) = true) : evFn (env []) H.f15 (LPof []) F.f15 [.ptr 0 (.tl 0) 0] [.arr 1 .bool [] [[.hw 1]], .arr 10 segT l []] (finV (.int .i64) [.box 1 [[.lit (.hw 1)]], .arr 10 segT []] 2) = some (rhighP l, ((((), ()), ()), (l, ()), ())) := by
  have := docB_at hc
  rw [rhigh_ev, lastI hc, cond_pos2 (by omega) (by omega), Int.toNat_natCast]
  rfl
theorem rhigh_ok : caseRhigh.e.ok P0 I.f15 := vcase_ok (c := caseRhigh) (H := H.f15) (E := env []) (env_ok env_nil) glob0 mixed0 G.f15 Bd.f15 (by kernel_rfl) noLoops fun ⟨_, _⟩ ⟨_, ⟨l, _⟩, _⟩ r h hw1 hw2 => by
  obtain ⟨hc, rfl⟩ := pick_pre h
  exact rhigh_val l hc
def caseRrem : VCase := ⟨[.lit (.ptr 0 (.tl 0) 0)], [.box 1 [[.lit (.hw 1)]], .arr 10 segT []], .bool, [.box 1 [[.lit (.hw 1)]], .arr 10 segT []], fun ⟨_, _⟩ ⟨_, ⟨l, _⟩, _⟩ => [(docB l, (rremP l, ((((), ()), ()), (l, ()), ())))]⟩
theorem rrem_val (l : List Seg) (hc : (docB l) = true) : evFn (env []) H.f21 (LPof []) F.f21 [.ptr 0 (.tl 0) 0] [.arr 1 .bool [] [[.hw 1]], .arr 10 segT l []] (finV (.bool) [.box 1 [[.lit (.hw 1)]], .arr 10 segT []] 2) = some (rremP l, ((((), ()), ()), (l, ()), ())) := by
  have := docB_at hc
  rw [rrem_ev, cond_pos (by omega)]
  rfl
theorem rrem_ok : caseRrem.e.ok P0 I.f21 := vcase_ok (c := caseRrem) (H := H.f21) (E := env []) (env_ok env_nil) glob0 mixed0 G.f21 Bd.f21 (by kernel_rfl) noLoops fun ⟨_, _⟩ ⟨_, ⟨l, _⟩, _⟩ r h hw1 hw2 => by
  obtain ⟨hc, rfl⟩ := pick_pre h
  exact rrem_val l hc
noncomputable abbrev consW1 : List (FuncId × Con) := [(I.f26, .pure (pureOf [caseGreat])), (I.f16, .eff (effOf [caseRlow.e])), (I.f15, .eff (effOf [caseRhigh.e])), (I.f21, .eff (effOf [caseRrem.e])), (I.f22, .eff (effOf [caseRnew.e]))]
theorem consW1_ok : ∀ x ∈ consW1, HoldsC P0 x.1 x.2 := by
  intro x hx
  simp at hx
  rcases hx with rfl | rfl | rfl | rfl | rfl
  · exact ⟨pureOf_holds (by simp; exact gre_ok), C.f26⟩
  · exact ⟨fun args objs r objs2 h _ => effOf_holds (by simp; exact rlow_ok) args objs r objs2 h, C.f16⟩
  · exact ⟨fun args objs r objs2 h _ => effOf_holds (by simp; exact rhigh_ok) args objs r objs2 h, C.f15⟩
  · exact ⟨fun args objs r objs2 h _ => effOf_holds (by simp; exact rrem_ok) args objs r objs2 h, C.f21⟩
  · exact ⟨fun args objs r objs2 h _ => effOf_holds (by simp; exact rnew_ok) args objs r objs2 h, C.f22⟩
theorem rseal_ev (l : List Seg) : evFnM 1 (env consW1) H.f20 (LPof []) F.f20 [.ptr 0 (.tl 0) 0] [.arr 1 .bool [] [[.hw 1]], .arr 10 segT l []] (finVM (.lit (.tup [])) docQ 1 2) = bif decide ((0 : Int) ≤ IntKind.i64.wrap ((↑l.length : Int) - (1 : Int))) && decide (IntKind.i64.wrap ((↑l.length : Int) - (1 : Int)) < (↑l.length : Int)) then bif decide ((0 : Int) ≤ IntKind.i64.wrap ((↑l.length : Int) - (1 : Int))) && decide (IntKind.i64.wrap ((↑l.length : Int) - (1 : Int)) < (↑l.length : Int)) then bif (l.getD (IntKind.i64.wrap ((↑l.length : Int) - (1 : Int))).toNat segTy.zero).1 == (l.getD (IntKind.i64.wrap ((↑l.length : Int) - (1 : Int))).toNat segTy.zero).2.1 then some ((), (((), ()), ()), (), (l, ()), ()) else bif decide ((0 : Int) ≤ IntKind.i64.wrap ((↑l.length : Int) - (1 : Int))) && decide (IntKind.i64.wrap ((↑l.length : Int) - (1 : Int)) < (↑l.length : Int)) then Option.bind (bif l.length.ble l.length then some (l.set (IntKind.i64.wrap ((↑l.length : Int) - (1 : Int))).toNat ((l.getD (IntKind.i64.wrap ((↑l.length : Int) - (1 : Int))).toNat segTy.zero).1, (l.getD (IntKind.i64.wrap ((↑l.length : Int) - (1 : Int))).toNat segTy.zero).2.1, (l.getD (IntKind.i64.wrap ((↑l.length : Int) - (1 : Int))).toNat segTy.zero).2.2.1, (l.getD (IntKind.i64.wrap ((↑l.length : Int) - (1 : Int))).toNat segTy.zero).2.2.2.1, (l.getD (IntKind.i64.wrap ((↑l.length : Int) - (1 : Int))).toNat segTy.zero).2.2.2.2.1, true, (l.getD (IntKind.i64.wrap ((↑l.length : Int) - (1 : Int))).toNat segTy.zero).2.2.2.2.2.2)) else none) fun v => bif decide ((0 : Int) ≤ IntKind.i64.wrap ((↑l.length : Int) - (1 : Int))) && decide (IntKind.i64.wrap ((↑l.length : Int) - (1 : Int)) < (↑v.length : Int)) then bif decide ((0 : Int) ≤ IntKind.i64.wrap ((↑l.length : Int) - (1 : Int))) && decide (IntKind.i64.wrap ((↑l.length : Int) - (1 : Int)) < (↑v.length : Int)) then Option.bind (bif v.length.ble v.length then some (v.set (IntKind.i64.wrap ((↑l.length : Int) - (1 : Int))).toNat ((v.getD (IntKind.i64.wrap ((↑l.length : Int) - (1 : Int))).toNat segTy.zero).1, (v.getD (IntKind.i64.wrap ((↑l.length : Int) - (1 : Int))).toNat segTy.zero).2.1, latS (v.getD (IntKind.i64.wrap ((↑l.length : Int) - (1 : Int))).toNat segTy.zero).2.2.2.2.1, (v.getD (IntKind.i64.wrap ((↑l.length : Int) - (1 : Int))).toNat segTy.zero).2.2.2)) else none) fun v => bif decide ((0 : Int) ≤ IntKind.i64.wrap ((↑l.length : Int) - (1 : Int))) && decide (IntKind.i64.wrap ((↑l.length : Int) - (1 : Int)) < (↑v.length : Int)) then bif decide ((0 : Int) ≤ IntKind.i64.wrap ((↑l.length : Int) - (1 : Int))) && decide (IntKind.i64.wrap ((↑l.length : Int) - (1 : Int)) < (↑v.length : Int)) then bif decide ((v ++ [((v.getD (IntKind.i64.wrap ((↑l.length : Int) - (1 : Int))).toNat segTy.zero).2.1, (v.getD (IntKind.i64.wrap ((↑l.length : Int) - (1 : Int))).toNat segTy.zero).2.1, (0 : Int), (0 : Int), [], false, false, false, (0 : Int), (0 : Int))]).length * 80 ≤ 140737488355328) then some ((), (((), ()), ()), (), (v ++ [((v.getD (IntKind.i64.wrap ((↑l.length : Int) - (1 : Int))).toNat segTy.zero).2.1, (v.getD (IntKind.i64.wrap ((↑l.length : Int) - (1 : Int))).toNat segTy.zero).2.1, (0 : Int), (0 : Int), [], false, false, false, (0 : Int), (0 : Int))], ()), ()) else none else none else none else none else none else none else none else none := by kernel_rfl
theorem setD_getL {f : List Seg} {i : Nat} (h : i < f.length) (g : Seg) : (f.set i g).getD i segTy.zero = g := by
  rw [List.getD_eq_getElem?_getD, List.getElem?_set_self h]
  rfl
theorem ble_selfL (n : Nat) : Nat.ble n n = true := Nat.ble_eq_true_of_le (Nat.le_refl n)
def emptyS (n : Int) : Seg := (n, n, 0, 0, [], false, false, false, 0, 0)
def sealG (g : Seg) : Seg := (g.1, g.2.1, latS g.2.2.2.2.1, g.2.2.2.1, g.2.2.2.2.1, true, g.2.2.2.2.2.2)
def rsealP (l : List Seg) : List Seg := bif (lastS l).1 == (lastS l).2.1 then l else l.set (l.length - 1) (sealG (lastS l)) ++ [emptyS (lastS l).2.1]
def caseRseal : VCase := ⟨[.lit (.ptr 0 (.tl 0) 0)], docP, .lit (.tup []), docQ, fun _ ⟨_, ⟨l, _⟩, _⟩ => [(docB l, ((), ((((), ()), ()), (), (rsealP l, ()), ())))]⟩
theorem rseal_val (l : List Seg) (hc : docB l = true) : evFnM 1 (env consW1) H.f20 (LPof []) F.f20 [.ptr 0 (.tl 0) 0] [.arr 1 .bool [] [[.hw 1]], .arr 10 segT l []] (finVM (.lit (.tup [])) docQ 1 2) = some ((), ((((), ()), ()), (), (rsealP l, ()), ())) := by
  have h := docB_at hc
  rw [rseal_ev, lastI hc, cond_pos2 (by omega) (by omega), Int.toNat_natCast]
  unfold rsealP lastS
  cases (l.getD (l.length - 1) segTy.zero).1 == (l.getD (l.length - 1) segTy.zero).2.1 with
  | true => rw [cond_pos2 (by omega) (by omega)]; rfl
  | false =>
    rw [cond_pos2 (by omega) (by omega), cond_false, cond_pos2 (by omega) (by omega), cond_false]
    have hlt : l.length - 1 < l.length := by omega
    simp only [ble_selfL, cond_true, Option.bind_some, List.length_set, setD_getL hlt, List.set_set]
    rw [cond_pos2 (by omega) (by omega), cond_pos2 (by omega) (by omega)]
    rw [cond_pos2 (by omega) (by omega), cond_pos2 (by omega) (by omega), cond_pos (by simp; omega)]
    rfl
theorem rseal_ok : caseRseal.e.ok P0 I.f20 := vcase_okM (c := caseRseal) (H := H.f20) (E := env consW1) (env_ok consW1_ok) glob0 mixed0 G.f20 Bd.f20 1 rfl (by kernel_rfl) noLoops fun _ ⟨_, ⟨l, _⟩, _⟩ r h hw1 hw2 => by
  obtain ⟨hc, rfl⟩ := pick_pre h
  exact rseal_val l hc
end Go.Sim
