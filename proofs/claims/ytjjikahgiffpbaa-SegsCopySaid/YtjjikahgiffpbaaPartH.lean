/-
  WkUK: a log's segments copied, the last one's records open: all, Copy. · WkWA: one call, by both logs. · WkWB: rows of calls, by both logs: SegsRight, SegsRetains. · WkWG: the document's segments copied; both logs compared. · WkUL: Of, the last segment's records open. · WkWH: the law SegsCopy. · WkWI: the law SegsCopy.
-/
import Derived.Test.YtjjikahgiffpbaaPartG
namespace Go.Sim
set_option linter.unusedSimpArgs false
set_option linter.unusedVariables false
set_option maxRecDepth 10000
def H.rcloneL : Hint := { H.f72 with vs := [], lg := [(2, 27)] }
theorem rcloneL_ev (xs : List Rec) : evFn (env []) H.rcloneL (LPof []) F.f72 [.vl recT xs] [] (finV (.lit (.hw 0)) [.log recT] 0) = bif decide (0 < xs.length) then bif decide (([] ++ xs).length * 56 ≤ 140737488355328) then some ((), [] ++ xs, ()) else none else none := by kernel_rfl
theorem rcloneL0_ev (b : Bool) : evFn (env []) H.rcloneL (LPof []) F.f72 [.ve b] [] (finV (.lit (.hw 0)) [.log recT] 0) = bif b then some ((), [], ()) else some ((), [] ++ [], ()) := by kernel_rfl
theorem rcloneL_zero (b : Bool) : EffGood P0 I.f72 [.ve b] [] (.hw 0) [.log recT []] :=
  eff_of_ev (H := H.rcloneL) (E := env []) (env_ok env_nil) glob0 mixed0 G.f72 Bd.f72 (args := [.ve b]) (objs := []) (by kernel_rfl) (out := .lit (.hw 0)) (outs := [.log recT]) (LP := LPof []) noLoops (a := ()) (b := ([], ())) ((rcloneL0_ev b).trans (by cases b <;> rfl))
def caseRcloneLA : VCase := ⟨[.vl recT], [], .lit (.hw 0), [.log recT], fun ⟨xs, _⟩ _ => [(decide (0 < List.length xs) && decide (List.length xs ≤ 1000000000), ((), (xs, ())))]⟩
theorem rcloneLA_ok : caseRcloneLA.e.ok P0 I.f72 := vcase_ok (c := caseRcloneLA) (H := H.rcloneL) (E := env []) (env_ok env_nil) glob0 mixed0 G.f72 Bd.f72 (by kernel_rfl) noLoops fun ⟨xs, _⟩ _ r h hw1 hw2 => by
  obtain ⟨hc, rfl⟩ := pick_pre h
  simp only [Bool.and_eq_true, decide_eq_true_eq] at hc
  refine (rcloneL_ev xs).trans ?_
  rw [cond_pos hc.1, List.nil_append, cond_pos (by omega)]
  rfl
def caseRcloneL : VCase := ⟨[.vl recT], [], .lit (.hw 0), [.log recT], fun ⟨xs, _⟩ _ => [(decide (List.length xs ≤ 1000000000), ((), (xs, ())))]⟩
theorem rcloneL_ok : caseRcloneL.e.ok P0 I.f72 := fun ⟨xs, _⟩ _ r objs' hxy hw1 hw2 => by
  obtain ⟨z, hz, e0⟩ := pick_mapAlt hxy
  cases e0
  obtain ⟨hc, rfl⟩ := pick_pre hz
  by_cases h0 : 0 < List.length xs
  · refine rcloneLA_ok (xs, ()) () (.hw 0) [.log recT xs] ?_ hw1 hw2
    show pick (mapAlt _ [(decide (0 < List.length xs) && decide (List.length xs ≤ 1000000000), _)]) = _
    rw [decide_eq_true h0, hc]
    rfl
  · obtain rfl : xs = [] := List.eq_nil_of_length_eq_zero (by omega)
    intro own φ β w vs hV hW ht
    obtain ⟨u, us, rfl, hu, hus⟩ : ∃ u us, vs = u :: us ∧ V φ β w (.vl recT []) u ∧ VL φ β w [] us := hV
    simp only [VL] at hus
    subst hus
    simp only [V, Vt] at hu
    obtain ⟨_, A, cap, hu, _⟩ := hu
    simp at hu
    subst hu
    exact rcloneL_zero A.isNone own φ β w _ ⟨_, [], rfl, ⟨A, cap, rfl, rfl⟩, rfl⟩ hW ht
noncomputable abbrev consK1 : List (FuncId × Con) := [(I.f72, .eff (effOf [caseRcloneL.e]))]
theorem consK1_ok : ∀ x ∈ consK1, HoldsC P0 x.1 x.2 := by
  intro x hx
  simp at hx
  subst hx
  exact ⟨fun args objs r objs2 h _ => effOf_holds (by simp; exact rcloneL_ok) args objs r objs2 h, C.f72⟩
def H.copiedL : Hint := { H.f66 with vs := [4] }
noncomputable abbrev consK2L : List (FuncId × Con) := [(I.f66, inl (env consK1) H.copiedL F.f66 (fun R k0 => loopsF (env consK1) H.copiedL k0 B.f66 1))]
theorem consK2L_ok : ∀ x ∈ consK2L, HoldsC P0 x.1 x.2 := by
  intro x hx
  simp at hx
  subst hx
  exact inl_ok (env_ok consK1_ok) glob0 mixed0 G.f66 Bd.f66 C.f66 (fun R k0 => loopsF_good (env_ok consK1_ok) glob0 mixed0 (by kernel_rfl) 1)
def H.allL : Hint := { H.f65 with vs := [] }
abbrev actW (b n z : Int) (k : Nat) : List AV := [.int .i64 b, .int .i64 n, .int .i64 0, .int .i64 0, .hw k, .bool false, .bool false, .bool false, .int .i64 z, .int .u32 0]
abbrev actWP (k : Nat) : List Pat := [.int .i64, .int .i64, .lit (.int .i64 0), .lit (.int .i64 0), .lit (.hw k), .lit (.bool false), .lit (.bool false), .lit (.bool false), .int .i64, .lit (.int .u32 0)]
abbrev segO (g : Seg) (k : Nat) : List AV := [.int .i64 g.1, .int .i64 g.2.1, .int .i64 g.2.2.1, .int .i64 g.2.2.2.1, .hw k, .bool g.2.2.2.2.2.1, .bool g.2.2.2.2.2.2.1, .bool g.2.2.2.2.2.2.2.1, .int .i64 g.2.2.2.2.2.2.2.2.1, .int .u32 g.2.2.2.2.2.2.2.2.2]
theorem al0_rd {R : Type} (m i : Int) (f : List Seg) (b n z : Int) (rs : List Rec) (K : Ex → St → Option R) : roundK (env consK2L) H.allL 2 (LPof []) V.f65_3 L.f65_3 ⟨[(3, .hw 2), (6, .hw 0), (7, .int .i64 m), (8, .int .i64 i)], [(0, .arr 10 segT f [actR b n z]), (1, .log recT rs), (2, .arr 10 segT [] [])], 3⟩ K = bif decide (i < m) then bif decide ((0 : Int) ≤ i) && decide (i < (↑(f.length + 1) : Int)) then bif decide (i.toNat < f.length) then bif decide (List.length (f.getD i.toNat segTy.zero).2.2.2.2.1 ≤ 1000000000) then K .normal { slots := [(3, .hw 2), (6, .hw 0), (7, .int .i64 m), (8, .int .i64 (IntKind.i64.wrap (i + (1 : Int))))], objs := [(0, .arr 10 segTy f [[.int .i64 b, .int .i64 n, .int .i64 (0 : Int), .int .i64 (0 : Int), .hw 1, .bool false, .bool false, .bool false, .int .i64 z, .int .u32 (0 : Int)]]), (1, .log recTy rs), (2, .arr 10 segTy [] [[.int .i64 (f.getD i.toNat segTy.zero).1, .int .i64 (f.getD i.toNat segTy.zero).2.1, .int .i64 (f.getD i.toNat segTy.zero).2.2.1, .int .i64 (f.getD i.toNat segTy.zero).2.2.2.1, .hw 3, .bool (f.getD i.toNat segTy.zero).2.2.2.2.2.1, .bool (f.getD i.toNat segTy.zero).2.2.2.2.2.2.1, .bool (f.getD i.toNat segTy.zero).2.2.2.2.2.2.2.1, .int .i64 (f.getD i.toNat segTy.zero).2.2.2.2.2.2.2.2.1, .int .u32 (f.getD i.toNat segTy.zero).2.2.2.2.2.2.2.2.2]]), (3, .log recTy (f.getD i.toNat segTy.zero).2.2.2.2.1)], nx := 4 } else none else bif decide (i.toNat - f.length = 0) then bif decide (rs.length ≤ 1000000000) then K .normal { slots := [(3, .hw 2), (6, .hw 0), (7, .int .i64 m), (8, .int .i64 (IntKind.i64.wrap (i + (1 : Int))))], objs := [(0, .arr 10 segTy f [[.int .i64 b, .int .i64 n, .int .i64 (0 : Int), .int .i64 (0 : Int), .hw 1, .bool false, .bool false, .bool false, .int .i64 z, .int .u32 (0 : Int)]]), (1, .log recTy rs), (2, .arr 10 segTy [] [[.int .i64 b, .int .i64 n, .int .i64 (0 : Int), .int .i64 (0 : Int), .hw 3, .bool false, .bool false, .bool false, .int .i64 z, .int .u32 (0 : Int)]]), (3, .log recTy rs)], nx := 4 } else none else none else none else K (.exit 0) { slots := [(3, .hw 2), (6, .hw 0), (7, .int .i64 m), (8, .int .i64 i)], objs := [(0, .arr 10 segTy f [[.int .i64 b, .int .i64 n, .int .i64 (0 : Int), .int .i64 (0 : Int), .hw 1, .bool false, .bool false, .bool false, .int .i64 z, .int .u32 (0 : Int)]]), (1, .log recTy rs), (2, .arr 10 segTy [] [])], nx := 3 } := by kernel_rfl
theorem al1_rd {R : Type} (m i : Int) (f o : List Seg) (g : Seg) (b n z : Int) (rs : List Rec) (K : Ex → St → Option R) : roundK (env consK2L) H.allL 2 (LPof []) V.f65_3 L.f65_3 ⟨[(3, .hw 2), (6, .hw 0), (7, .int .i64 m), (8, .int .i64 i)], [(0, .arr 10 segT f [actR b n z]), (1, .log recT rs), (2, .arr 10 segT o [segO g 3]), (3, .log recT g.2.2.2.2.1)], 4⟩ K = bif decide (i < m) then bif decide ((0 : Int) ≤ i) && decide (i < (↑(f.length + 1) : Int)) then bif decide (i.toNat < f.length) then bif decide (List.length (f.getD i.toNat segTy.zero).2.2.2.2.1 ≤ 1000000000) then bif decide ((o.length + 2) * 80 ≤ 140737488355328) then K .normal { slots := [(3, .hw 2), (6, .hw 0), (7, .int .i64 m), (8, .int .i64 (IntKind.i64.wrap (i + (1 : Int))))], objs := [(0, .arr 10 segTy f [[.int .i64 b, .int .i64 n, .int .i64 (0 : Int), .int .i64 (0 : Int), .hw 1, .bool false, .bool false, .bool false, .int .i64 z, .int .u32 (0 : Int)]]), (1, .log recTy rs), (2, .arr 10 segTy (o ++ [g]) [[.int .i64 (f.getD i.toNat segTy.zero).1, .int .i64 (f.getD i.toNat segTy.zero).2.1, .int .i64 (f.getD i.toNat segTy.zero).2.2.1, .int .i64 (f.getD i.toNat segTy.zero).2.2.2.1, .hw 3, .bool (f.getD i.toNat segTy.zero).2.2.2.2.2.1, .bool (f.getD i.toNat segTy.zero).2.2.2.2.2.2.1, .bool (f.getD i.toNat segTy.zero).2.2.2.2.2.2.2.1, .int .i64 (f.getD i.toNat segTy.zero).2.2.2.2.2.2.2.2.1, .int .u32 (f.getD i.toNat segTy.zero).2.2.2.2.2.2.2.2.2]]), (3, .log recTy (f.getD i.toNat segTy.zero).2.2.2.2.1)], nx := 4 } else none else none else bif decide (i.toNat - f.length = 0) then bif decide (rs.length ≤ 1000000000) then bif decide ((o.length + 2) * 80 ≤ 140737488355328) then K .normal { slots := [(3, .hw 2), (6, .hw 0), (7, .int .i64 m), (8, .int .i64 (IntKind.i64.wrap (i + (1 : Int))))], objs := [(0, .arr 10 segTy f [[.int .i64 b, .int .i64 n, .int .i64 (0 : Int), .int .i64 (0 : Int), .hw 1, .bool false, .bool false, .bool false, .int .i64 z, .int .u32 (0 : Int)]]), (1, .log recTy rs), (2, .arr 10 segTy (o ++ [g]) [[.int .i64 b, .int .i64 n, .int .i64 (0 : Int), .int .i64 (0 : Int), .hw 3, .bool false, .bool false, .bool false, .int .i64 z, .int .u32 (0 : Int)]]), (3, .log recTy rs)], nx := 4 } else none else none else none else none else K (.exit 0) { slots := [(3, .hw 2), (6, .hw 0), (7, .int .i64 m), (8, .int .i64 i)], objs := [(0, .arr 10 segTy f [[.int .i64 b, .int .i64 n, .int .i64 (0 : Int), .int .i64 (0 : Int), .hw 1, .bool false, .bool false, .bool false, .int .i64 z, .int .u32 (0 : Int)]]), (1, .log recTy rs), (2, .arr 10 segTy o [[.int .i64 g.1, .int .i64 g.2.1, .int .i64 g.2.2.1, .int .i64 g.2.2.2.1, .hw 3, .bool g.2.2.2.2.2.1, .bool g.2.2.2.2.2.2.1, .bool g.2.2.2.2.2.2.2.1, .int .i64 g.2.2.2.2.2.2.2.2.1, .int .u32 g.2.2.2.2.2.2.2.2.2]]), (3, .log recTy g.2.2.2.2.1)], nx := 4 } := by kernel_rfl
def alkSt (M : LogS) (i : Nat) : St := ⟨[(3, .hw 2), (6, .hw 0), (7, .int .i64 (M.1.length + 1 : Nat)), (8, .int .i64 (i + 1 : Nat))], [(0, .arr 10 segT M.1 [actR M.2.1 M.2.2.1 M.2.2.2.1]), (1, .log recT M.2.2.2.2), (2, .arr 10 segT ((segsL M).take i) [segO ((segsL M).getD i segTy.zero) 3]), (3, .log recT ((segsL M).getD i segTy.zero).2.2.2.2.1)], 4⟩
theorem alk_rounds {R : Type} (M : LogS) (h1 : M.1.length ≤ 1000000000) (h2 : M.1.all smallS = true) (h3 : M.2.2.2.2.length ≤ 1000000000) (K : Ex → St → Option R) : ∀ (m i : Nat), i + m = M.1.length → rounds (env consK2L) H.allL 2 (LPof []) V.f65_3 L.f65_3 (m + 1) (alkSt M i) K = K (.exit 0) (alkSt M M.1.length)
  | 0, i, h => by
    obtain rfl : i = M.1.length := by omega
    rw [rounds_succ']
    refine (al1_rd _ _ _ _ _ _ _ _ _ _).trans ?_
    rw [cond_neg (by omega)]
    rfl
  | m + 1, i, h => by
    have ih := alk_rounds M h1 h2 h3 K m (i + 1) (by omega)
    have e1 := stake_snoc (l := segsL M) (i := i) (by rw [segsL_len]; omega)
    have e3 : IntKind.i64.wrap (((i + 1 : Nat) : Int) + 1) = ((i + 1 + 1 : Nat) : Int) := by rw [wrap64 (by omega) (by omega)]; omega
    have e4 : ((segsL M).take i).length = i := by rw [List.length_take, segsL_len]; omega
    unfold alkSt at ih
    rw [e1] at ih
    rw [rounds_succ']
    refine (al1_rd _ _ _ _ _ _ _ _ _ _).trans ?_
    rw [cond_pos (by omega), cond_pos2 (by omega) (by omega), Int.toNat_natCast, e3, e4]
    by_cases hi : i + 1 < M.1.length
    · have h5 := small_at h2 hi
      rw [segsL_lt hi] at ih
      rw [cond_pos hi, cond_pos h5, cond_pos (by omega)]
      exact ih
    · have hi2 : i + 1 = M.1.length := by omega
      have hl : (segsL M).getD (i + 1) segTy.zero = actS M := by rw [hi2]; exact segsL_last M
      rw [hl] at ih
      rw [cond_neg hi, cond_pos (by omega), cond_pos h3, cond_pos (by omega)]
      exact ih
theorem al_go (M : LogS) (h1 : M.1.length ≤ 1000000000) (h2 : M.1.all smallS = true) (h3 : M.2.2.2.2.length ≤ 1000000000) : ∃ n, rounds (env consK2L) H.allL 2 (LPof []) V.f65_3 L.f65_3 n ⟨[(3, .hw 2), (6, .hw 0), (7, .int .i64 (M.1.length + 1 : Nat)), (8, .int .i64 0)], [(0, .arr 10 segT M.1 [actR M.2.1 M.2.2.1 M.2.2.2.1]), (1, .log recT M.2.2.2.2), (2, .arr 10 segT [] [])], 3⟩ (fun e s => some (e, s)) =
    some (.exit 0, ⟨[(3, .hw 2), (6, .hw 0), (7, .int .i64 (M.1.length + 1 : Nat)), (8, .int .i64 (M.1.length + 1 : Nat))], [(0, .arr 10 segT M.1 [actR M.2.1 M.2.2.1 M.2.2.2.1]), (1, .log recT M.2.2.2.2), (2, .arr 10 segT M.1 [actW M.2.1 M.2.2.1 M.2.2.2.1 3]), (3, .log recT M.2.2.2.2)], 4⟩) := by
  refine ⟨M.1.length + 1 + 1, ?_⟩
  have hr := alk_rounds M h1 h2 h3 (fun e s => some (e, s)) M.1.length 0 (Nat.zero_add _)
  have hend : alkSt M M.1.length = ⟨[(3, .hw 2), (6, .hw 0), (7, .int .i64 (M.1.length + 1 : Nat)), (8, .int .i64 (M.1.length + 1 : Nat))], [(0, .arr 10 segT M.1 [actR M.2.1 M.2.2.1 M.2.2.2.1]), (1, .log recT M.2.2.2.2), (2, .arr 10 segT M.1 [actW M.2.1 M.2.2.1 M.2.2.2.1 3]), (3, .log recT M.2.2.2.2)], 4⟩ := by
    unfold alkSt
    rw [segsL_last]
    have : (segsL M).take M.1.length = M.1 := by unfold segsL; exact List.take_left' rfl
    rw [this]
    rfl
  rw [hend] at hr
  rw [rounds_succ']
  refine (al0_rd _ _ _ _ _ _ _ _).trans ?_
  have e3 : IntKind.i64.wrap ((0 : Int) + 1) = ((0 + 1 : Nat) : Int) := by rw [wrap64 (by omega) (by omega)]; omega
  rw [cond_pos (by omega), cond_pos2 (by omega) (by omega), e3]
  by_cases hi : 0 < M.1.length
  · have h5 : (M.1.getD (0 : Int).toNat segTy.zero).2.2.2.2.1.length ≤ 1000000000 := small_at h2 hi
    have e0 : (segsL M).getD 0 segTy.zero = M.1.getD 0 segTy.zero := segsL_lt hi
    unfold alkSt at hr
    rw [e0] at hr
    rw [cond_pos (show (0 : Int).toNat < M.1.length from hi), cond_pos h5]
    exact hr
  · have hz : M.1.length = 0 := by omega
    have e0 : (segsL M).getD 0 segTy.zero = actS M := by have := segsL_last M; rw [hz] at this; exact this
    unfold alkSt at hr
    rw [e0] at hr
    rw [cond_neg (show ¬ (0 : Int).toNat < M.1.length from hi), cond_pos (show (0 : Int).toNat - M.1.length = 0 by simp), cond_pos h3]
    exact hr
abbrev alOLC : LoopC := LoopC.of ⟨[(3, .lit (.hw 2)), (6, .lit (.hw 0)), (7, .int .i64), (8, .int .i64)], [.arr 10 segT [actRP], .log recT, .arr 10 segT []]⟩
  (fun ⟨⟨_, _, m, i, _⟩, ⟨⟨f, ⟨b, n, _, _, _, _, _, _, z, _, _⟩, _⟩, rs, ⟨o, _⟩, _⟩⟩ => decide (i = (0 : Int)) && decide (m = ((List.length f + 1 : Nat) : Int)) && List.isEmpty o && smallL f && decide (List.length rs ≤ 1000000000))
  fun ⟨⟨_, _, m, i, _⟩, ⟨⟨f, ⟨b, n, _, _, _, _, _, _, z, _, _⟩, _⟩, rs, ⟨o, _⟩, _⟩⟩ => [(true, .exit 0, ⟨[(3, .hw 2), (6, .hw 0), (7, .int .i64 (List.length f + 1 : Nat)), (8, .int .i64 (List.length f + 1 : Nat))], [(0, .arr 10 segT f [actR b n z]), (1, .log recT rs), (2, .arr 10 segT f [actW b n z 3]), (3, .log recT rs)], 4⟩)]
theorem alO_lok : LoopOK P0 H.allL 2 L.f65_3 alOLC :=
  loop_ok_of (env_ok consK2L_ok) glob0 mixed0 noLoops V.f65_3 (by decide) fun ⟨⟨_, _, m, i, _⟩, ⟨⟨f, ⟨b, n, _, _, _, _, _, _, z, _, _⟩, _⟩, rs, ⟨o, _⟩, _⟩⟩ h hw => by
    simp only [Bool.and_eq_true, decide_eq_true_eq, List.isEmpty_iff] at h
    obtain ⟨⟨⟨⟨rfl, rfl⟩, rfl⟩, h4⟩, h5⟩ := h
    unfold smallL at h4
    simp only [Bool.and_eq_true, decide_eq_true_eq] at h4
    exact al_go (f, b, n, z, rs) h4.1 h4.2 h5
theorem allO_ev (f : List Seg) (b n z : Int) (rs : List Rec) : evFn (env consK2L) H.allL (LPof [(3, alOLC)]) F.f65 [.hw 0] [.arr 10 segT f [actR b n z], .log recT rs] (finV (.lit (.hw 2)) [.arr 10 segT [actRP], .log recT, .arr 10 segT [actWP 3], .log recT] 2) = bif decide ((↑(f.length + 1) : Int) = (↑(f.length + 1) : Int)) && true && smallL f && decide (rs.length ≤ 1000000000) && true then some ((), (f, (b, n, (), (), (), (), (), (), z, (), ()), ()), rs, (f, (b, n, (), (), (), (), (), (), z, (), ()), ()), rs, ()) else none := by kernel_rfl
abbrev copyOut : List OPat := [.arr 10 segT [actRP], .log recT, .arr 10 segT [actWP 3], .log recT]
def caseAllO : VCase := ⟨[.lit (.hw 0)], [.arr 10 segT [actRP], .log recT], .lit (.hw 2), copyOut, fun _ ⟨⟨f, ⟨b, n, _, _, _, _, _, _, z, _, _⟩, _⟩, rs, _⟩ => [(smallL f && decide (List.length rs ≤ 1000000000), ((), ((f, (b, n, (), (), (), (), (), (), z, (), ()), ()), rs, (f, (b, n, (), (), (), (), (), (), z, (), ()), ()), rs, ())))]⟩
theorem allO_ok : caseAllO.e.ok P0 I.f65 := vcase_ok (c := caseAllO) (H := H.allL) (E := env consK2L) (env_ok consK2L_ok) glob0 mixed0 G.f65 Bd.f65 (by kernel_rfl) (loops_good (tab := [(3, alOLC)]) (by kernel_rfl) (fun x hx => by simp at hx; subst hx; exact alO_lok)) fun _ ⟨⟨f, ⟨b, n, _, _, _, _, _, _, z, _, _⟩, _⟩, rs, _⟩ r h hw1 hw2 => by
  obtain ⟨hc, rfl⟩ := pick_pre h
  refine (allO_ev f b n z rs).trans ?_
  have hc : (smallL f && decide (List.length rs ≤ 1000000000)) = true := hc
  simp only [Bool.and_eq_true] at hc
  rw [hc.1, hc.2]
  simp only [decide_true, Bool.and_self, cond_true]
  rfl
noncomputable abbrev consCp : List (FuncId × Con) := [(I.f65, .eff (effOf [caseAllO.e]))]
theorem consCp_ok : ∀ x ∈ consCp, HoldsC P0 x.1 x.2 := by
  intro x hx
  simp at hx
  subst hx
  exact ⟨fun args objs r objs2 h _ => effOf_holds (by simp; exact allO_ok) args objs r objs2 h, C.f65⟩
theorem copy_ev (f : List Seg) (b n z : Int) (rs : List Rec) : evFn (env consCp) H.f50 (LPof []) F.f50 [.ptr 0 (.tl 0) 0] [.arr 1 .bool [] [[.hw 1]], .arr 10 segT f [actW b n z 2], .log recT rs] (finV (.lit (.ptr 3 (.tl 0) 0)) [.box 1 [[.lit (.hw 1)]], .arr 10 segT [actWP 2], .log recT, .box 1 [[.lit (.hw 4)]], .arr 10 segT [actWP 5], .log recT] 3) = bif smallL f && decide (rs.length ≤ 1000000000) then some ((), (((), ()), ()), (f, (b, n, (), (), (), (), (), (), z, (), ()), ()), rs, (((), ()), ()), (f, (b, n, (), (), (), (), (), (), z, (), ()), ()), rs, ()) else none := by kernel_rfl
abbrev copyLP : List OPat := [.box 1 [[.lit (.hw 1)]], .arr 10 segT [actWP 2], .log recT, .box 1 [[.lit (.hw 4)]], .arr 10 segT [actWP 5], .log recT]
def caseCopy : VCase := ⟨[.lit (.ptr 0 (.tl 0) 0)], [.box 1 [[.lit (.hw 1)]], .arr 10 segT [actWP 2], .log recT], .lit (.ptr 3 (.tl 0) 0), copyLP, fun _ ⟨_, ⟨f, ⟨b, n, _, _, _, _, _, _, z, _, _⟩, _⟩, rs, _⟩ => [(smallL f && decide (List.length rs ≤ 1000000000), ((), ((((), ()), ()), (f, (b, n, (), (), (), (), (), (), z, (), ()), ()), rs, (((), ()), ()), (f, (b, n, (), (), (), (), (), (), z, (), ()), ()), rs, ())))]⟩
theorem copy_ok : caseCopy.e.ok P0 I.f50 := vcase_ok (c := caseCopy) (H := H.f50) (E := env consCp) (env_ok consCp_ok) glob0 mixed0 G.f50 Bd.f50 (by kernel_rfl) noLoops fun _ ⟨_, ⟨f, ⟨b, n, _, _, _, _, _, _, z, _, _⟩, _⟩, rs, _⟩ r h hw1 hw2 => by
  obtain ⟨hc, rfl⟩ := pick_pre h
  refine (copy_ev f b n z rs).trans ?_
  have hc : (smallL f && decide (List.length rs ≤ 1000000000)) = true := hc
  rw [hc]
  rfl
end Go.Sim
namespace Go.Sim
set_option linter.unusedSimpArgs false
set_option linter.unusedVariables false
set_option maxRecDepth 10000
theorem num_ev (n : Int) : evFn (env []) H.f7 (LPof []) F.f7 [.int .i64 n] [] (finT [.int .i64]) = some (n, ()) := by kernel_rfl
def caseNum : PCase := ⟨[.ty (.int .i64)], [.int .i64], fun x => (fun (n : Int) => [(true, (n, ()))]) x.1⟩
theorem num_val (n : Int) : evFn (env []) H.f7 (LPof []) F.f7 [.int .i64 n] [] (finT [.int .i64]) = some (n, ()) := by
  exact num_ev n
theorem num_ok : caseNum.ok P0 I.f7 := case_ok2 (H := H.f7) (E := env []) (env_ok env_nil) glob0 mixed0 G.f7 Bd.f7 (by kernel_rfl) noLoops fun ⟨n, ()⟩ y h hw => by
  obtain ⟨hc, rfl⟩ := pick_pre h
  exact num_val n
noncomputable abbrev consDo : List (FuncId × Con) := [(I.f7, .pure (pureOf [caseNum])), (I.f48, .eff (effOf [caseAppend.e])), (I.f60, .eff (effOf [caseSeal.e])), (I.f49, .eff (effOf [caseClean.e])), (I.f59, .eff (effOf [caseRetain.e])), (I.f55, .eff (effOf [caseMerge.e])), (I.f57, .eff (effOf [caseOffload.e])), (I.f12, .eff (effOf [caseRapp.e])), (I.f20, .eff (effOf [caseRseal.e])), (I.f13, .eff (effOf [caseRclean.e])), (I.f19, .eff (effOf [caseRret.e])), (I.f17, .eff (effOf [caseRmerge.e])), (I.f18, .eff (effOf [caseRoff.e])), (I.f14, .eff (effOf [caseRfind.e])), (I.f29, .pure (pureOf [caseRbytes])), (I.f37, .pure (pureOf [caseRcrcS]))]
theorem consDo_ok : ∀ x ∈ consDo, HoldsC P0 x.1 x.2 := by
  intro x hx
  simp at hx
  rcases hx with rfl | rfl | rfl | rfl | rfl | rfl | rfl | rfl | rfl | rfl | rfl | rfl | rfl | rfl | rfl | rfl
  · exact ⟨pureOf_holds (by simp; exact num_ok), C.f7⟩
  · exact ⟨fun args objs r objs2 h _ => effOf_holds (by simp; exact append_ok) args objs r objs2 h, C.f48⟩
  · exact ⟨fun args objs r objs2 h _ => effOf_holds (by simp; exact seal_ok) args objs r objs2 h, C.f60⟩
  · exact ⟨fun args objs r objs2 h _ => effOf_holds (by simp; exact clean_ok) args objs r objs2 h, C.f49⟩
  · exact ⟨fun args objs r objs2 h _ => effOf_holds (by simp; exact retain_ok) args objs r objs2 h, C.f59⟩
  · exact ⟨fun args objs r objs2 h _ => effOf_holds (by simp; exact merge_ok) args objs r objs2 h, C.f55⟩
  · exact ⟨fun args objs r objs2 h _ => effOf_holds (by simp; exact offload_ok) args objs r objs2 h, C.f57⟩
  · exact ⟨fun args objs r objs2 h _ => effOf_holds (by simp; exact rapp_ok) args objs r objs2 h, C.f12⟩
  · exact ⟨fun args objs r objs2 h _ => effOf_holds (by simp; exact rseal_ok) args objs r objs2 h, C.f20⟩
  · exact ⟨fun args objs r objs2 h _ => effOf_holds (by simp; exact rclean_ok) args objs r objs2 h, C.f13⟩
  · exact ⟨fun args objs r objs2 h _ => effOf_holds (by simp; exact rret_ok) args objs r objs2 h, C.f19⟩
  · exact ⟨fun args objs r objs2 h _ => effOf_holds (by simp; exact rmerge_ok) args objs r objs2 h, C.f17⟩
  · exact ⟨fun args objs r objs2 h _ => effOf_holds (by simp; exact roff_ok) args objs r objs2 h, C.f18⟩
  · exact ⟨fun args objs r objs2 h _ => effOf_holds (by simp; exact rfind_ok) args objs r objs2 h, C.f14⟩
  · exact ⟨pureOf_holds (by simp; exact rbytes_ok), C.f29⟩
  · exact ⟨pureOf_holds (by simp; exact rcrcs_ok), C.f37⟩
def H.do2 : Hint := { H.f3 with vs := [19] }
abbrev twoP : List OPat := [.box 1 [[.lit (.hw 1)]], .arr 10 segT [actWP 2], .log recT, .box 1 [[.lit (.hw 4)]], .arr 10 segT []]
abbrev twoQ : List OPat := [.box 1 [[.lit (.hw 5)]], .dead, .dead, .box 1 [[.lit (.hw 7)]], .dead, .arr 10 segT [actWP 6], .log recT, .arr 10 segT []]
abbrev actAV (w x y g : Int) (LL : List Rec) (c1 c2 c3 c4 : Int) (mo : Bool) : AV := .agg [.int .i64 w, .int .i64 x, .int .i64 y, .int .i64 g, .vl recT LL, .int .i64 c1, .int .i64 c2, .int .i64 c3, .int .i64 c4, .bool mo]
theorem do_ev (w x y g : Int) (LL : List Rec) (c1 c2 c3 c4 : Int) (mo : Bool) (f : List Seg) (b n z : Int) (rs : List Rec) (l : List Seg) : evFnM 5 (env consDo) H.do2 (LPof []) F.f3 [.ptr 0 (.tl 0) 0, .ptr 3 (.tl 0) 0, actAV w x y g LL c1 c2 c3 c4 mo] [.arr 1 .bool [] [[.hw 1]], .arr 10 segT f [actW b n z 2], .log recT rs, .arr 1 .bool [] [[.hw 4]], .arr 10 segT l []] (finVN .bool twoQ [0, 3] 5) = bif w == (0 : Int) then bif decide (LL.length * 56 ≤ 140737488355328) then bif decide (LL.length ≤ 200000000) && okB 500000000 (f, b, n, z, rs) then bif decide (LL.length ≤ 200000000) && appB l then some (n == rhighP l, (((), ()), ()), (), (), (((), ()), ()), (), ((apL x LL (f, b, n, z, rs) LL.length).1, ((apL x LL (f, b, n, z, rs) LL.length).2.1, (apL x LL (f, b, n, z, rs) LL.length).2.2.1, (), (), (), (), (), (), (apL x LL (f, b, n, z, rs) LL.length).2.2.2.1, (), ()), ()), (apL x LL (f, b, n, z, rs) LL.length).2.2.2.2, (segsL (apL x LL (unL l) LL.length), ()), ()) else none else none else none else bif w == (1 : Int) then bif decide (f.length ≤ 1000000000) then bif docB l then some (true, (((), ()), ()), (), (), (((), ()), ()), (), ((sealP (f, b, n, z, rs)).1, ((sealP (f, b, n, z, rs)).2.1, (sealP (f, b, n, z, rs)).2.2.1, (), (), (), (), (), (), (sealP (f, b, n, z, rs)).2.2.2.1, (), ()), ()), (sealP (f, b, n, z, rs)).2.2.2.2, (rsealP l, ()), ()) else none else none else bif w == (2 : Int) then bif decide (f.length ≤ 1000000000) && decide ((catG (segsL (f, b, n, z, rs))).length ≤ 1048576) then bif rclnB l then some (true, (((), ()), ()), (), (), (((), ()), ()), (), ((cleanP x y g (f, b, n, z, rs)).1, ((cleanP x y g (f, b, n, z, rs)).2.1, (cleanP x y g (f, b, n, z, rs)).2.2.1, (), (), (), (), (), (), (cleanP x y g (f, b, n, z, rs)).2.2.2.1, (), ()), ()), (cleanP x y g (f, b, n, z, rs)).2.2.2.2, (rclnP x y g l, ()), ()) else none else none else bif w == (3 : Int) then bif decide (f.length < 1000000000) then bif docB l then some (true, (((), ()), ()), (), (), (((), ()), ()), (), ((retainP (c1, c2, c3, c4) y (f, b, n, z, rs)).1, ((retainP (c1, c2, c3, c4) y (f, b, n, z, rs)).2.1, (retainP (c1, c2, c3, c4) y (f, b, n, z, rs)).2.2.1, (), (), (), (), (), (), (retainP (c1, c2, c3, c4) y (f, b, n, z, rs)).2.2.2.1, (), ()), ()), (retainP (c1, c2, c3, c4) y (f, b, n, z, rs)).2.2.2.2, (rretP (c1, c2, c3, c4) y l, ()), ()) else none else none else bif w == (4 : Int) then bif decide (f.length < 1000000000) && f.all genB then bif decide (l.length < 1000000000) && l.all genB then some ((mgAt x f).isSome == (rmgAt x l).isSome, (((), ()), ()), (), (), (((), ()), ()), (), ((mergeP x (f, b, n, z, rs)).1, ((mergeP x (f, b, n, z, rs)).2.1, (mergeP x (f, b, n, z, rs)).2.2.1, (), (), (), (), (), (), (mergeP x (f, b, n, z, rs)).2.2.2.1, (), ()), ()), (mergeP x (f, b, n, z, rs)).2.2.2.2, (rmergeP x l, ()), ()) else none else none else bif w == (5 : Int) then bif docB l then bif (rfndP x l).2 then bif decide (List.length (segD (rfndP x l).1).2.2.2.2.1 ≤ 1000000000) then bif !mo then bif smallL f then bif smallL l then some ((offloadP (segD (rfndP x l).1).1 (segD (rfndP x l).1).2.2.2.1 (IntKind.i64.wrap ((↑(bytS (segD (rfndP x l).1).2.2.2.2.1).length : Int) + (1 : Int))) (sumI (bytS (segD (rfndP x l).1).2.2.2.2.1)) (f, b, n, z, rs)).2 == (roffP (segD (rfndP x l).1).1 (segD (rfndP x l).1).2.2.2.1 (IntKind.i64.wrap ((↑(bytS (segD (rfndP x l).1).2.2.2.2.1).length : Int) + (1 : Int))) (sumI (bytS (segD (rfndP x l).1).2.2.2.2.1)) l).2, (((), ()), ()), (), (), (((), ()), ()), (), ((offloadP (segD (rfndP x l).1).1 (segD (rfndP x l).1).2.2.2.1 (IntKind.i64.wrap ((↑(bytS (segD (rfndP x l).1).2.2.2.2.1).length : Int) + (1 : Int))) (sumI (bytS (segD (rfndP x l).1).2.2.2.2.1)) (f, b, n, z, rs)).1.1, ((offloadP (segD (rfndP x l).1).1 (segD (rfndP x l).1).2.2.2.1 (IntKind.i64.wrap ((↑(bytS (segD (rfndP x l).1).2.2.2.2.1).length : Int) + (1 : Int))) (sumI (bytS (segD (rfndP x l).1).2.2.2.2.1)) (f, b, n, z, rs)).1.2.1, (offloadP (segD (rfndP x l).1).1 (segD (rfndP x l).1).2.2.2.1 (IntKind.i64.wrap ((↑(bytS (segD (rfndP x l).1).2.2.2.2.1).length : Int) + (1 : Int))) (sumI (bytS (segD (rfndP x l).1).2.2.2.2.1)) (f, b, n, z, rs)).1.2.2.1, (), (), (), (), (), (), (offloadP (segD (rfndP x l).1).1 (segD (rfndP x l).1).2.2.2.1 (IntKind.i64.wrap ((↑(bytS (segD (rfndP x l).1).2.2.2.2.1).length : Int) + (1 : Int))) (sumI (bytS (segD (rfndP x l).1).2.2.2.2.1)) (f, b, n, z, rs)).1.2.2.2.1, (), ()), ()), (offloadP (segD (rfndP x l).1).1 (segD (rfndP x l).1).2.2.2.1 (IntKind.i64.wrap ((↑(bytS (segD (rfndP x l).1).2.2.2.2.1).length : Int) + (1 : Int))) (sumI (bytS (segD (rfndP x l).1).2.2.2.2.1)) (f, b, n, z, rs)).1.2.2.2.2, ((roffP (segD (rfndP x l).1).1 (segD (rfndP x l).1).2.2.2.1 (IntKind.i64.wrap ((↑(bytS (segD (rfndP x l).1).2.2.2.2.1).length : Int) + (1 : Int))) (sumI (bytS (segD (rfndP x l).1).2.2.2.2.1)) l).1, ()), ()) else none else none else bif smallL f then bif smallL l then some ((offloadP (segD (rfndP x l).1).1 (segD (rfndP x l).1).2.2.2.1 (↑(bytS (segD (rfndP x l).1).2.2.2.2.1).length : Int) (sumI (bytS (segD (rfndP x l).1).2.2.2.2.1)) (f, b, n, z, rs)).2 == (roffP (segD (rfndP x l).1).1 (segD (rfndP x l).1).2.2.2.1 (↑(bytS (segD (rfndP x l).1).2.2.2.2.1).length : Int) (sumI (bytS (segD (rfndP x l).1).2.2.2.2.1)) l).2, (((), ()), ()), (), (), (((), ()), ()), (), ((offloadP (segD (rfndP x l).1).1 (segD (rfndP x l).1).2.2.2.1 (↑(bytS (segD (rfndP x l).1).2.2.2.2.1).length : Int) (sumI (bytS (segD (rfndP x l).1).2.2.2.2.1)) (f, b, n, z, rs)).1.1, ((offloadP (segD (rfndP x l).1).1 (segD (rfndP x l).1).2.2.2.1 (↑(bytS (segD (rfndP x l).1).2.2.2.2.1).length : Int) (sumI (bytS (segD (rfndP x l).1).2.2.2.2.1)) (f, b, n, z, rs)).1.2.1, (offloadP (segD (rfndP x l).1).1 (segD (rfndP x l).1).2.2.2.1 (↑(bytS (segD (rfndP x l).1).2.2.2.2.1).length : Int) (sumI (bytS (segD (rfndP x l).1).2.2.2.2.1)) (f, b, n, z, rs)).1.2.2.1, (), (), (), (), (), (), (offloadP (segD (rfndP x l).1).1 (segD (rfndP x l).1).2.2.2.1 (↑(bytS (segD (rfndP x l).1).2.2.2.2.1).length : Int) (sumI (bytS (segD (rfndP x l).1).2.2.2.2.1)) (f, b, n, z, rs)).1.2.2.2.1, (), ()), ()), (offloadP (segD (rfndP x l).1).1 (segD (rfndP x l).1).2.2.2.1 (↑(bytS (segD (rfndP x l).1).2.2.2.2.1).length : Int) (sumI (bytS (segD (rfndP x l).1).2.2.2.2.1)) (f, b, n, z, rs)).1.2.2.2.2, ((roffP (segD (rfndP x l).1).1 (segD (rfndP x l).1).2.2.2.1 (↑(bytS (segD (rfndP x l).1).2.2.2.2.1).length : Int) (sumI (bytS (segD (rfndP x l).1).2.2.2.2.1)) l).1, ()), ()) else none else none else none else some (true, (((), ()), ()), (), (), (((), ()), ()), (), (f, (b, n, (), (), (), (), (), (), z, (), ()), ()), rs, (l, ()), ()) else none else bif w == (6 : Int) then bif smallL f then bif smallL l then some ((offloadP x y g (7 : Int) (f, b, n, z, rs)).2 == (roffP x y g (7 : Int) l).2, (((), ()), ()), (), (), (((), ()), ()), (), ((offloadP x y g (7 : Int) (f, b, n, z, rs)).1.1, ((offloadP x y g (7 : Int) (f, b, n, z, rs)).1.2.1, (offloadP x y g (7 : Int) (f, b, n, z, rs)).1.2.2.1, (), (), (), (), (), (), (offloadP x y g (7 : Int) (f, b, n, z, rs)).1.2.2.2.1, (), ()), ()), (offloadP x y g (7 : Int) (f, b, n, z, rs)).1.2.2.2.2, ((roffP x y g (7 : Int) l).1, ()), ()) else none else none else some (true, (((), ()), ()), (), (), (((), ()), ()), (), (f, (b, n, (), (), (), (), (), (), z, (), ()), ()), rs, (l, ()), ()) := by kernel_rfl
abbrev ActD := Int × Int × Int × Int × List Rec × (Int × Int × Int × Int) × Bool
def offSz (mo : Bool) (g : Seg) : Int := bif mo then ((bytS g.2.2.2.2.1).length : Int) else ((bytS g.2.2.2.2.1).length : Int) + 1
def doP (a : ActD) (M : LogS) : LogS := bif a.1 == 0 then apL a.2.1 a.2.2.2.2.1 M a.2.2.2.2.1.length else bif a.1 == 1 then sealP M else bif a.1 == 2 then cleanP a.2.1 a.2.2.1 a.2.2.2.1 M else
  bif a.1 == 3 then retainP a.2.2.2.2.2.1 a.2.2.1 M else bif a.1 == 4 then mergeP a.2.1 M else bif a.1 == 5 then (bif (fndP a.2.1 M).2 then (offloadP (fndP a.2.1 M).1.1 (fndP a.2.1 M).1.2.2.2.1 (offSz a.2.2.2.2.2.2 (fndP a.2.1 M).1) (sumI (bytS (fndP a.2.1 M).1.2.2.2.2.1)) M).1 else M) else
  bif a.1 == 6 then (offloadP a.2.1 a.2.2.1 a.2.2.2.1 7 M).1 else M
theorem InvM_small {c : Nat} {v : Int} {M : LogS} (h : InvM c v M) (hc : c ≤ 900000000) : smallL (segsL M) = true ∧ smallL M.1 = true ∧ M.1.length < 1000000000 := by
  obtain ⟨h1, h2, h3, h4, h5, h6, h7, h9⟩ := okB_iff.1 (InvM_ok h (by omega))
  unfold smallL
  refine ⟨?_, ?_, by omega⟩
  · rw [segsL_len, decide_eq_true (by omega), Bool.true_and]
    unfold segsL
    rw [List.all_append, h9, Bool.true_and]
    simp only [List.all_cons, List.all_nil, Bool.and_true]
    exact decide_eq_true (show M.2.2.2.2.length ≤ 1000000000 by omega)
  · rw [decide_eq_true (by omega), h9]
    rfl
theorem fnd_mem {off : Int} {M : LogS} (h : (fndP off M).2 = true) : (fndP off M).1 ∈ segsL M := by
  unfold fndP at h ⊢
  cases hd : decide (off < lowP M) with
  | true => rw [hd] at h; cases h
  | false =>
    rw [hd] at h
    simp only [cond_false] at h ⊢
    cases hf : (segsL M).find? (nextG off) with
    | none => rw [hf] at h; cases h
    | some g => exact List.mem_of_find?_eq_some hf
theorem InvM_fnd {c : Nat} {v : Int} {M : LogS} (h : InvM c v M) (off : Int) (hf : (fndP off M).2 = true) : (fndP off M).1.2.2.2.2.1.length ≤ c := by
  have := catG_mem (fnd_mem hf)
  have := InvM_len h
  omega
theorem lowP_app (most : Int) (LL : List Rec) (M : LogS) : ∀ k, lowP (apL most LL M k) = lowP M
  | 0 => rfl
  | k + 1 => by
    show lowP (apR most (apL most LL M k) (LL.getD k recTy.zero)) = _
    rw [← lowP_app most LL M k]
    unfold apR
    cases recR (0, (LL.getD k recTy.zero).2) with
    | false => rfl
    | true =>
      rw [cond_true]
      cases decide ((apL most LL M k).2.2.1 + 1 - (apL most LL M k).2.1 ≥ mxI most) with
      | true => rw [cond_true, lowP_seal]; rfl
      | false => rfl
theorem app_high (most : Int) (LL : List Rec) (M : LogS) : ∀ k, M.2.2.1 ≤ (apL most LL M k).2.2.1
  | 0 => Int.le_refl _
  | k + 1 => by
    have ih := app_high most LL M k
    show _ ≤ (apR most (apL most LL M k) (LL.getD k recTy.zero)).2.2.1
    unfold apR
    cases recR (0, (LL.getD k recTy.zero).2) with
    | false => exact ih
    | true =>
      rw [cond_true]
      have e : (pushP (apL most LL M k) (LL.getD k recTy.zero)).2.2.1 = (apL most LL M k).2.2.1 + 1 := rfl
      cases decide ((apL most LL M k).2.2.1 + 1 - (apL most LL M k).2.1 ≥ mxI most) with
      | true => rw [cond_true, sealP_next, e]; omega
      | false => rw [cond_false, e]; omega
theorem off_high (bs gn by2 su : Int) (M : LogS) : (offloadP bs gn by2 su M).1.2.2.1 = M.2.2.1 := by
  unfold offloadP
  cases odAt bs gn M with
  | none => rfl
  | some k => simp only; cases ofBad by2 su M.1 k <;> rfl
theorem InvM_do {c : Nat} {v : Int} {M : LogS} (a : ActD) (h : InvM c v M) (hv : 0 ≤ v) (hv2 : v ≤ 1000000) (hc : c + a.2.2.2.2.1.length ≤ 1000000) : InvM (c + a.2.2.2.2.1.length : Nat) (v + 1) (doP a M) ∧ lowP M ≤ lowP (doP a M) ∧ M.2.2.1 ≤ (doP a M).2.2.1 := by
  have hm : InvM (c + a.2.2.2.2.1.length : Nat) (v + 1) M := InvM_mono h (by omega) (by omega)
  unfold doP
  cases a.1 == 0 with
  | true =>
    rw [cond_true]
    have h1 := InvM_app a.2.1 a.2.2.2.2.1 h hv (by omega) a.2.2.2.2.1.length (by omega)
    exact ⟨InvM_mono h1 (by omega) (by omega), Int.le_of_eq (lowP_app _ _ _ _).symm, app_high _ _ _ _⟩
  | false =>
    rw [cond_false]
    cases a.1 == 1 with
    | true => exact ⟨InvM_mono (InvM_seal h hv) (by omega) (by omega), Int.le_of_eq (lowP_seal _).symm, Int.le_of_eq (sealP_next _).symm⟩
    | false =>
      rw [cond_false]
      cases a.1 == 2 with
      | true =>
        obtain ⟨h1, h2⟩ := InvM_clean a.2.1 a.2.2.1 a.2.2.2.1 h hv2
        exact ⟨InvM_mono h1 (by omega) (by omega), Int.le_of_eq h2.symm, Int.le_refl _⟩
      | false =>
        rw [cond_false]
        cases a.1 == 3 with
        | true =>
          obtain ⟨h1, h2⟩ := InvM_retain a.2.2.2.2.2.1 a.2.2.1 h
          exact ⟨InvM_mono h1 (by omega) (by omega), h2, Int.le_refl _⟩
        | false =>
          rw [cond_false]
          cases a.1 == 4 with
          | true =>
            obtain ⟨h1, h2⟩ := InvM_merge a.2.1 h
            exact ⟨InvM_mono h1 (by omega) (by omega), Int.le_of_eq h2.symm, Int.le_refl _⟩
          | false =>
            rw [cond_false]
            cases a.1 == 5 with
            | true =>
              rw [cond_true]
              cases (fndP a.2.1 M).2 with
              | false => exact ⟨hm, Int.le_refl _, Int.le_refl _⟩
              | true =>
                rw [cond_true]
                obtain ⟨h1, h2⟩ := InvM_off (fndP a.2.1 M).1.1 (fndP a.2.1 M).1.2.2.2.1 (offSz a.2.2.2.2.2.2 (fndP a.2.1 M).1) (sumI (bytS (fndP a.2.1 M).1.2.2.2.2.1)) h
                exact ⟨InvM_mono h1 (by omega) (by omega), Int.le_of_eq h2.symm, Int.le_of_eq (off_high _ _ _ _ _).symm⟩
            | false =>
              rw [cond_false]
              cases a.1 == 6 with
              | true =>
                obtain ⟨h1, h2⟩ := InvM_off a.2.1 a.2.2.1 a.2.2.2.1 7 h
                exact ⟨InvM_mono h1 (by omega) (by omega), Int.le_of_eq h2.symm, Int.le_of_eq (off_high _ _ _ _ _).symm⟩
              | false => exact ⟨hm, Int.le_refl _, Int.le_refl _⟩
abbrev twoD (M : LogS) : opatsDen twoQ := ((((), ()), ()), (), (), (((), ()), ()), (), (M.1, (M.2.1, M.2.2.1, (), (), (), (), (), (), M.2.2.2.1, (), ()), ()), M.2.2.2.2, (segsL M, ()), ())
theorem do_val (a : ActD) (M : LogS) {c : Nat} {v : Int} (h : InvM c v M) (hv : 0 ≤ v) (hv2 : v ≤ 1000000) (hc : c ≤ 1000000) (hL : a.2.2.2.2.1.length ≤ 1000000) :
    evFnM 5 (env consDo) H.do2 (LPof []) F.f3 [.ptr 0 (.tl 0) 0, .ptr 3 (.tl 0) 0, actAV a.1 a.2.1 a.2.2.1 a.2.2.2.1 a.2.2.2.2.1 a.2.2.2.2.2.1.1 a.2.2.2.2.2.1.2.1 a.2.2.2.2.2.1.2.2.1 a.2.2.2.2.2.1.2.2.2 a.2.2.2.2.2.2] [.arr 1 .bool [] [[.hw 1]], .arr 10 segT M.1 [actW M.2.1 M.2.2.1 M.2.2.2.1 2], .log recT M.2.2.2.2, .arr 1 .bool [] [[.hw 4]], .arr 10 segT (segsL M) []] (finVN .bool twoQ [0, 3] 5) =
      some (true, twoD (doP a M)) := by
  have hM : (M.1, M.2.1, M.2.2.1, M.2.2.2.1, M.2.2.2.2) = M := rfl
  have hok := InvM_ok h (by omega)
  obtain ⟨sm1, sm2, sm3⟩ := InvM_small h (by omega)
  have hlen := InvM_len h
  have hdoc := docB_segs hok (by omega)
  have happ : appB (segsL M) = true := by
    unfold appB
    rw [isL_segs, unL_segs, okB_mono hok (show c ≤ 400000000 by omega), h.size]
    rfl
  have hro : ∀ bs gn by2 su : Int, roffP bs gn by2 su (segsL M) = (segsL (offloadP bs gn by2 su M).1, (offloadP bs gn by2 su M).2) := fun bs gn by2 su => roff_segs bs gn by2 su h.chain
  rw [do_ev, hM]
  unfold doP
  cases a.1 == 0 with
  | true =>
    have p1 : decide (a.2.2.2.2.1.length * 56 ≤ 140737488355328) = true := decide_eq_true (by omega)
    have p2 : decide (a.2.2.2.2.1.length ≤ 200000000) = true := decide_eq_true (by omega)
    rw [p1, p2, okB_mono hok (show c ≤ 500000000 by omega), happ, rhigh_segs, unL_segs]
    simp only [Bool.and_self, cond_true, beq_self_eq_true]
  | false =>
    rw [cond_false, cond_false]
    cases a.1 == 1 with
    | true =>
      rw [decide_eq_true (show M.1.length ≤ 1000000000 by omega), hdoc, rseal_segs]
      rfl
    | false =>
      rw [cond_false, cond_false]
      cases a.1 == 2 with
      | true =>
        have p3 : rclnB (segsL M) = true := by unfold rclnB; rw [hdoc, decide_eq_true (by omega)]; rfl
        rw [decide_eq_true (show M.1.length ≤ 1000000000 by omega), decide_eq_true (show (catG (segsL M)).length ≤ 1048576 by omega), p3, rclean_segs _ _ _ h]
        rfl
      | false =>
        rw [cond_false, cond_false]
        cases a.1 == 3 with
        | true =>
          rw [decide_eq_true sm3, hdoc, rret_segs]
          rfl
        | false =>
          rw [cond_false, cond_false]
          cases a.1 == 4 with
          | true =>
            have g1 := InvM_gen h (by omega) hv2
            have g2 : M.1.all genB = true := by unfold segsL at g1; rw [List.all_append, Bool.and_eq_true] at g1; exact g1.1
            have p4 : decide ((segsL M).length < 1000000000) = true := decide_eq_true (by rw [segsL_len]; have := InvM_num h; omega)
            rw [decide_eq_true sm3, g2, p4, g1, rmg_at _ h.chain, rmerge_segs _ h.chain]
            simp only [Bool.and_self, cond_true, beq_self_eq_true]
          | false =>
            rw [cond_false, cond_false]
            cases a.1 == 5 with
            | true =>
              rw [hdoc, rfnd_segs, sm1, sm2]
              cases hf : (fndP a.2.1 M).2 with
              | false => rfl
              | true =>
                have hl := InvM_fnd h _ hf
                have p5 : decide (List.length (segD (fndP a.2.1 M).1).2.2.2.2.1 ≤ 1000000000) = true := decide_eq_true (by show (fndP a.2.1 M).1.2.2.2.2.1.length ≤ _; omega)
                have hb := bytS_len (fndP a.2.1 M).1.2.2.2.2.1
                have hw : IntKind.i64.wrap (((bytS (fndP a.2.1 M).1.2.2.2.2.1).length : Int) + 1) = ((bytS (fndP a.2.1 M).1.2.2.2.2.1).length : Int) + 1 := wrap64 (by omega) (by omega)
                have q1 : (segD (fndP a.2.1 M).1).2.2.2.2.1 = (fndP a.2.1 M).1.2.2.2.2.1 := rfl
                have q2 : (segD (fndP a.2.1 M).1).1 = (fndP a.2.1 M).1.1 := rfl
                have q3 : (segD (fndP a.2.1 M).1).2.2.2.1 = (fndP a.2.1 M).1.2.2.2.1 := rfl
                rw [p5, q1, q2, q3, hw]
                unfold offSz
                cases a.2.2.2.2.2.2 with
                | true =>
                  simp only [hro, Bool.not_true, cond_false, cond_true, beq_self_eq_true]
                | false =>
                  simp only [hro, Bool.not_false, cond_false, cond_true, beq_self_eq_true]
            | false =>
              rw [cond_false, cond_false]
              cases a.1 == 6 with
              | true =>
                rw [sm1, sm2]
                simp only [hro, cond_true, beq_self_eq_true]
              | false => rfl
end Go.Sim
namespace Go.Sim
set_option linter.unusedSimpArgs false
set_option linter.unusedVariables false
set_option maxRecDepth 10000
noncomputable def doB (LL : List Rec) (M : LogS) (l : List Seg) : Bool := @decide (l = segsL M ∧ InvM 1000000 1000000 M ∧ LL.length ≤ 1000000) (Classical.propDecidable _)
theorem doB_at {LL : List Rec} {M : LogS} {l : List Seg} (h : doB LL M l = true) : l = segsL M ∧ InvM 1000000 1000000 M ∧ LL.length ≤ 1000000 := @of_decide_eq_true _ (Classical.propDecidable _) h
theorem doB_of {LL : List Rec} {M : LogS} {l : List Seg} (h1 : l = segsL M) (h2 : InvM 1000000 1000000 M) (h3 : LL.length ≤ 1000000) : doB LL M l = true := @decide_eq_true _ (Classical.propDecidable _) ⟨h1, h2, h3⟩
noncomputable def caseDo : VCase := ⟨[.lit (.ptr 0 (.tl 0) 0), .lit (.ptr 3 (.tl 0) 0), .agg [.int .i64, .int .i64, .int .i64, .int .i64, .vl recT, .int .i64, .int .i64, .int .i64, .int .i64, .bool]], twoP, .bool, twoQ, fun ⟨_, _, ⟨w, x, y, g, LL, c1, c2, c3, c4, mo, _⟩, _⟩ ⟨_, ⟨f, ⟨b, n, _, _, _, _, _, _, z, _, _⟩, _⟩, rs, _, ⟨l, _⟩, _⟩ =>
  [(doB LL (f, b, n, z, rs) l, (true, ((((), ()), ()), (), (), (((), ()), ()), (), ((doP (w, x, y, g, LL, (c1, c2, c3, c4), mo) (f, b, n, z, rs)).1, ((doP (w, x, y, g, LL, (c1, c2, c3, c4), mo) (f, b, n, z, rs)).2.1, (doP (w, x, y, g, LL, (c1, c2, c3, c4), mo) (f, b, n, z, rs)).2.2.1, (), (), (), (), (), (), (doP (w, x, y, g, LL, (c1, c2, c3, c4), mo) (f, b, n, z, rs)).2.2.2.1, (), ()), ()), (doP (w, x, y, g, LL, (c1, c2, c3, c4), mo) (f, b, n, z, rs)).2.2.2.2, (segsL (doP (w, x, y, g, LL, (c1, c2, c3, c4), mo) (f, b, n, z, rs)), ()), ())))]⟩
theorem do_go (a : ActD) (M : LogS) (l : List Seg) (h : doB a.2.2.2.2.1 M l = true) :
    evFnM 5 (env consDo) H.do2 (LPof []) F.f3 [.ptr 0 (.tl 0) 0, .ptr 3 (.tl 0) 0, actAV a.1 a.2.1 a.2.2.1 a.2.2.2.1 a.2.2.2.2.1 a.2.2.2.2.2.1.1 a.2.2.2.2.2.1.2.1 a.2.2.2.2.2.1.2.2.1 a.2.2.2.2.2.1.2.2.2 a.2.2.2.2.2.2] [.arr 1 .bool [] [[.hw 1]], .arr 10 segT M.1 [actW M.2.1 M.2.2.1 M.2.2.2.1 2], .log recT M.2.2.2.2, .arr 1 .bool [] [[.hw 4]], .arr 10 segT l []] (finVN .bool twoQ [0, 3] 5) =
      some (true, twoD (doP a M)) := by
  obtain ⟨rfl, h2, h3⟩ := doB_at h
  exact do_val a M (c := 1000000) h2 (by decide) (by decide) (by decide) h3
theorem do_ok : caseDo.e.ok P0 I.f3 := vcase_okN (c := caseDo) (H := H.do2) (E := env consDo) (env_ok consDo_ok) glob0 mixed0 G.f3 Bd.f3 [0, 3] (by kernel_rfl) noLoops fun ⟨_, _, ⟨w, x, y, g, LL, c1, c2, c3, c4, mo, _⟩, _⟩ ⟨_, ⟨f, ⟨b, n, _, _, _, _, _, _, z, _, _⟩, _⟩, rs, _, ⟨l, _⟩, _⟩ r h hw1 hw2 => by
  obtain ⟨hc, rfl⟩ := pick_pre h
  exact do_go (w, x, y, g, LL, (c1, c2, c3, c4), mo) (f, b, n, z, rs) l hc
def runD (l : List ractT.den) : Nat → LogS
  | 0 => ([], 0, 0, 0, [])
  | i + 1 => doP (l.getD i ractT.zero) (runD l i)
theorem act_small {l : List ractT.den} (hb : (firstFrom (bigA l) 0 l.length).isSome = false) {i : Nat} (hi : i < l.length) : (l.getD i ractT.zero).2.2.2.2.1.length ≤ 12 := by
  have hn : firstFrom (bigA l) 0 l.length = none := by
    cases hf : firstFrom (bigA l) 0 l.length with
    | none => rfl
    | some k => rw [hf] at hb; cases hb
  have hbi := firstFrom_none hn i (Nat.zero_le _) (by omega)
  unfold bigA at hbi
  rw [Bool.or_eq_false_iff] at hbi
  have := of_decide_eq_false hbi.2
  omega
theorem runD_inv {l : List ractT.den} (hl : l.length ≤ 40) (hb : (firstFrom (bigA l) 0 l.length).isSome = false) : ∀ i, i ≤ l.length → InvM ((12 * i : Nat) : Int) ((i : Nat) : Int) (runD l i)
  | 0, _ => InvM_zero
  | i + 1, h => by
    have h1 := runD_inv hl hb i (by omega)
    have h12 := act_small hb (i := i) (by omega)
    have h2 := (InvM_do (c := 12 * i) (v := i) (l.getD i ractT.zero) h1 (by omega) (by omega) (by omega)).1
    exact InvM_mono h2 (by omega) (by omega)
theorem runD_big {l : List ractT.den} (hl : l.length ≤ 40) (hb : (firstFrom (bigA l) 0 l.length).isSome = false) {i : Nat} (h : i ≤ l.length) : InvM 1000000 1000000 (runD l i) := InvM_mono (runD_inv hl hb i h) (by omega) (by omega)
noncomputable abbrev consWB : List (FuncId × Con) := [(I.f3, .eff (effOf [caseDo.e])), (I.f22, .eff (effOf [caseRnew.e])), (I.f2, .pure (pureOf [caseBigA])), (I.f59, .eff (effOf [caseRetain.e])), (I.f10, .pure (pureOf [caseRDrop])), (I.f23, .pure (pureOf [caseRlog])), (I.f24, .pure (pureOf [caseSsame]))] ++ consD3
theorem consWB_ok : ∀ x ∈ consWB, HoldsC P0 x.1 x.2 := by
  intro x hx
  rcases List.mem_append.1 hx with hx | hx
  · simp at hx
    rcases hx with rfl | rfl | rfl | rfl | rfl | rfl | rfl
    · exact ⟨fun args objs r objs2 h _ => effOf_holds (by simp; exact do_ok) args objs r objs2 h, C.f3⟩
    · exact ⟨fun args objs r objs2 h _ => effOf_holds (by simp; exact rnew_ok) args objs r objs2 h, C.f22⟩
    · exact ⟨pureOf_holds (by simp; exact biga_ok), C.f2⟩
    · exact ⟨fun args objs r objs2 h _ => effOf_holds (by simp; exact retain_ok) args objs r objs2 h, C.f59⟩
    · exact ⟨pureOf_holds (by simp; exact rdrop_ok), C.f10⟩
    · exact ⟨pureOf_holds (by simp; exact rlog_ok), C.f23⟩
    · exact ⟨pureOf_holds (by simp; exact ssame_ok), C.f24⟩
  · exact consD3_ok x hx
abbrev twoO (M : LogS) : List (Nat × AObj) := [(0, .arr 1 .bool [] [[.hw 1]]), (1, .arr 10 segT M.1 [actW M.2.1 M.2.2.1 M.2.2.2.1 2]), (2, .log recT M.2.2.2.2), (3, .arr 1 .bool [] [[.hw 4]]), (4, .arr 10 segT (segsL M) [])]
theorem bigAct_no {l : List ractT.den} (h : bigAct l = false) : l.length ≤ 40 ∧ (firstFrom (bigA l) 0 l.length).isSome = false := by
  unfold bigAct at h
  rw [Bool.or_eq_false_iff, Bool.or_eq_false_iff] at h
  obtain ⟨b1, b2, b3⟩ := h
  have := of_decide_eq_false b2
  exact ⟨by omega, b1⟩
end Go.Sim
namespace Go.Sim
set_option linter.unusedSimpArgs false
set_option linter.unusedVariables false
set_option maxRecDepth 10000
def H.csg2 : Hint := { H.f9 with vs := [18], nh := [(3, 33)] }
theorem csg_rd {R : Type} (i : Int) (f o : List Seg) (K : Ex → St → Option R) : roundK (env []) H.csg2 1 (LPof []) V.f9_3 L.f9_3 ⟨[(0, .hw 0), (3, .hw 1), (4, .int .i64 i)], [(0, .arr 10 segT f []), (1, .arr 10 segT o [])], 2⟩ K = bif decide (i < (↑f.length : Int)) then bif decide ((0 : Int) ≤ i) && decide (i < (↑f.length : Int)) then bif decide (List.length (f.getD i.toNat segTy.zero).2.2.2.2.1 * 56 ≤ 140737488355328) then bif decide ((o ++ [f.getD i.toNat segTy.zero]).length * 80 ≤ 140737488355328) then K .normal { slots := [(0, .hw 0), (3, .hw 1), (4, .int .i64 (IntKind.i64.wrap (i + (1 : Int))))], objs := [(0, .arr 10 segTy f []), (1, .arr 10 segTy (o ++ [f.getD i.toNat segTy.zero]) [])], nx := 2 } else none else none else none else K (.exit 0) { slots := [(0, .hw 0), (3, .hw 1), (4, .int .i64 i)], objs := [(0, .arr 10 segTy f []), (1, .arr 10 segTy o [])], nx := 2 } := by kernel_rfl
def csgSt (f : List Seg) (i : Nat) : St := ⟨[(0, .hw 0), (3, .hw 1), (4, .int .i64 i)], [(0, .arr 10 segT f []), (1, .arr 10 segT (f.take i) [])], 2⟩
theorem csg_rounds {R : Type} (f : List Seg) (h : smallL f = true) (K : Ex → St → Option R) : ∀ (m i : Nat), i + m = f.length →
    rounds (env []) H.csg2 1 (LPof []) V.f9_3 L.f9_3 (m + 1) (csgSt f i) K = K (.exit 0) (csgSt f f.length)
  | 0, i, hi => by
    obtain rfl : i = f.length := by omega
    rw [rounds_succ']
    refine (csg_rd _ _ _ _).trans ?_
    rw [cond_neg (by omega)]
    rfl
  | m + 1, i, hi => by
    have ih := csg_rounds f h K m (i + 1) (by omega)
    have hl := smallL_len h
    unfold smallL at h
    simp only [Bool.and_eq_true, decide_eq_true_eq] at h
    have h1 := small_at h.2 (show i < f.length by omega)
    have e1 : IntKind.i64.wrap ((i : Int) + 1) = ((i + 1 : Nat) : Int) := by rw [wrap64 (by omega) (by omega)]; omega
    have e2 := stake_snoc (l := f) (i := i) (by omega)
    have e3 : (f.take i ++ [f.getD i segTy.zero]).length = i + 1 := by simp; omega
    unfold csgSt at ih
    rw [e2] at ih
    rw [rounds_succ']
    refine (csg_rd _ _ _ _).trans ?_
    rw [cond_pos (by omega), cond_pos2 (by omega) (by omega), Int.toNat_natCast, e1, cond_pos (by omega), cond_pos (by omega)]
    exact ih
abbrev csgLC : LoopC := LoopC.of ⟨[(0, .lit (.hw 0)), (3, .lit (.hw 1)), (4, .int .i64)], [.arr 10 segT [], .arr 10 segT []]⟩
  (fun ⟨⟨_, _, i, _⟩, ⟨⟨f, _⟩, ⟨o, _⟩, _⟩⟩ => decide (i = (0 : Int)) && List.isEmpty o && smallL f)
  fun ⟨⟨_, _, i, _⟩, ⟨⟨f, _⟩, ⟨o, _⟩, _⟩⟩ => [(true, .exit 0, ⟨[(0, .hw 0), (3, .hw 1), (4, .int .i64 (List.length f : Nat))], [(0, .arr 10 segT f []), (1, .arr 10 segT f [])], 2⟩)]
theorem csg_go (f : List Seg) (h : smallL f = true) : ∃ m, rounds (env []) H.csg2 1 (LPof []) V.f9_3 L.f9_3 m ⟨[(0, .hw 0), (3, .hw 1), (4, .int .i64 0)], [(0, .arr 10 segT f []), (1, .arr 10 segT [] [])], 2⟩ (fun e s => some (e, s)) = some (.exit 0, ⟨[(0, .hw 0), (3, .hw 1), (4, .int .i64 (f.length : Nat))], [(0, .arr 10 segT f []), (1, .arr 10 segT f [])], 2⟩) := by
  have := csg_rounds f h (fun e s => some (e, s)) f.length 0 (Nat.zero_add _)
  unfold csgSt at this
  rw [List.take_length] at this
  exact ⟨_, this⟩
theorem csg_lok : LoopOK P0 H.csg2 1 L.f9_3 csgLC :=
  loop_ok_of (env_ok env_nil) glob0 mixed0 noLoops V.f9_3 (by decide) fun ⟨⟨_, _, i, _⟩, ⟨⟨f, _⟩, ⟨o, _⟩, _⟩⟩ h hw => by
    simp only [Bool.and_eq_true, decide_eq_true_eq, List.isEmpty_iff] at h
    obtain ⟨⟨rfl, rfl⟩, h3⟩ := h
    exact csg_go f h3
theorem csg_ev (f : List Seg) : evFn (env []) H.csg2 (LPof [(3, csgLC)]) F.f9 [.hw 0] [.arr 10 segT f []] (finV (.lit (.hw 1)) [.arr 10 segT [], .arr 10 segT []] 1) = bif smallL f && true then some ((), (f, ()), (f, ()), ()) else none := by kernel_rfl
def caseCsg : VCase := ⟨[.lit (.hw 0)], [.arr 10 segT []], .lit (.hw 1), [.arr 10 segT [], .arr 10 segT []], fun _ ⟨⟨f, _⟩, _⟩ => [(smallL f, ((), ((f, ()), (f, ()), ())))]⟩
theorem csg_ok : caseCsg.e.ok P0 I.f9 := vcase_ok (c := caseCsg) (H := H.csg2) (E := env []) (env_ok env_nil) glob0 mixed0 G.f9 Bd.f9 (by kernel_rfl) (loops_good (tab := [(3, csgLC)]) (by kernel_rfl) (fun x hx => by simp at hx; subst hx; exact csg_lok)) fun _ ⟨⟨f, _⟩, _⟩ r h hw1 hw2 => by
  obtain ⟨hc, rfl⟩ := pick_pre h
  refine (csg_ev f).trans ?_
  have hc : smallL f = true := hc
  rw [hc]
  rfl
noncomputable abbrev consSm : List (FuncId × Con) := [(I.f51, .eff (effOf [caseFind.e])), (I.f61, .eff (effOf [caseSegments.e])), (I.f54, .eff (effOf [caseLow.e])), (I.f53, .eff (effOf [caseHigh.e])), (I.f16, .eff (effOf [caseRlow.e])), (I.f15, .eff (effOf [caseRhigh.e])), (I.f14, .eff (effOf [caseRfind.e])), (I.f24, .eff (brwOf caseSsame))]
theorem consSm_ok : ∀ x ∈ consSm, HoldsC P0 x.1 x.2 := by
  intro x hx
  simp at hx
  rcases hx with rfl | rfl | rfl | rfl | rfl | rfl | rfl | rfl
  · exact ⟨fun args objs r objs2 h _ => effOf_holds (by simp; exact find_ok) args objs r objs2 h, C.f51⟩
  · exact ⟨fun args objs r objs2 h _ => effOf_holds (by simp; exact segments_ok) args objs r objs2 h, C.f61⟩
  · exact ⟨fun args objs r objs2 h _ => effOf_holds (by simp; exact low_ok) args objs r objs2 h, C.f54⟩
  · exact ⟨fun args objs r objs2 h _ => effOf_holds (by simp; exact high_ok) args objs r objs2 h, C.f53⟩
  · exact ⟨fun args objs r objs2 h _ => effOf_holds (by simp; exact rlow_ok) args objs r objs2 h, C.f16⟩
  · exact ⟨fun args objs r objs2 h _ => effOf_holds (by simp; exact rhigh_ok) args objs r objs2 h, C.f15⟩
  · exact ⟨fun args objs r objs2 h _ => effOf_holds (by simp; exact rfind_ok) args objs r objs2 h, C.f14⟩
  · exact brw_holds ssame_ok rfl C.f24
def H.same15 : Hint := { H.f4 with vs := [28, 30], join := [] }
theorem same15_ev (off : Int) (f : List Seg) (b n z : Int) (rs : List Rec) (l : List Seg) : evFn (env consSm) H.same15 (LPof []) F.f4 [.ptr 0 (.tl 0) 0, .ptr 3 (.tl 0) 0, .int .i64 off] [.arr 1 .bool [] [[.hw 1]], .arr 10 segT f [actW b n z 2], .log recT rs, .arr 1 .bool [] [[.hw 4]], .arr 10 segT l []] (finV .bool twoP 5) = bif smallL f && decide (rs.length ≤ 1000000000) then bif docB l then bif (fndP off (f, b, n, z, rs)).2 == (rfndP off l).2 then bif decide ([((segD (fndP off (f, b, n, z, rs)).1).1, (segD (fndP off (f, b, n, z, rs)).1).2.1, (segD (fndP off (f, b, n, z, rs)).1).2.2.1, (segD (fndP off (f, b, n, z, rs)).1).2.2.2.1, (segD (fndP off (f, b, n, z, rs)).1).2.2.2.2.1, (segD (fndP off (f, b, n, z, rs)).1).2.2.2.2.2.1, (segD (fndP off (f, b, n, z, rs)).1).2.2.2.2.2.2.1, (segD (fndP off (f, b, n, z, rs)).1).2.2.2.2.2.2.2.1, (segD (fndP off (f, b, n, z, rs)).1).2.2.2.2.2.2.2.2.1, (segD (fndP off (f, b, n, z, rs)).1).2.2.2.2.2.2.2.2.2.1)] = [((segD (rfndP off l).1).1, (segD (rfndP off l).1).2.1, (segD (rfndP off l).1).2.2.1, (segD (rfndP off l).1).2.2.2.1, (segD (rfndP off l).1).2.2.2.2.1, (segD (rfndP off l).1).2.2.2.2.2.1, (segD (rfndP off l).1).2.2.2.2.2.2.1, (segD (rfndP off l).1).2.2.2.2.2.2.2.1, (segD (rfndP off l).1).2.2.2.2.2.2.2.2.1, (segD (rfndP off l).1).2.2.2.2.2.2.2.2.2.1)]) then bif smallL f && decide (rs.length ≤ 1000000000) then bif decide (segsL (f, b, n, z, rs) = l ++ []) then bif docB l then bif lowP (f, b, n, z, rs) == rlowP l then bif decide (f.length ≤ 1000000000) then bif docB l then some (n == rhighP l, (((), ()), ()), (f, (b, n, (), (), (), (), (), (), z, (), ()), ()), rs, (((), ()), ()), (l, ()), ()) else none else none else some (false, (((), ()), ()), (f, (b, n, (), (), (), (), (), (), z, (), ()), ()), rs, (((), ()), ()), (l, ()), ()) else none else some (false, (((), ()), ()), (f, (b, n, (), (), (), (), (), (), z, (), ()), ()), rs, (((), ()), ()), (l, ()), ()) else none else some (false, (((), ()), ()), (f, (b, n, (), (), (), (), (), (), z, (), ()), ()), rs, (((), ()), ()), (l, ()), ()) else some (false, (((), ()), ()), (f, (b, n, (), (), (), (), (), (), z, (), ()), ()), rs, (((), ()), ()), (l, ()), ()) else none else none := by kernel_rfl
theorem same15_val (off : Int) (M : LogS) (h : InvM 1000000 1000000 M) : evFn (env consSm) H.same15 (LPof []) F.f4 [.ptr 0 (.tl 0) 0, .ptr 3 (.tl 0) 0, .int .i64 off] [.arr 1 .bool [] [[.hw 1]], .arr 10 segT M.1 [actW M.2.1 M.2.2.1 M.2.2.2.1 2], .log recT M.2.2.2.2, .arr 1 .bool [] [[.hw 4]], .arr 10 segT (segsL M) []] (finV .bool twoP 5) =
    some (true, ((((), ()), ()), (M.1, (M.2.1, M.2.2.1, (), (), (), (), (), (), M.2.2.2.1, (), ()), ()), M.2.2.2.2, (((), ()), ()), (segsL M, ()), ())) := by
  have hM : (M.1, M.2.1, M.2.2.1, M.2.2.2.1, M.2.2.2.2) = M := rfl
  have h : InvM ((1000000 : Nat) : Int) 1000000 M := h
  obtain ⟨s1, s2, s3⟩ := InvM_small h (by omega)
  have hok := InvM_ok h (by omega)
  have hok' := okB_iff.1 hok
  have hd := docB_segs hok (by omega)
  have p1 : decide (M.2.2.2.2.length ≤ 1000000000) = true := decide_eq_true (by omega)
  have p2 : decide (M.1.length ≤ 1000000000) = true := decide_eq_true (by omega)
  rw [same15_ev, hM, s2, p1, hd, rfnd_segs, rlow_segs, rhigh_segs, List.append_nil, decide_eq_true rfl, decide_eq_true rfl, p2]
  simp only [Bool.and_self, cond_true, beq_self_eq_true]
noncomputable def samB (M : LogS) (l : List Seg) : Bool := @decide (l = segsL M ∧ InvM 1000000 1000000 M) (Classical.propDecidable _)
noncomputable def caseSame15 : VCase := ⟨[.lit (.ptr 0 (.tl 0) 0), .lit (.ptr 3 (.tl 0) 0), .int .i64], twoP, .bool, twoP, fun ⟨_, _, off, _⟩ ⟨_, ⟨f, ⟨b, n, _, _, _, _, _, _, z, _, _⟩, _⟩, rs, _, ⟨l, _⟩, _⟩ =>
  [(samB (f, b, n, z, rs) l, (true, ((((), ()), ()), (f, (b, n, (), (), (), (), (), (), z, (), ()), ()), rs, (((), ()), ()), (l, ()), ())))]⟩
theorem same15_go (off : Int) (M : LogS) (l : List Seg) (h : samB M l = true) : evFn (env consSm) H.same15 (LPof []) F.f4 [.ptr 0 (.tl 0) 0, .ptr 3 (.tl 0) 0, .int .i64 off] [.arr 1 .bool [] [[.hw 1]], .arr 10 segT M.1 [actW M.2.1 M.2.2.1 M.2.2.2.1 2], .log recT M.2.2.2.2, .arr 1 .bool [] [[.hw 4]], .arr 10 segT l []] (finV .bool twoP 5) =
    some (true, ((((), ()), ()), (M.1, (M.2.1, M.2.2.1, (), (), (), (), (), (), M.2.2.2.1, (), ()), ()), M.2.2.2.2, (((), ()), ()), (l, ()), ())) := by
  obtain ⟨rfl, h2⟩ := @of_decide_eq_true _ (Classical.propDecidable _) h
  exact same15_val off M h2
theorem same15_ok : caseSame15.e.ok P0 I.f4 := vcase_ok (c := caseSame15) (H := H.same15) (E := env consSm) (env_ok consSm_ok) glob0 mixed0 G.f4 Bd.f4 (by kernel_rfl) noLoops fun ⟨_, _, off, _⟩ ⟨_, ⟨f, ⟨b, n, _, _, _, _, _, _, z, _, _⟩, _⟩, rs, _, ⟨l, _⟩, _⟩ r h hw1 hw2 => by
  obtain ⟨hc, rfl⟩ := pick_pre h
  exact same15_go off (f, b, n, z, rs) l hc
theorem samB_of {M : LogS} {l : List Seg} (h1 : l = segsL M) (h2 : InvM 1000000 1000000 M) : samB M l = true := @decide_eq_true _ (Classical.propDecidable _) ⟨h1, h2⟩
end Go.Sim
namespace Go.Sim
set_option linter.unusedSimpArgs false
set_option linter.unusedVariables false
set_option maxRecDepth 10000
theorem alv0_rd {R : Type} (m i : Int) (f : List Seg) (K : Ex → St → Option R) : roundK (env consK2L) H.allL 0 (LPof []) V.f65_3 L.f65_3 ⟨[(3, .hw 0), (6, .vl segT f), (7, .int .i64 m), (8, .int .i64 i)], [(0, .arr 10 segT [] [])], 1⟩ K = bif decide (i < m) then bif decide ((0 : Int) ≤ i) && decide (i < (↑f.length : Int)) then bif decide (List.length (f.getD i.toNat segTy.zero).2.2.2.2.1 ≤ 1000000000) then K .normal { slots := [(3, .hw 0), (6, .vl segTy f), (7, .int .i64 m), (8, .int .i64 (IntKind.i64.wrap (i + (1 : Int))))], objs := [(0, .arr 10 segTy [] [[.int .i64 (f.getD i.toNat segTy.zero).1, .int .i64 (f.getD i.toNat segTy.zero).2.1, .int .i64 (f.getD i.toNat segTy.zero).2.2.1, .int .i64 (f.getD i.toNat segTy.zero).2.2.2.1, .hw 1, .bool (f.getD i.toNat segTy.zero).2.2.2.2.2.1, .bool (f.getD i.toNat segTy.zero).2.2.2.2.2.2.1, .bool (f.getD i.toNat segTy.zero).2.2.2.2.2.2.2.1, .int .i64 (f.getD i.toNat segTy.zero).2.2.2.2.2.2.2.2.1, .int .u32 (f.getD i.toNat segTy.zero).2.2.2.2.2.2.2.2.2]]), (1, .log recTy (f.getD i.toNat segTy.zero).2.2.2.2.1)], nx := 2 } else none else none else K (.exit 0) { slots := [(3, .hw 0), (6, .vl segTy f), (7, .int .i64 m), (8, .int .i64 i)], objs := [(0, .arr 10 segTy [] [])], nx := 1 } := by kernel_rfl
theorem alv1_rd {R : Type} (m i : Int) (f o : List Seg) (g : Seg) (K : Ex → St → Option R) : roundK (env consK2L) H.allL 0 (LPof []) V.f65_3 L.f65_3 ⟨[(3, .hw 0), (6, .vl segT f), (7, .int .i64 m), (8, .int .i64 i)], [(0, .arr 10 segT o [segO g 1]), (1, .log recT g.2.2.2.2.1)], 2⟩ K = bif decide (i < m) then bif decide ((0 : Int) ≤ i) && decide (i < (↑f.length : Int)) then bif decide (List.length (f.getD i.toNat segTy.zero).2.2.2.2.1 ≤ 1000000000) then bif decide ((o.length + 2) * 80 ≤ 140737488355328) then K .normal { slots := [(3, .hw 0), (6, .vl segTy f), (7, .int .i64 m), (8, .int .i64 (IntKind.i64.wrap (i + (1 : Int))))], objs := [(0, .arr 10 segTy (o ++ [g]) [[.int .i64 (f.getD i.toNat segTy.zero).1, .int .i64 (f.getD i.toNat segTy.zero).2.1, .int .i64 (f.getD i.toNat segTy.zero).2.2.1, .int .i64 (f.getD i.toNat segTy.zero).2.2.2.1, .hw 1, .bool (f.getD i.toNat segTy.zero).2.2.2.2.2.1, .bool (f.getD i.toNat segTy.zero).2.2.2.2.2.2.1, .bool (f.getD i.toNat segTy.zero).2.2.2.2.2.2.2.1, .int .i64 (f.getD i.toNat segTy.zero).2.2.2.2.2.2.2.2.1, .int .u32 (f.getD i.toNat segTy.zero).2.2.2.2.2.2.2.2.2]]), (1, .log recTy (f.getD i.toNat segTy.zero).2.2.2.2.1)], nx := 2 } else none else none else none else K (.exit 0) { slots := [(3, .hw 0), (6, .vl segTy f), (7, .int .i64 m), (8, .int .i64 i)], objs := [(0, .arr 10 segTy o [[.int .i64 g.1, .int .i64 g.2.1, .int .i64 g.2.2.1, .int .i64 g.2.2.2.1, .hw 1, .bool g.2.2.2.2.2.1, .bool g.2.2.2.2.2.2.1, .bool g.2.2.2.2.2.2.2.1, .int .i64 g.2.2.2.2.2.2.2.2.1, .int .u32 g.2.2.2.2.2.2.2.2.2]]), (1, .log recTy g.2.2.2.2.1)], nx := 2 } := by kernel_rfl
def alvSt (f : List Seg) (i : Nat) : St := ⟨[(3, .hw 0), (6, .vl segT f), (7, .int .i64 f.length), (8, .int .i64 (i + 1 : Nat))], [(0, .arr 10 segT (f.take i) [segO (f.getD i segTy.zero) 1]), (1, .log recT (f.getD i segTy.zero).2.2.2.2.1)], 2⟩
theorem alv_rounds {R : Type} (f : List Seg) (h : smallL f = true) (K : Ex → St → Option R) : ∀ (m i : Nat), i + 1 + m = f.length → rounds (env consK2L) H.allL 0 (LPof []) V.f65_3 L.f65_3 (m + 1) (alvSt f i) K = K (.exit 0) (alvSt f (f.length - 1))
  | 0, i, hi => by
    obtain rfl : i = f.length - 1 := by omega
    rw [rounds_succ']
    refine (alv1_rd _ _ _ _ _ _).trans ?_
    rw [cond_neg (by omega)]
    rfl
  | m + 1, i, hi => by
    have ih := alv_rounds f h K m (i + 1) (by omega)
    have hl : f.length ≤ 1000000000 := by unfold smallL at h; simp only [Bool.and_eq_true, decide_eq_true_eq] at h; exact h.1
    unfold smallL at h
    simp only [Bool.and_eq_true, decide_eq_true_eq] at h
    have h5 := small_at h.2 (show i + 1 < f.length by omega)
    have e1 := stake_snoc (l := f) (i := i) (by omega)
    have e3 : IntKind.i64.wrap (((i + 1 : Nat) : Int) + 1) = ((i + 1 + 1 : Nat) : Int) := by rw [wrap64 (by omega) (by omega)]; omega
    have e4 : (f.take i).length = i := by rw [List.length_take]; omega
    unfold alvSt at ih
    rw [e1] at ih
    rw [rounds_succ']
    refine (alv1_rd _ _ _ _ _ _).trans ?_
    rw [cond_pos (by omega), cond_pos2 (by omega) (by omega), Int.toNat_natCast, e3, e4, cond_pos h5, cond_pos (by omega)]
    exact ih
theorem alv_go (f : List Seg) (h : smallL f = true) (hL : isL f = true) : ∃ n, rounds (env consK2L) H.allL 0 (LPof []) V.f65_3 L.f65_3 n ⟨[(3, .hw 0), (6, .vl segT f), (7, .int .i64 f.length), (8, .int .i64 0)], [(0, .arr 10 segT [] [])], 1⟩ (fun e s => some (e, s)) =
    some (.exit 0, ⟨[(3, .hw 0), (6, .vl segT f), (7, .int .i64 f.length), (8, .int .i64 f.length)], [(0, .arr 10 segT (unL f).1 [actW (unL f).2.1 (unL f).2.2.1 (unL f).2.2.2.1 1]), (1, .log recT (unL f).2.2.2.2)], 2⟩) := by
  obtain ⟨M, rfl⟩ := isL_at hL
  rw [unL_segs]
  have hlen := segsL_len M
  have hr := alv_rounds (segsL M) h (fun e s => some (e, s)) M.1.length 0 (by omega)
  have hend : alvSt (segsL M) ((segsL M).length - 1) = ⟨[(3, .hw 0), (6, .vl segT (segsL M)), (7, .int .i64 (segsL M).length), (8, .int .i64 (segsL M).length)], [(0, .arr 10 segT M.1 [actW M.2.1 M.2.2.1 M.2.2.2.1 1]), (1, .log recT M.2.2.2.2)], 2⟩ := by
    unfold alvSt
    rw [segsL_getLast]
    have : (segsL M).take ((segsL M).length - 1) = M.1 := by rw [hlen]; unfold segsL; exact List.take_left' rfl
    rw [this, show (segsL M).length - 1 + 1 = (segsL M).length by omega]
    rfl
  rw [hend] at hr
  refine ⟨M.1.length + 1 + 1, ?_⟩
  rw [rounds_succ']
  refine (alv0_rd _ _ _ _).trans ?_
  have hs := h
  unfold smallL at hs
  simp only [Bool.and_eq_true, decide_eq_true_eq] at hs
  have h5 : ((segsL M).getD (0 : Int).toNat segTy.zero).2.2.2.2.1.length ≤ 1000000000 := small_at hs.2 (show 0 < (segsL M).length by omega)
  have e3 : IntKind.i64.wrap ((0 : Int) + 1) = ((0 + 1 : Nat) : Int) := by rw [wrap64 (by omega) (by omega)]; omega
  rw [cond_pos (by omega), cond_pos2 (by omega) (by omega), e3, cond_pos h5]
  exact hr
abbrev alvLC : LoopC := LoopC.of ⟨[(3, .lit (.hw 0)), (6, .vl segT), (7, .int .i64), (8, .int .i64)], [.arr 10 segT []]⟩
  (fun ⟨⟨_, f, m, i, _⟩, ⟨⟨o, _⟩, _⟩⟩ => decide (i = (0 : Int)) && decide (m = (List.length f : Int)) && List.isEmpty o && smallL f && isL f)
  fun ⟨⟨_, f, m, i, _⟩, ⟨⟨o, _⟩, _⟩⟩ => [(true, .exit 0, ⟨[(3, .hw 0), (6, .vl segT f), (7, .int .i64 (List.length f : Nat)), (8, .int .i64 (List.length f : Nat))], [(0, .arr 10 segT (unL f).1 [actW (unL f).2.1 (unL f).2.2.1 (unL f).2.2.2.1 1]), (1, .log recT (unL f).2.2.2.2)], 2⟩)]
theorem alv_lok : LoopOK P0 H.allL 0 L.f65_3 alvLC :=
  loop_ok_of (env_ok consK2L_ok) glob0 mixed0 noLoops V.f65_3 (by decide) fun ⟨⟨_, f, m, i, _⟩, ⟨⟨o, _⟩, _⟩⟩ h hw => by
    simp only [Bool.and_eq_true, decide_eq_true_eq, List.isEmpty_iff] at h
    obtain ⟨⟨⟨⟨rfl, rfl⟩, rfl⟩, h4⟩, h5⟩ := h
    exact alv_go f h4 h5
theorem allvO_ev (f : List Seg) : evFn (env consK2L) H.allL (LPof [(3, alvLC)]) F.f65 [.vl segT f] [] (finV (.lit (.hw 0)) [.arr 10 segT [actWP 1], .log recT] 0) = bif decide ((↑f.length : Int) = (↑f.length : Int)) && true && smallL f && isL f && true then some ((), ((unL f).1, ((unL f).2.1, (unL f).2.2.1, (), (), (), (), (), (), (unL f).2.2.2.1, (), ()), ()), (unL f).2.2.2.2, ()) else none := by kernel_rfl
def caseAllvO : VCase := ⟨[.vl segT], [], .lit (.hw 0), [.arr 10 segT [actWP 1], .log recT], fun ⟨f, _⟩ _ => [(smallL f && isL f, ((), (((unL f).1, ((unL f).2.1, (unL f).2.2.1, (), (), (), (), (), (), (unL f).2.2.2.1, (), ()), ()), (unL f).2.2.2.2, ())))]⟩
theorem allvO_ok : caseAllvO.e.ok P0 I.f65 := vcase_ok (c := caseAllvO) (H := H.allL) (E := env consK2L) (env_ok consK2L_ok) glob0 mixed0 G.f65 Bd.f65 (by kernel_rfl) (loops_good (tab := [(3, alvLC)]) (by kernel_rfl) (fun x hx => by simp at hx; subst hx; exact alv_lok)) fun ⟨f, _⟩ _ r h hw1 hw2 => by
  obtain ⟨hc, rfl⟩ := pick_pre h
  refine (allvO_ev f).trans ?_
  have hc : (smallL f && isL f) = true := hc
  simp only [Bool.and_eq_true] at hc
  rw [hc.1, hc.2]
  simp only [decide_true, Bool.and_self, cond_true]
  rfl
noncomputable abbrev consOfO : List (FuncId × Con) := [(I.f68, .pure (pureOf [caseMay])), (I.f65, .eff (effOf [caseAllvO.e]))] ++ consE2
theorem consOfO_ok : ∀ x ∈ consOfO, HoldsC P0 x.1 x.2 := by
  intro x hx
  rcases List.mem_append.1 hx with hx | hx
  · simp at hx
    rcases hx with rfl | rfl
    · exact ⟨pureOf_holds (by simp; exact may_ok), C.f68⟩
    · exact ⟨fun args objs r objs2 h _ => effOf_holds (by simp; exact allvO_ok) args objs r objs2 h, C.f65⟩
  · exact consE2_ok x hx
theorem ofO_ev (l : List Seg) : evFn (env consOfO) H.f64 (LPof [(5, ofLC)]) F.f64 [.vl segT l] [] (finV (.tup [.lit (.ptr 0 (.tl 0) 0), .lit (.bool true)]) [.box 1 [[.lit (.hw 1)]], .arr 10 segT [actWP 2], .log recT] 0) = bif (↑l.length : Int) == (0 : Int) then none else bif decide (l = l) && decide ((↑l.length : Int) = (↑l.length : Int)) && decide ((↑l.length : Int) = (↑l.length : Int)) && smallL l && (firstFrom (badO l) 0 l.length).isSome then none else bif decide (l = l) && decide ((↑l.length : Int) = (↑l.length : Int)) && decide ((↑l.length : Int) = (↑l.length : Int)) && smallL l && true then bif smallL l && isL l then some (((), (), ()), (((), ()), ()), ((unL l).1, ((unL l).2.1, (unL l).2.2.1, (), (), (), (), (), (), (unL l).2.2.2.1, (), ()), ()), (unL l).2.2.2.2, ()) else none else none := by kernel_rfl
def caseOfO : VCase := ⟨[.vl segT], [], .tup [.lit (.ptr 0 (.tl 0) 0), .lit (.bool true)], [.box 1 [[.lit (.hw 1)]], .arr 10 segT [actWP 2], .log recT], fun ⟨l, _⟩ _ => [(smallL l && rightO l && isL l, (((), (), ()), ((((), ()), ()), ((unL l).1, ((unL l).2.1, (unL l).2.2.1, (), (), (), (), (), (), (unL l).2.2.2.1, (), ()), ()), (unL l).2.2.2.2, ())))]⟩
theorem ofO_ok : caseOfO.e.ok P0 I.f64 := vcase_ok (c := caseOfO) (H := H.f64) (E := env consOfO) (env_ok consOfO_ok) glob0 mixed0 G.f64 Bd.f64 (by kernel_rfl) (loops_good (tab := [(5, ofLC)]) (by kernel_rfl) (fun x hx => by simp at hx; subst hx; exact of_lok)) fun ⟨l, _⟩ _ r h hw1 hw2 => by
  obtain ⟨hc, rfl⟩ := pick_pre h
  simp only [Bool.and_eq_true] at hc
  refine (ofO_ev l).trans ?_
  have h2 := hc.1.2
  unfold rightO at h2
  rw [len0_eq, hc.1.1, hc.2]
  cases h0 : decide (0 < List.length l) with
  | false => rw [h0] at h2; cases h2
  | true =>
    rw [h0, Bool.true_and] at h2
    simp only [decide_true, Bool.not_true, cond_false, Bool.true_and]
    cases hf : firstFrom (badO l) 0 (List.length l) with
    | none => rfl
    | some j => rw [hf] at h2; cases h2
end Go.Sim
namespace Go.Sim
set_option linter.unusedSimpArgs false
set_option linter.unusedVariables false
set_option maxRecDepth 10000
noncomputable abbrev consWH : List (FuncId × Con) := [(I.f50, .eff (effOf [caseCopy.e])), (I.f64, .eff (effOf [caseOfO.e])), (I.f9, .eff (effOf [caseCsg.e])), (I.f4, .eff (effOf [caseSame15.e]))] ++ consWB
theorem consWH_ok : ∀ x ∈ consWH, HoldsC P0 x.1 x.2 := by
  intro x hx
  rcases List.mem_append.1 hx with hx | hx
  · simp at hx
    rcases hx with rfl | rfl | rfl | rfl
    · exact ⟨fun args objs r objs2 h _ => effOf_holds (by simp; exact copy_ok) args objs r objs2 h, C.f50⟩
    · exact ⟨fun args objs r objs2 h _ => effOf_holds (by simp; exact ofO_ok) args objs r objs2 h, C.f64⟩
    · exact ⟨fun args objs r objs2 h _ => effOf_holds (by simp; exact csg_ok) args objs r objs2 h, C.f9⟩
    · exact ⟨fun args objs r objs2 h _ => effOf_holds (by simp; exact same15_ok) args objs r objs2 h, C.f4⟩
  · exact consWB_ok x hx
def H.copy15 : Hint := { H.f5 with join := [(2, 6), (3, 29)], loops := [(8, [0, 1, 7, 8, 9]), (18, [1, 7, 8, 10, 11, 13, 14, 15])] }
theorem cp8_rd {R : Type} (l more : List ractT.den) (i : Int) (M : LogS) (d : List Seg) (K : Ex → St → Option R) : roundK (env consWH) H.copy15 0 (LPof []) V.f5_8 L.f5_8 ⟨[(0, .vl ractT l), (1, .vl ractT more), (7, .ptr 0 (.tl 0) 0), (8, .ptr 3 (.tl 0) 0), (9, .int .i64 i)], [(0, .arr 1 .bool [] [[.hw 1]]), (1, .arr 10 segT M.1 [actW M.2.1 M.2.2.1 M.2.2.2.1 2]), (2, .log recT M.2.2.2.2), (3, .arr 1 .bool [] [[.hw 4]]), (4, .arr 10 segT d [])], 5⟩ K = bif decide (i < (↑l.length : Int)) then bif decide ((0 : Int) ≤ i) && decide (i < (↑l.length : Int)) then bif doB (l.getD i.toNat ractT.zero).2.2.2.2.1 M d then K .normal { slots := [(0, .vl ractT l), (1, .vl ractT more), (7, .ptr 0 (.tl 0) 0), (8, .ptr 3 (.tl 0) 0), (9, .int .i64 (IntKind.i64.wrap (i + (1 : Int))))], objs := [(0, .arr 1 .bool [] [[.hw 1]]), (1, .arr 10 segTy (doP (l.getD i.toNat ractT.zero) M).1 [[.int .i64 (doP (l.getD i.toNat ractT.zero) M).2.1, .int .i64 (doP (l.getD i.toNat ractT.zero) M).2.2.1, .int .i64 (0 : Int), .int .i64 (0 : Int), .hw 2, .bool false, .bool false, .bool false, .int .i64 (doP (l.getD i.toNat ractT.zero) M).2.2.2.1, .int .u32 (0 : Int)]]), (2, .log recTy (doP (l.getD i.toNat ractT.zero) M).2.2.2.2), (3, .arr 1 .bool [] [[.hw 4]]), (4, .arr 10 segTy (segsL (doP (l.getD i.toNat ractT.zero) M)) [])], nx := 5 } else none else none else K (.exit 0) { slots := [(0, .vl ractT l), (1, .vl ractT more), (7, .ptr 0 (.tl 0) 0), (8, .ptr 3 (.tl 0) 0), (9, .int .i64 i)], objs := [(0, .arr 1 .bool [] [[.hw 1]]), (1, .arr 10 segTy M.1 [[.int .i64 M.2.1, .int .i64 M.2.2.1, .int .i64 (0 : Int), .int .i64 (0 : Int), .hw 2, .bool false, .bool false, .bool false, .int .i64 M.2.2.2.1, .int .u32 (0 : Int)]]), (2, .log recTy M.2.2.2.2), (3, .arr 1 .bool [] [[.hw 4]]), (4, .arr 10 segTy d [])], nx := 5 } := by kernel_rfl
theorem cp18_rd {R : Type} (more : List ractT.den) (i : Int) (M M2 M3 : LogS) (d d2 d3 : List Seg) (K : Ex → St → Option R) : roundK (env consWH) H.copy15 0 (LPof []) [1, 7, 8, 10, 11, 13, 14, 15] L.f5_18 ⟨[(1, .vl ractT more), (7, .ptr 0 (.tl 0) 0), (8, .ptr 3 (.tl 0) 0), (10, .ptr 5 (.tl 0) 0), (11, .ptr 8 (.tl 0) 0), (13, .ptr 11 (.tl 0) 0), (14, .ptr 13 (.tl 0) 0), (15, .int .i64 i)], [(0, .arr 1 .bool [] [[.hw 1]]), (1, .arr 10 segT M.1 [actW M.2.1 M.2.2.1 M.2.2.2.1 2]), (2, .log recT M.2.2.2.2), (3, .arr 1 .bool [] [[.hw 4]]), (4, .arr 10 segT d []), (5, .arr 1 .bool [] [[.hw 6]]), (6, .arr 10 segT M2.1 [actW M2.2.1 M2.2.2.1 M2.2.2.2.1 7]), (7, .log recT M2.2.2.2.2), (8, .arr 1 .bool [] [[.hw 9]]), (9, .arr 10 segT M3.1 [actW M3.2.1 M3.2.2.1 M3.2.2.2.1 10]), (10, .log recT M3.2.2.2.2), (11, .arr 1 .bool [] [[.hw 12]]), (12, .arr 10 segT d2 []), (13, .arr 1 .bool [] [[.hw 14]]), (14, .arr 10 segT d3 [])], 15⟩ K = bif decide (i < (↑more.length : Int)) then bif decide ((0 : Int) ≤ i) && decide (i < (↑more.length : Int)) then bif doB (more.getD i.toNat ractT.zero).2.2.2.2.1 M2 d2 then bif decide ((0 : Int) ≤ i) && decide (i < (↑more.length : Int)) then bif doB (more.getD i.toNat ractT.zero).2.2.2.2.1 M3 d3 then K .normal { slots := [(1, .vl ractT more), (7, .ptr 0 (.tl 0) 0), (8, .ptr 3 (.tl 0) 0), (10, .ptr 5 (.tl 0) 0), (11, .ptr 8 (.tl 0) 0), (13, .ptr 11 (.tl 0) 0), (14, .ptr 13 (.tl 0) 0), (15, .int .i64 (IntKind.i64.wrap (i + (1 : Int))))], objs := [(0, .arr 1 .bool [] [[.hw 1]]), (1, .arr 10 segTy M.1 [[.int .i64 M.2.1, .int .i64 M.2.2.1, .int .i64 (0 : Int), .int .i64 (0 : Int), .hw 2, .bool false, .bool false, .bool false, .int .i64 M.2.2.2.1, .int .u32 (0 : Int)]]), (2, .log recTy M.2.2.2.2), (3, .arr 1 .bool [] [[.hw 4]]), (4, .arr 10 segTy d []), (5, .arr 1 .bool [] [[.hw 6]]), (6, .arr 10 segTy (doP (more.getD i.toNat ractT.zero) M2).1 [[.int .i64 (doP (more.getD i.toNat ractT.zero) M2).2.1, .int .i64 (doP (more.getD i.toNat ractT.zero) M2).2.2.1, .int .i64 (0 : Int), .int .i64 (0 : Int), .hw 7, .bool false, .bool false, .bool false, .int .i64 (doP (more.getD i.toNat ractT.zero) M2).2.2.2.1, .int .u32 (0 : Int)]]), (7, .log recTy (doP (more.getD i.toNat ractT.zero) M2).2.2.2.2), (8, .arr 1 .bool [] [[.hw 9]]), (9, .arr 10 segTy (doP (more.getD i.toNat ractT.zero) M3).1 [[.int .i64 (doP (more.getD i.toNat ractT.zero) M3).2.1, .int .i64 (doP (more.getD i.toNat ractT.zero) M3).2.2.1, .int .i64 (0 : Int), .int .i64 (0 : Int), .hw 10, .bool false, .bool false, .bool false, .int .i64 (doP (more.getD i.toNat ractT.zero) M3).2.2.2.1, .int .u32 (0 : Int)]]), (10, .log recTy (doP (more.getD i.toNat ractT.zero) M3).2.2.2.2), (11, .arr 1 .bool [] [[.hw 12]]), (12, .arr 10 segTy (segsL (doP (more.getD i.toNat ractT.zero) M2)) []), (13, .arr 1 .bool [] [[.hw 14]]), (14, .arr 10 segTy (segsL (doP (more.getD i.toNat ractT.zero) M3)) [])], nx := 15 } else none else none else none else none else K (.exit 2) { slots := [(1, .vl ractT more), (7, .ptr 0 (.tl 0) 0), (8, .ptr 3 (.tl 0) 0), (10, .ptr 5 (.tl 0) 0), (11, .ptr 8 (.tl 0) 0), (13, .ptr 11 (.tl 0) 0), (14, .ptr 13 (.tl 0) 0), (15, .int .i64 i)], objs := [(0, .arr 1 .bool [] [[.hw 1]]), (1, .arr 10 segTy M.1 [[.int .i64 M.2.1, .int .i64 M.2.2.1, .int .i64 (0 : Int), .int .i64 (0 : Int), .hw 2, .bool false, .bool false, .bool false, .int .i64 M.2.2.2.1, .int .u32 (0 : Int)]]), (2, .log recTy M.2.2.2.2), (3, .arr 1 .bool [] [[.hw 4]]), (4, .arr 10 segTy d []), (5, .arr 1 .bool [] [[.hw 6]]), (6, .arr 10 segTy M2.1 [[.int .i64 M2.2.1, .int .i64 M2.2.2.1, .int .i64 (0 : Int), .int .i64 (0 : Int), .hw 7, .bool false, .bool false, .bool false, .int .i64 M2.2.2.2.1, .int .u32 (0 : Int)]]), (7, .log recTy M2.2.2.2.2), (8, .arr 1 .bool [] [[.hw 9]]), (9, .arr 10 segTy M3.1 [[.int .i64 M3.2.1, .int .i64 M3.2.2.1, .int .i64 (0 : Int), .int .i64 (0 : Int), .hw 10, .bool false, .bool false, .bool false, .int .i64 M3.2.2.2.1, .int .u32 (0 : Int)]]), (10, .log recTy M3.2.2.2.2), (11, .arr 1 .bool [] [[.hw 12]]), (12, .arr 10 segTy d2 []), (13, .arr 1 .bool [] [[.hw 14]]), (14, .arr 10 segTy d3 [])], nx := 15 } := by kernel_rfl
end Go.Sim
namespace Go.Sim
set_option linter.unusedSimpArgs false
set_option linter.unusedVariables false
set_option maxRecDepth 10000
def runE (more : List ractT.den) (M0 : LogS) : Nat → LogS
  | 0 => M0
  | i + 1 => doP (more.getD i ractT.zero) (runE more M0 i)
theorem runE_inv {more : List ractT.den} (hl : more.length ≤ 40) (hb : (firstFrom (bigA more) 0 more.length).isSome = false) {M0 : LogS} {c v : Nat} (hc : c ≤ 1000) (hv : v ≤ 100) (h0 : InvM (c : Int) (v : Int) M0) : ∀ i, i ≤ more.length → InvM ((c + 12 * i : Nat) : Int) ((v + i : Nat) : Int) (runE more M0 i)
  | 0, _ => h0
  | i + 1, h => by
    have h1 := runE_inv hl hb hc hv h0 i (by omega)
    have h12 := act_small hb (i := i) (by omega)
    have h2 := (InvM_do (c := c + 12 * i) (v := (v + i : Nat)) (more.getD i ractT.zero) h1 (by omega) (by omega) (by omega)).1
    exact InvM_mono h2 (by omega) (by omega)
def cpSt8 (l more : List ractT.den) (i : Nat) : St := ⟨[(0, .vl ractT l), (1, .vl ractT more), (7, .ptr 0 (.tl 0) 0), (8, .ptr 3 (.tl 0) 0), (9, .int .i64 i)], twoO (runD l i), 5⟩
theorem cp8_rounds {R : Type} (l more : List ractT.den) (hl : l.length ≤ 40) (hb : (firstFrom (bigA l) 0 l.length).isSome = false) (K : Ex → St → Option R) : ∀ (m i : Nat), i + m = l.length →
    rounds (env consWH) H.copy15 0 (LPof []) V.f5_8 L.f5_8 (m + 1) (cpSt8 l more i) K = K (.exit 0) (cpSt8 l more l.length)
  | 0, i, h => by
    obtain rfl : i = l.length := by omega
    rw [rounds_succ']
    refine (cp8_rd _ _ _ _ _ _).trans ?_
    rw [cond_neg (by omega)]
    rfl
  | m + 1, i, h => by
    have ih := cp8_rounds l more hl hb K m (i + 1) (by omega)
    have h12 := act_small hb (i := i) (by omega)
    have e1 : IntKind.i64.wrap ((i : Int) + 1) = ((i + 1 : Nat) : Int) := by rw [wrap64 (by omega) (by omega)]; omega
    have hstep : doP (l.getD i ractT.zero) (runD l i) = runD l (i + 1) := rfl
    rw [rounds_succ']
    refine (cp8_rd _ _ _ _ _ _).trans ?_
    rw [cond_pos (by omega), cond_pos2 (by omega) (by omega), Int.toNat_natCast, doB_of rfl (runD_big hl hb (by omega)) (by omega), hstep, e1]
    exact ih
abbrev cp8LC : LoopC := LoopC.of ⟨[(0, .vl ractT), (1, .vl ractT), (7, .lit (.ptr 0 (.tl 0) 0)), (8, .lit (.ptr 3 (.tl 0) 0)), (9, .int .i64)], twoP⟩
  (fun ⟨⟨l, more, _, _, i, _⟩, ⟨_, ⟨f, ⟨b, n, _, _, _, _, _, _, z, _, _⟩, _⟩, rs, _, ⟨d, _⟩, _⟩⟩ => decide (i = (0 : Int)) && decide (List.length l ≤ 40) && !(firstFrom (bigA l) 0 (List.length l)).isSome && decide ((f, b, n, z, rs) = (([], 0, 0, 0, []) : LogS)) && decide (d = [segTy.zero]))
  fun ⟨⟨l, more, _, _, i, _⟩, ⟨_, ⟨f, ⟨b, n, _, _, _, _, _, _, z, _, _⟩, _⟩, rs, _, ⟨d, _⟩, _⟩⟩ => [(true, .exit 0, cpSt8 l more (List.length l))]
theorem cp8_go (l more : List ractT.den) (i : Int) (M : LogS) (d : List Seg) (h1 : i = 0) (h4 : l.length ≤ 40) (h5 : (firstFrom (bigA l) 0 l.length).isSome = false) (h6 : M = ([], 0, 0, 0, [])) (h7 : d = [segTy.zero]) :
    ∃ m, rounds (env consWH) H.copy15 0 (LPof []) V.f5_8 L.f5_8 m ⟨[(0, .vl ractT l), (1, .vl ractT more), (7, .ptr 0 (.tl 0) 0), (8, .ptr 3 (.tl 0) 0), (9, .int .i64 i)], [(0, .arr 1 .bool [] [[.hw 1]]), (1, .arr 10 segT M.1 [actW M.2.1 M.2.2.1 M.2.2.2.1 2]), (2, .log recT M.2.2.2.2), (3, .arr 1 .bool [] [[.hw 4]]), (4, .arr 10 segT d [])], 5⟩ (fun e s => some (e, s)) = some (.exit 0, cpSt8 l more l.length) := by
  subst h1 h6 h7
  exact ⟨_, cp8_rounds l more h4 h5 _ l.length 0 (Nat.zero_add _)⟩
theorem cp8_lok : LoopOK P0 H.copy15 0 L.f5_8 cp8LC :=
  loop_ok_of (env_ok consWH_ok) glob0 mixed0 noLoops V.f5_8 (by decide) fun ⟨⟨l, more, _, _, i, _⟩, ⟨_, ⟨f, ⟨b, n, _, _, _, _, _, _, z, _, _⟩, _⟩, rs, _, ⟨d, _⟩, _⟩⟩ h hw => by
    simp only [Bool.and_eq_true, decide_eq_true_eq, Bool.not_eq_true'] at h
    obtain ⟨⟨⟨⟨h1, h4⟩, h5⟩, h6⟩, h7⟩ := h
    exact cp8_go l more i (f, b, n, z, rs) d h1 h4 h5 h6 h7
abbrev sixO (M : LogS) (d : List Seg) (M2 M3 : LogS) : List (Nat × AObj) := [(0, .arr 1 .bool [] [[.hw 1]]), (1, .arr 10 segT M.1 [actW M.2.1 M.2.2.1 M.2.2.2.1 2]), (2, .log recT M.2.2.2.2), (3, .arr 1 .bool [] [[.hw 4]]), (4, .arr 10 segT d []),
    (5, .arr 1 .bool [] [[.hw 6]]), (6, .arr 10 segT M2.1 [actW M2.2.1 M2.2.2.1 M2.2.2.2.1 7]), (7, .log recT M2.2.2.2.2), (8, .arr 1 .bool [] [[.hw 9]]), (9, .arr 10 segT M3.1 [actW M3.2.1 M3.2.2.1 M3.2.2.2.1 10]), (10, .log recT M3.2.2.2.2),
    (11, .arr 1 .bool [] [[.hw 12]]), (12, .arr 10 segT (segsL M2) []), (13, .arr 1 .bool [] [[.hw 14]]), (14, .arr 10 segT (segsL M3) [])]
def cpSt18 (more : List ractT.den) (M : LogS) (d : List Seg) (M0 : LogS) (i : Nat) : St := ⟨[(1, .vl ractT more), (7, .ptr 0 (.tl 0) 0), (8, .ptr 3 (.tl 0) 0), (10, .ptr 5 (.tl 0) 0), (11, .ptr 8 (.tl 0) 0), (13, .ptr 11 (.tl 0) 0), (14, .ptr 13 (.tl 0) 0), (15, .int .i64 i)], sixO M d (runE more M0 i) (runE more M0 i), 15⟩
theorem cp18_rounds {R : Type} (more : List ractT.den) (M : LogS) (d : List Seg) (M0 : LogS) (hl : more.length ≤ 40) (hb : (firstFrom (bigA more) 0 more.length).isSome = false) (h0 : InvM 1000 100 M0) (K : Ex → St → Option R) : ∀ (m i : Nat), i + m = more.length →
    rounds (env consWH) H.copy15 0 (LPof []) [1, 7, 8, 10, 11, 13, 14, 15] L.f5_18 (m + 1) (cpSt18 more M d M0 i) K = K (.exit 2) (cpSt18 more M d M0 more.length)
  | 0, i, h => by
    obtain rfl : i = more.length := by omega
    rw [rounds_succ']
    refine (cp18_rd _ _ _ _ _ _ _ _ _).trans ?_
    rw [cond_neg (by omega)]
    rfl
  | m + 1, i, h => by
    have ih := cp18_rounds more M d M0 hl hb h0 K m (i + 1) (by omega)
    have h12 := act_small hb (i := i) (by omega)
    have e1 : IntKind.i64.wrap ((i : Int) + 1) = ((i + 1 : Nat) : Int) := by rw [wrap64 (by omega) (by omega)]; omega
    have hinv := runE_inv hl hb (c := 1000) (v := 100) (by omega) (by omega) h0 i (by omega)
    have hbig : InvM 1000000 1000000 (runE more M0 i) := InvM_mono hinv (by omega) (by omega)
    have hstep : doP (more.getD i ractT.zero) (runE more M0 i) = runE more M0 (i + 1) := rfl
    rw [rounds_succ']
    refine (cp18_rd _ _ _ _ _ _ _ _ _).trans ?_
    rw [cond_pos (by omega), cond_pos2 (by omega) (by omega), Int.toNat_natCast, doB_of rfl hbig (by omega), cond_true, cond_pos2 (by omega) (by omega), cond_true, hstep, e1]
    exact ih
abbrev sixP : List OPat := [.box 1 [[.lit (.hw 1)]], .arr 10 segT [actWP 2], .log recT, .box 1 [[.lit (.hw 4)]], .arr 10 segT [], .box 1 [[.lit (.hw 6)]], .arr 10 segT [actWP 7], .log recT, .box 1 [[.lit (.hw 9)]], .arr 10 segT [actWP 10], .log recT, .box 1 [[.lit (.hw 12)]], .arr 10 segT [], .box 1 [[.lit (.hw 14)]], .arr 10 segT []]
noncomputable def sixB (more : List ractT.den) (M2 M3 : LogS) (d2 d3 : List Seg) : Bool := @decide (more.length ≤ 40 ∧ (firstFrom (bigA more) 0 more.length).isSome = false ∧ M3 = M2 ∧ d2 = segsL M2 ∧ d3 = segsL M2 ∧ InvM 1000 100 M2) (Classical.propDecidable _)
noncomputable abbrev cp18LC : LoopC := LoopC.of ⟨[(1, .vl ractT), (7, .lit (.ptr 0 (.tl 0) 0)), (8, .lit (.ptr 3 (.tl 0) 0)), (10, .lit (.ptr 5 (.tl 0) 0)), (11, .lit (.ptr 8 (.tl 0) 0)), (13, .lit (.ptr 11 (.tl 0) 0)), (14, .lit (.ptr 13 (.tl 0) 0)), (15, .int .i64)], sixP⟩
  (fun ⟨⟨more, _, _, _, _, _, _, i, _⟩, ⟨_, ⟨f, ⟨b, n, _, _, _, _, _, _, z, _, _⟩, _⟩, rs, _, ⟨d, _⟩, _, ⟨f2, ⟨b2, n2, _, _, _, _, _, _, z2, _, _⟩, _⟩, rs2, _, ⟨f3, ⟨b3, n3, _, _, _, _, _, _, z3, _, _⟩, _⟩, rs3, _, ⟨d2, _⟩, _, ⟨d3, _⟩, _⟩⟩ => decide (i = (0 : Int)) && sixB more (f2, b2, n2, z2, rs2) (f3, b3, n3, z3, rs3) d2 d3)
  fun ⟨⟨more, _, _, _, _, _, _, i, _⟩, ⟨_, ⟨f, ⟨b, n, _, _, _, _, _, _, z, _, _⟩, _⟩, rs, _, ⟨d, _⟩, _, ⟨f2, ⟨b2, n2, _, _, _, _, _, _, z2, _, _⟩, _⟩, rs2, _, ⟨f3, ⟨b3, n3, _, _, _, _, _, _, z3, _, _⟩, _⟩, rs3, _, ⟨d2, _⟩, _, ⟨d3, _⟩, _⟩⟩ => [(true, .exit 2, cpSt18 more (f, b, n, z, rs) d (f2, b2, n2, z2, rs2) (List.length more))]
theorem cp18_go (more : List ractT.den) (i : Int) (M M2 M3 : LogS) (d d2 d3 : List Seg) (h1 : i = 0) (h2 : sixB more M2 M3 d2 d3 = true) : ∃ m, rounds (env consWH) H.copy15 0 (LPof []) [1, 7, 8, 10, 11, 13, 14, 15] L.f5_18 m
    ⟨[(1, .vl ractT more), (7, .ptr 0 (.tl 0) 0), (8, .ptr 3 (.tl 0) 0), (10, .ptr 5 (.tl 0) 0), (11, .ptr 8 (.tl 0) 0), (13, .ptr 11 (.tl 0) 0), (14, .ptr 13 (.tl 0) 0), (15, .int .i64 i)],
   [(0, .arr 1 .bool [] [[.hw 1]]), (1, .arr 10 segT M.1 [actW M.2.1 M.2.2.1 M.2.2.2.1 2]), (2, .log recT M.2.2.2.2), (3, .arr 1 .bool [] [[.hw 4]]), (4, .arr 10 segT d []),
    (5, .arr 1 .bool [] [[.hw 6]]), (6, .arr 10 segT M2.1 [actW M2.2.1 M2.2.2.1 M2.2.2.2.1 7]), (7, .log recT M2.2.2.2.2), (8, .arr 1 .bool [] [[.hw 9]]), (9, .arr 10 segT M3.1 [actW M3.2.1 M3.2.2.1 M3.2.2.2.1 10]), (10, .log recT M3.2.2.2.2),
    (11, .arr 1 .bool [] [[.hw 12]]), (12, .arr 10 segT d2 []), (13, .arr 1 .bool [] [[.hw 14]]), (14, .arr 10 segT d3 [])], 15⟩ (fun e s => some (e, s)) = some (.exit 2, cpSt18 more M d M2 more.length) := by
  obtain ⟨g1, g2, rfl, rfl, rfl, g6⟩ := @of_decide_eq_true _ (Classical.propDecidable _) h2
  subst h1
  exact ⟨_, cp18_rounds more M d M3 g1 g2 g6 _ more.length 0 (Nat.zero_add _)⟩
theorem cp18_lok : LoopOK P0 H.copy15 0 L.f5_18 cp18LC :=
  loop_ok_of (env_ok consWH_ok) glob0 mixed0 noLoops [1, 7, 8, 10, 11, 13, 14, 15] (by decide) fun ⟨⟨more, _, _, _, _, _, _, i, _⟩, ⟨_, ⟨f, ⟨b, n, _, _, _, _, _, _, z, _, _⟩, _⟩, rs, _, ⟨d, _⟩, _, ⟨f2, ⟨b2, n2, _, _, _, _, _, _, z2, _, _⟩, _⟩, rs2, _, ⟨f3, ⟨b3, n3, _, _, _, _, _, _, z3, _, _⟩, _⟩, rs3, _, ⟨d2, _⟩, _, ⟨d3, _⟩, _⟩⟩ h hw => by
    simp only [Bool.and_eq_true, decide_eq_true_eq] at h
    exact cp18_go more i (f, b, n, z, rs) (f2, b2, n2, z2, rs2) (f3, b3, n3, z3, rs3) d d2 d3 h.1 h.2
theorem copy15_ev (l more : List ractT.den) : evFn (env consWH) H.copy15 (LPof [(8, cp8LC), (18, cp18LC)]) F.f5 [.vl ractT l, .vl ractT more] [] (finT [.bool]) = Option.bind (bif bigAct l then some true else some (bigAct more)) fun v => bif v then some (true, ()) else bif decide (l.length ≤ 40) && !(firstFrom (bigA l) 0 l.length).isSome && true && true && true then bif smallL (runD l l.length).1 && decide ((runD l l.length).2.2.2.2.length ≤ 1000000000) then bif smallL (runD l l.length).1 && decide ((runD l l.length).2.2.2.2.length ≤ 1000000000) then bif smallL (segsL (runD l l.length)) && rightO (segsL (runD l l.length)) && isL (segsL (runD l l.length)) then bif smallL (segsL (runD l l.length)) then bif smallL (segsL (runD l l.length)) then bif sixB more (runD l l.length) (unL (segsL (runD l l.length))) (segsL (runD l l.length)) (segsL (runD l l.length)) && true then bif samB (runD l l.length) (segsL (runD l l.length)) then bif samB (runE more (runD l l.length) more.length) (segsL (runE more (runD l l.length) more.length)) then bif samB (runE more (runD l l.length) more.length) (segsL (runE more (runD l l.length) more.length)) then some (true, ()) else none else none else none else none else none else none else none else none else none else none := by kernel_rfl
theorem copy15_val (l more : List ractT.den) : evFn (env consWH) H.copy15 (LPof [(8, cp8LC), (18, cp18LC)]) F.f5 [.vl ractT l, .vl ractT more] [] (finT [.bool]) = some (true, ()) := by
  rw [copy15_ev]
  cases hb : bigAct l with
  | true => rfl
  | false =>
    cases hb2 : bigAct more with
    | true => rfl
    | false =>
      obtain ⟨b1, b2⟩ := bigAct_no hb
      obtain ⟨c1, c2⟩ := bigAct_no hb2
      have hinv := runD_inv b1 b2 l.length (Nat.le_refl _)
      have h0 : InvM 1000 100 (runD l l.length) := InvM_mono hinv (by omega) (by omega)
      have hbig : InvM 1000000 1000000 (runD l l.length) := InvM_mono h0 (by omega) (by omega)
      have hend := runE_inv c1 c2 (c := 1000) (v := 100) (by omega) (by omega) h0 more.length (Nat.le_refl _)
      have hend2 : InvM 1000000 1000000 (runE more (runD l l.length) more.length) := InvM_mono hend (by omega) (by omega)
      have hright := InvM_right hbig (by omega)
      rw [← right_eq] at hright
      obtain ⟨M, hM⟩ : ∃ M, M = runD l l.length := ⟨_, rfl⟩
      rw [← hM] at hinv h0 hbig hend2 hright ⊢
      obtain ⟨s1, s2, s3⟩ := InvM_small hinv (by omega)
      have hok := okB_iff.1 (InvM_ok hinv (by omega))
      have p1 : decide (M.2.2.2.2.length ≤ 1000000000) = true := decide_eq_true (by omega)
      have p2 : sixB more M M (segsL M) (segsL M) = true := @decide_eq_true _ (Classical.propDecidable _) ⟨c1, c2, rfl, rfl, rfl, h0⟩
      rw [b2, s2, p1, s1, hright, isL_segs, unL_segs, p2, samB_of rfl hbig, samB_of rfl hend2, decide_eq_true b1]
      rfl
def caseCopy15 : PCase := ⟨[.ty (.sl ractT), .ty (.sl ractT)], [.bool], fun x => [(true, (true, ()))]⟩
theorem copy15_ok : caseCopy15.ok P0 I.f5 := case_ok2 (H := H.copy15) (E := env consWH) (env_ok consWH_ok) glob0 mixed0 G.f5 Bd.f5 (by kernel_rfl) (loops_good (tab := [(8, cp8LC), (18, cp18LC)]) (by kernel_rfl) (fun x hx => by simp at hx; rcases hx with rfl | rfl; exact cp8_lok; exact cp18_lok)) fun ⟨l, more, ()⟩ y h hw => by
  obtain ⟨hc, rfl⟩ := pick_pre h
  exact copy15_val l more
theorem copy15_good (x : tysDen [.sl ractT, .sl ractT]) (hw : tysWf [.sl ractT, .sl ractT] x) : ∃ o, EffGood P0 I.f5 (valsOf [.sl ractT, .sl ractT] x) [] (.bool true) o := copy15_ok x (true, ()) rfl hw
end Go.Sim
