/-
  WkRet: the walks of package retain and of the reference's functions of that chapter.
-/
import Derived.Test.YtnncnhalcbpjpaaEnvA
import Derived.Test.YtnncnhalcbpjpaaPlRet
namespace Go.Sim
set_option linter.unusedSimpArgs false
set_option linter.unusedVariables false

theorem old_ev (g : Seg) (c : Cnf) (now : Int) : evFn (env []) H.retain_old (LPof []) F.retain_old [valOf segTy g, valOf confTy c, .int .i64 now] [] (finK 0) =
  Option.bind
    (bif decide (c.snd.snd.fst > (0 : Int)) then
      bif decide (now > g.snd.snd.fst) then
        some (decide (IntKind.u64.wrap (IntKind.u64.wrap now - IntKind.u64.wrap g.snd.snd.fst) > IntKind.u64.wrap c.snd.snd.fst))
      else some false
    else some false)
    fun v => some (AV.bool v, []) := by kernel_rfl

def caseOld : PCase := ⟨[.ty segTy, .ty confTy, .ty (.int .i64)], [.bool], fun x => [(true, (isOld x.1 x.2.1 x.2.2.1, ()))]⟩
theorem env_nil : ∀ x ∈ ([] : List (FuncId × Con)), HoldsC P0 x.1 x.2 := fun x h => by cases h

theorem u64_diff {a b : Int} (ha : In .i64 a) (hb : In .i64 b) (h : a > b) : IntKind.u64.wrap (IntKind.u64.wrap a - IntKind.u64.wrap b) = a - b := by
  rw [In.i64] at ha hb
  simp only [wrapu64_mod]
  omega
theorem u64_pos {a : Int} (ha : In .i64 a) (h : 0 ≤ a) : IntKind.u64.wrap a = a := by
  rw [In.i64] at ha
  exact wrapu64 h (by omega)

theorem old_val (g : Seg) (c : Cnf) (now : Int) (hg : In .i64 g.2.2.1) (hc : In .i64 c.2.2.1) (hn : In .i64 now) : evFn (env []) H.retain_old (LPof []) F.retain_old [valOf segTy g, valOf confTy c, .int .i64 now] [] (finK 0) = some (.bool (isOld g c now), []) := by
  rw [old_ev]
  unfold isOld
  by_cases h1 : c.2.2.1 > 0
  · by_cases h2 : now > g.2.2.1
    · rw [cond_pos h1, cond_pos h2, u64_diff hn hg h2, u64_pos hc (by omega)]
      simp [h1]
    · rw [cond_pos h1, cond_neg h2]
      have : ¬ (now - g.2.2.1 > c.2.2.1) := by omega
      simp [h1, this]
  · rw [cond_neg h1]
    simp [h1]
theorem old_ok : caseOld.ok P0 I.retain_old := case_ok (H := H.retain_old) (E := env []) (env_ok env_nil) rfl mixed0 G.retain_old Bd.retain_old (by kernel_rfl) noLoops fun ⟨g, c, now, ()⟩ y h ⟨hg, hc, hn, _⟩ => by
  obtain rfl := pick_one h
  exact ⟨[], old_val g c now hg.2.2.1 hc.2.2.1 hn⟩

theorem sizes_rd {R : Type} (l : List Seg) (out : List Int) (all i : Int) (K : Ex → St → Option R) : roundK (env []) H.retain_sizes 0 (LPof []) V.retain_sizes_4 L.retain_sizes_4 ⟨[(0, .vl segTy l), (3, .hw 0), (4, .int .u64 all), (5, .int .i64 i)], [(0, .arr 1 (.int .u64) out [])], 1⟩ K =
  bif decide (i ≥ (0 : Int)) then
    bif decide ((0 : Int) ≤ i) && decide (i < (↑l.length : Int)) then
      bif decide ((0 : Int) ≤ i) && decide (i < (↑out.length : Int)) then
        K Ex.normal
          {
            slots :=
              [(0, AV.vl segTy l), (3, AV.hw 0),
                (4,
                  AV.int IntKind.u64
                    (bif
                        decide
                          ((9223372036854775808 : Int) <
                            IntKind.u64.wrap
                              (all +
                                IntKind.u64.wrap
                                  (bif decide ((l.getD i.toNat segTy.zero).snd.snd.snd.snd.snd.snd.snd.snd.fst > (0 : Int)) then
                                    (l.getD i.toNat segTy.zero).snd.snd.snd.snd.snd.snd.snd.snd.fst
                                  else (0 : Int)))) then
                      (9223372036854775808 : Int)
                    else
                      IntKind.u64.wrap
                        (all +
                          IntKind.u64.wrap
                            (bif decide ((l.getD i.toNat segTy.zero).snd.snd.snd.snd.snd.snd.snd.snd.fst > (0 : Int)) then
                              (l.getD i.toNat segTy.zero).snd.snd.snd.snd.snd.snd.snd.snd.fst
                            else (0 : Int))))),
                (5, AV.int IntKind.i64 (IntKind.i64.wrap (i - (1 : Int))))],
            objs :=
              [(0,
                  AObj.arr 1 (Ty.int IntKind.u64)
                    (out.set i.toNat
                      (bif
                          decide
                            ((9223372036854775808 : Int) <
                              IntKind.u64.wrap
                                (all +
                                  IntKind.u64.wrap
                                    (bif decide ((l.getD i.toNat segTy.zero).snd.snd.snd.snd.snd.snd.snd.snd.fst > (0 : Int)) then
                                      (l.getD i.toNat segTy.zero).snd.snd.snd.snd.snd.snd.snd.snd.fst
                                    else (0 : Int)))) then
                        (9223372036854775808 : Int)
                      else
                        IntKind.u64.wrap
                          (all +
                            IntKind.u64.wrap
                              (bif decide ((l.getD i.toNat segTy.zero).snd.snd.snd.snd.snd.snd.snd.snd.fst > (0 : Int)) then
                                (l.getD i.toNat segTy.zero).snd.snd.snd.snd.snd.snd.snd.snd.fst
                              else (0 : Int)))))
                    [])],
            nx := 1 }
      else none
    else none
  else
    K (Ex.exit 0)
      { slots := [(0, AV.vl segTy l), (3, AV.hw 0), (4, AV.int IntKind.u64 all), (5, AV.int IntKind.i64 i)],
        objs := [(0, AObj.arr 1 (Ty.int IntKind.u64) out [])], nx := 1 } := by kernel_rfl

theorem sat_step (S x : Int) (hS : 0 ≤ S) (hx : In .i64 x) :
    (bif decide (9223372036854775808 < IntKind.u64.wrap (sat S + IntKind.u64.wrap (bif decide (x > 0) then x else 0))) then 9223372036854775808 else IntKind.u64.wrap (sat S + IntKind.u64.wrap (bif decide (x > 0) then x else 0))) = sat (max 0 x + S) := by
  rw [In.i64] at hx
  have e1 : IntKind.u64.wrap (sat S + IntKind.u64.wrap (bif decide (x > 0) then x else 0)) = sat S + max 0 x := by
    rw [cond_ite]
    unfold sat
    simp only [wrapu64_mod]
    split <;> omega
  rw [e1, cond_ite]
  unfold sat
  split <;> omega

/-- One round in the middle: of k that are left. -/
theorem sizes_loop (l : List Seg) (hl : l.length ≤ maxL) (hwf : ∀ x ∈ l, wfT segTy x) {R : Type} (K : Ex → St → Option R) : ∀ (k : Nat), k ≤ l.length →
    rounds (env []) H.retain_sizes 0 (LPof []) V.retain_sizes_4 L.retain_sizes_4 (k + 1) ⟨[(0, .vl segTy l), (3, .hw 0), (4, .int .u64 (sat (posum (l.drop k)))), (5, .int .i64 ((k : Int) - 1))], [(0, .arr 1 (.int .u64) (List.replicate k (0 : Int) ++ sizesL (l.drop k)) [])], 1⟩ K =
      K (.exit 0) ⟨[(0, .vl segTy l), (3, .hw 0), (4, .int .u64 (sat (posum l))), (5, .int .i64 (-1))], [(0, .arr 1 (.int .u64) (sizesL l) [])], 1⟩
  | 0, _ => by
    rw [rounds_succ', sizes_rd]
    simp
  | k + 1, h => by
    have hi : ((k + 1 : Nat) : Int) - 1 = (k : Int) := by omega
    unfold maxL at hl
    have hd := getD_drop l k segTy.zero (by omega)
    have hin : In .i64 (l.getD k segTy.zero).2.2.2.2.2.2.2.2.1 := by
      have : l.getD k segTy.zero ∈ l := by
        rw [List.getD_eq_getElem?_getD, List.getElem?_eq_getElem (by omega)]
        simp
      exact (hwf _ this).2.2.2.2.2.2.2.2.1
    have hn := posum_nonneg (l.drop (k + 1))
    rw [rounds_succ', sizes_rd, hi, cond_pos (by omega), cond_pos2 (by omega) (by omega), cond_pos2 (by omega) (by simp [sizesL_length]; omega)]
    simp only [Int.toNat_natCast]
    rw [sat_step _ _ hn hin, wrap64 (by omega) (by omega)]
    have e2 : sat (max 0 (l.getD k segTy.zero).2.2.2.2.2.2.2.2.1 + posum (l.drop (k + 1))) = sat (posum (l.drop k)) := by rw [hd]; rfl
    have e3 : (List.replicate (k + 1) (0 : Int) ++ sizesL (l.drop (k + 1))).set k (sat (posum (l.drop k))) = List.replicate k (0 : Int) ++ sizesL (l.drop k) := by
      rw [List.replicate_succ', List.append_assoc, List.set_append_right _ _ (by simp), hd]
      simp [sizesL]
    rw [e2, e3]
    exact sizes_loop l hl hwf K k (by omega)

def sizesPat : SPat := ⟨[(0, .vl segTy), (3, .lit (.hw 0)), (4, .int .u64), (5, .int .i64)], [.arr 1 (.int .u64) []]⟩
def sizesLC : LoopC := ⟨sizesPat, fun x => [(decide (x.1.2.2.1 = (0 : Int)) && decide (x.1.2.2.2.1 = ((List.length x.1.1 : Nat) : Int) - 1) && decide (x.2.1.1 = List.replicate (List.length x.1.1) (0 : Int)),
  .exit 0, ⟨[(0, .vl segTy x.1.1), (3, .hw 0), (4, .int .u64 (sat (posum x.1.1))), (5, .int .i64 (-1))], [(0, .arr 1 (.int .u64) (sizesL x.1.1) [])], 1⟩)]⟩
theorem sizes_lok : LoopOK P0 H.retain_sizes 0 L.retain_sizes_4 sizesLC := loop_ok (env_ok env_nil) rfl mixed0 noLoops V.retain_sizes_4 (by decide) fun ⟨⟨l, _, all, i, _⟩, ⟨out, _⟩, _⟩ e s' h hw => by
  obtain ⟨hc, hy⟩ := pick_pre h
  cases hy
  simp only [Bool.and_eq_true, decide_eq_true_eq] at hc
  obtain ⟨⟨h1, h2⟩, h3⟩ := hc
  subst h1; subst h2; subst h3
  have hwl := hw.1.1
  refine ⟨List.length l + 1, ?_⟩
  have := sizes_loop l hwl.1 hwl.2 (fun e s => some (e, s)) (List.length l) (Nat.le_refl _)
  simp only [List.drop_length, sizesL, posum, List.append_nil] at this
  exact this

theorem sizes_ev (l : List Seg) : evFn (env []) H.retain_sizes (LPof [(4, sizesLC)]) F.retain_sizes [.vl segTy l] [] (finK 0) =
  bif
      decide ((0 : Int) ≤ (↑l.length : Int)) && decide ((↑l.length : Int) = (↑l.length : Int)) &&
          decide (l.length * 8 ≤ 140737488355328) &&
        decide ((↑l.length : Int) ≤ (9223372036854775807 : Int)) then
    bif
        decide (IntKind.i64.wrap ((↑l.length : Int) - (1 : Int)) = (↑l.length : Int) - (1 : (Pat.int IntKind.i64).den)) &&
          decide (List.replicate l.length (0 : Int) = List.replicate l.length (0 : Int)) then
      some (AV.vl (Ty.int IntKind.u64) (sizesL l), [])
    else none
  else none := by kernel_rfl

def caseSizes : PCase := ⟨[.ty (.sl segTy)], [.sl (.int .u64)], fun x => [(decide ((List.length x.1) * 8 ≤ 140737488355328), (sizesL x.1, ()))]⟩
theorem sizes_val (l : List Seg) (h : l.length * 8 ≤ 140737488355328) : evFn (env []) H.retain_sizes (LPof [(4, sizesLC)]) F.retain_sizes [.vl segTy l] [] (finK 0) = some (.vl (.int .u64) (sizesL l), []) := by
  rw [sizes_ev, wrap64 (by omega) (by omega)]
  have h1 : (0 : Int) ≤ (l.length : Int) := by omega
  have h2 : (l.length : Int) ≤ 9223372036854775807 := by omega
  simp [h, h2]
theorem sizes_ok : caseSizes.ok P0 I.retain_sizes := case_ok (H := H.retain_sizes) (E := env []) (env_ok env_nil) rfl mixed0 G.retain_sizes Bd.retain_sizes (by kernel_rfl) (loops_good (tab := [(4, sizesLC)]) (by kernel_rfl) (fun x hx => by simp at hx; subst hx; exact sizes_lok)) fun ⟨l, ()⟩ y h hw => by
  obtain ⟨hc, rfl⟩ := pick_pre h
  exact ⟨[], sizes_val l (of_decide_eq_true hc)⟩

/-! ### Drop -/
noncomputable abbrev consA : List (FuncId × Con) := [(I.retain_old, .pure (pureOf [caseOld])), (I.retain_sizes, .pure (pureOf [caseSizes]))]
theorem consA_ok : ∀ x ∈ consA, HoldsC P0 x.1 x.2 := by
  intro x hx
  simp at hx
  rcases hx with rfl | rfl
  · exact ⟨pureOf_holds (by simp; exact old_ok), C.retain_old⟩
  · exact ⟨pureOf_holds (by simp; exact sizes_ok), C.retain_sizes⟩

theorem drop_rd {R : Type} (l : List Seg) (c : Cnf) (all : List Int) (now n : Int) (K : Ex → St → Option R) : roundK (env consA) H.retain_Drop 0 (LPof []) V.retain_Drop_3 L.retain_Drop_3 ⟨[(0, .vl segTy l), (2, .int .i64 now), (4, .ptr 0 (.tl 0) 0), (7, .vl (.int .u64) all), (8, .int .i64 n)], [(0, .arr 4 .bool [] [enc confTy c])], 1⟩ K =
  Option.bind
    (bif decide (n < (↑l.length : Int)) then
      bif decide ((0 : Int) ≤ n) && decide (n < (↑l.length : Int)) then
        bif (l.getD n.toNat segTy.zero).snd.snd.snd.snd.snd.fst then
          bif decide ((0 : Int) ≤ n) && decide (n < (↑l.length : Int)) then
            bif isOld (l.getD n.toNat segTy.zero) c now then some true
            else
              bif decide (c.snd.fst > (0 : Int)) then
                bif decide ((0 : Int) ≤ n) && decide (n < (↑all.length : Int)) then
                  some (decide (all.getD n.toNat (0 : Int) > IntKind.u64.wrap c.snd.fst))
                else none
              else some false
          else none
        else some false
      else none
    else some false)
    fun v =>
    bif v then
      K Ex.normal
        {
          slots :=
            [(0, AV.vl segTy l), (2, AV.int IntKind.i64 now), (4, AV.ptr 0 (Elt.tl 0) 0),
              (7, AV.vl (Ty.int IntKind.u64) all), (8, AV.int IntKind.i64 (IntKind.i64.wrap (n + (1 : Int))))],
          objs :=
            [(0,
                AObj.arr 4 Ty.bool []
                  [[AV.int IntKind.i64 c.fst, AV.int IntKind.i64 c.snd.fst, AV.int IntKind.i64 c.snd.snd.fst, AV.int IntKind.i64 c.snd.snd.snd]])],
          nx := 1 }
    else
      K (Ex.exit 0)
        {
          slots :=
            [(0, AV.vl segTy l), (2, AV.int IntKind.i64 now), (4, AV.ptr 0 (Elt.tl 0) 0),
              (7, AV.vl (Ty.int IntKind.u64) all), (8, AV.int IntKind.i64 n)],
          objs :=
            [(0,
                AObj.arr 4 Ty.bool []
                  [[AV.int IntKind.i64 c.fst, AV.int IntKind.i64 c.snd.fst, AV.int IntKind.i64 c.snd.snd.fst, AV.int IntKind.i64 c.snd.snd.snd]])],
          nx := 1 } := by kernel_rfl

def dropSt (l : List Seg) (c : Cnf) (now n : Int) : St := ⟨[(0, .vl segTy l), (2, .int .i64 now), (4, .ptr 0 (.tl 0) 0), (7, .vl (.int .u64) (sizesL l)), (8, .int .i64 n)], [(0, .arr 4 .bool [] [enc confTy c])], 1⟩
theorem drop_step (l : List Seg) (c : Cnf) (now : Int) (hl : l.length ≤ maxL) (hc : In .i64 c.2.1) {R : Type} (K : Ex → St → Option R) (n : Nat) (h : n < l.length) :
    roundK (env consA) H.retain_Drop 0 (LPof []) V.retain_Drop_3 L.retain_Drop_3 (dropSt l c now n) K =
      cond (goes (l.getD n segTy.zero) (l.drop (n + 1)) c now) (K .normal (dropSt l c now ((n : Int) + 1))) (K (.exit 0) (dropSt l c now n)) := by
  unfold maxL at hl
  unfold dropSt
  rw [drop_rd, cond_pos (by omega), cond_pos2 (by omega) (by omega), cond_pos2 (by omega) (by omega), cond_pos2 (by omega) (by rw [sizesL_length]; omega), wrap64 (by omega) (by omega)]
  simp only [Int.toNat_natCast]
  simp only [sizesL_get l n h]
  rw [getD_drop l n segTy.zero h]
  unfold goes isMuch
  generalize (l.getD n segTy.zero) = g
  rw [In.i64] at hc
  have hp := posum_nonneg (g :: l.drop (n + 1))
  cases h1 : g.2.2.2.2.2.1
  · simp; rfl
  · cases h2 : isOld g c now
    · by_cases h3 : c.2.1 > 0
      · rw [cond_pos h3, wrapu64 (by omega) (by omega)]
        have e : (sat (posum (g :: l.drop (n + 1))) > c.2.1) ↔ (posum (g :: l.drop (n + 1)) > c.2.1) := by unfold sat; omega
        simp [h3, e]; rfl
      · rw [cond_neg h3]
        simp [h3]; rfl
    · simp; rfl
theorem drop_loop (l : List Seg) (c : Cnf) (now : Int) (hl : l.length ≤ maxL) (hc : In .i64 c.2.1) {R : Type} (K : Ex → St → Option R) : ∀ (m n : Nat), n + m = l.length →
    rounds (env consA) H.retain_Drop 0 (LPof []) V.retain_Drop_3 L.retain_Drop_3 (m + 1) (dropSt l c now n) K = K (.exit 0) (dropSt l c now ((n + dropN c now (l.drop n) : Nat) : Int))
  | 0, n, h => by
    have : n = l.length := by omega
    subst this
    rw [rounds_succ']
    unfold dropSt
    rw [drop_rd, cond_neg (by omega)]
    simp [dropN]
    rfl
  | m + 1, n, h => by
    rw [rounds_succ', drop_step l c now hl hc _ n (by omega), getD_drop l n segTy.zero (by omega)]
    simp only [dropN]
    cases goes (l.getD n segTy.zero) (l.drop (n + 1)) c now
    · simp
    · simp only [cond_true]
      have := drop_loop l c now hl hc K m (n + 1) (by omega)
      rw [show ((n + 1 : Nat) : Int) = (n : Int) + 1 by omega] at this
      rw [this]
      congr 3
      omega
def dropPat : SPat := ⟨[(0, .vl segTy), (2, .int .i64), (4, .lit (.ptr 0 (.tl 0) 0)), (7, .vl (.int .u64)), (8, .int .i64)], [.box 4 [[.int .i64, .int .i64, .int .i64, .int .i64]]]⟩
def dropLC : LoopC := ⟨dropPat, fun x => [(decide (x.1.2.2.2.1 = sizesL x.1.1) && decide (x.1.2.2.2.2.1 = (0 : Int)), .exit 0,
  dropSt x.1.1 (x.2.1.1.1, x.2.1.1.2.1, x.2.1.1.2.2.1, x.2.1.1.2.2.2.1) x.1.2.1 (dropN (x.2.1.1.1, x.2.1.1.2.1, x.2.1.1.2.2.1, x.2.1.1.2.2.2.1) x.1.2.1 x.1.1))]⟩
theorem drop_lok : LoopOK P0 H.retain_Drop 0 L.retain_Drop_3 dropLC := loop_ok (env_ok consA_ok) rfl mixed0 noLoops V.retain_Drop_3 (by decide) fun ⟨⟨l, now, _, all, n, _⟩, ⟨⟨a, b, c, d, _⟩, _⟩, _⟩ e s' h hw => by
  obtain ⟨hc, hy⟩ := pick_pre h
  cases hy
  simp only [Bool.and_eq_true, decide_eq_true_eq] at hc
  obtain ⟨h1, h2⟩ := hc
  subst h1; subst h2
  have := drop_loop l (a, b, c, d) now hw.1.1.1 hw.2.1.1.2.1 (fun e s => some (e, s)) (List.length l) 0 (by omega)
  rw [Nat.zero_add, List.drop_zero] at this
  exact ⟨_, this⟩

theorem drop_ev (l : List Seg) (c : Cnf) (now : Int) : evFn (env consA) H.retain_Drop (LPof [(3, dropLC)]) F.retain_Drop [.vl segTy l, valOf confTy c, .int .i64 now] [] (finK 0) =
  bif decide (l.length * 8 ≤ 140737488355328) then
    bif decide (sizesL l = sizesL l) && true then some (AV.int IntKind.i64 (↑(dropN c now l) : Int), []) else none
  else none := by kernel_rfl

def caseDrop : PCase := ⟨[.ty (.sl segTy), .ty confTy, .ty (.int .i64)], [.int .i64], fun x => [(decide ((List.length x.1) * 8 ≤ 140737488355328), (((dropN x.2.1 x.2.2.1 x.1 : Nat) : Int), ()))]⟩
theorem drop_val (l : List Seg) (c : Cnf) (now : Int) (h : l.length * 8 ≤ 140737488355328) : evFn (env consA) H.retain_Drop (LPof [(3, dropLC)]) F.retain_Drop [.vl segTy l, valOf confTy c, .int .i64 now] [] (finK 0) = some (.int .i64 (dropN c now l), []) := by
  rw [drop_ev]
  simp [h]
theorem drop_ok : caseDrop.ok P0 I.retain_Drop := case_ok (H := H.retain_Drop) (E := env consA) (env_ok consA_ok) rfl mixed0 G.retain_Drop Bd.retain_Drop (by kernel_rfl) (loops_good (tab := [(3, dropLC)]) (by kernel_rfl) (fun x hx => by simp at hx; subst hx; exact drop_lok)) fun ⟨l, c, now, ()⟩ y h hw => by
  obtain ⟨hc, rfl⟩ := pick_pre h
  exact ⟨[], drop_val l c now (of_decide_eq_true hc)⟩

/-! ### The reference's -/
theorem older_ev (a b c : Int) : evFn (env []) H.cooperageref10_older (LPof []) F.cooperageref10_older [.int .i64 a, .int .i64 b, .int .i64 c] [] (finK 0) =
  bif decide (c < (0 : Int)) then
    bif decide (b ≥ a) then some (AV.bool true, [])
    else
      some
        (AV.bool
            (decide
              (IntKind.u64.wrap (IntKind.u64.wrap a - IntKind.u64.wrap b) <
                IntKind.u64.wrap (IntKind.u64.wrap (IntKind.i64.wrap ((0 : Int) - IntKind.i64.wrap (c + (1 : Int)))) + (1 : Int)))),
          [])
  else
    bif decide (b ≤ a) then some (AV.bool false, [])
    else some (AV.bool (decide (IntKind.u64.wrap (IntKind.u64.wrap b - IntKind.u64.wrap a) > IntKind.u64.wrap c)), []) := by kernel_rfl

theorem above_rd {R : Type} (l : List Seg) (f : Bool) (left i : Int) (K : Ex → St → Option R) : roundK (env []) H.cooperageref10_above 0 (LPof []) V.cooperageref10_above_3 L.cooperageref10_above_3 ⟨[(0, .vl segTy l), (4, .bool f), (5, .int .i64 left), (6, .int .i64 i)], [], 0⟩ K =
  bif decide (i < (↑l.length : Int)) then
    bif decide ((0 : Int) ≤ i) && decide (i < (↑l.length : Int)) then
      bif decide ((l.getD i.toNat segTy.zero).snd.snd.snd.snd.snd.snd.snd.snd.fst > left) then
        K Ex.ret
          { slots := [(0, AV.vl segTy l), (4, AV.bool true), (5, AV.int IntKind.i64 left), (6, AV.int IntKind.i64 i)],
            objs := [], nx := 0 }
      else
        bif decide ((0 : Int) ≤ i) && decide (i < (↑l.length : Int)) then
          bif decide ((l.getD i.toNat segTy.zero).snd.snd.snd.snd.snd.snd.snd.snd.fst > (0 : Int)) then
            bif decide ((0 : Int) ≤ i) && decide (i < (↑l.length : Int)) then
              K Ex.normal
                {
                  slots :=
                    [(0, AV.vl segTy l), (4, AV.bool f),
                      (5, AV.int IntKind.i64 (IntKind.i64.wrap (left - (l.getD i.toNat segTy.zero).snd.snd.snd.snd.snd.snd.snd.snd.fst))),
                      (6, AV.int IntKind.i64 (IntKind.i64.wrap (i + (1 : Int))))],
                  objs := [], nx := 0 }
            else none
          else
            K Ex.normal
              {
                slots :=
                  [(0, AV.vl segTy l), (4, AV.bool f), (5, AV.int IntKind.i64 left),
                    (6, AV.int IntKind.i64 (IntKind.i64.wrap (i + (1 : Int))))],
                objs := [], nx := 0 }
        else none
    else none
  else
    K (Ex.exit 0)
      { slots := [(0, AV.vl segTy l), (4, AV.bool f), (5, AV.int IntKind.i64 left), (6, AV.int IntKind.i64 i)],
        objs := [], nx := 0 } := by kernel_rfl

def caseOlder : PCase := ⟨[.ty (.int .i64), .ty (.int .i64), .ty (.int .i64)], [.bool], fun x => [(true, (decide (x.2.1 - x.1 > x.2.2.1), ()))]⟩
theorem older_val (a b c : Int) (ha : In .i64 a) (hb : In .i64 b) (hc : In .i64 c) : evFn (env []) H.cooperageref10_older (LPof []) F.cooperageref10_older [.int .i64 a, .int .i64 b, .int .i64 c] [] (finK 0) = some (.bool (decide (b - a > c)), []) := by
  rw [older_ev]
  have ha' := ha
  have hb' := hb
  rw [In.i64] at ha hb hc
  by_cases h1 : c < 0
  · rw [cond_pos h1]
    by_cases h2 : b ≥ a
    · rw [cond_pos h2]
      have : b - a > c := by omega
      simp [this]
    · rw [cond_neg h2, u64_diff ha' hb' (by omega)]
      have e : IntKind.u64.wrap (IntKind.u64.wrap (IntKind.i64.wrap ((0 : Int) - IntKind.i64.wrap (c + (1 : Int)))) + (1 : Int)) = -c := by
        have e1 : IntKind.i64.wrap (c + (1 : Int)) = c + 1 := wrap64 (by omega) (by omega)
        have e2 : IntKind.i64.wrap ((0 : Int) - (c + 1)) = -c - 1 := by rw [wrap64 (by omega) (by omega)]; omega
        have e3 : IntKind.u64.wrap (-c - 1) = -c - 1 := wrapu64 (by omega) (by omega)
        rw [e1, e2, e3, wrapu64 (by omega) (by omega)]
        omega
      rw [e]
      have : (a - b < -c) ↔ (b - a > c) := by omega
      simp [this]
  · rw [cond_neg h1]
    by_cases h2 : b ≤ a
    · rw [cond_pos h2]
      have : ¬ (b - a > c) := by omega
      simp [this]
    · rw [cond_neg h2, u64_diff hb' ha' (by omega), u64_pos (a := c) (by rw [In.i64]; omega) (by omega)]
theorem older_ok : caseOlder.ok P0 I.cooperageref10_older := case_ok (H := H.cooperageref10_older) (E := env []) (env_ok env_nil) rfl mixed0 G.cooperageref10_older Bd.cooperageref10_older (by kernel_rfl) noLoops fun ⟨a, b, c, ()⟩ y h hw => by
  obtain rfl := pick_one h
  exact ⟨[], older_val a b c hw.1 hw.2.1 hw.2.2.1⟩

/-- The rest of above's loop: how it leaves, and in which state. -/
def aboveSt (l : List Seg) (f : Bool) (left i : Int) : St := ⟨[(0, .vl segTy l), (4, .bool f), (5, .int .i64 left), (6, .int .i64 i)], [], 0⟩
/-- Where above stops: none, if it goes through. -/
def aboveF : List Seg → Int → Nat → Option (Int × Nat)
  | [], _, _ => none
  | g :: r, left, i => if g.2.2.2.2.2.2.2.2.1 > left then some (left, i) else aboveF r (left - max 0 g.2.2.2.2.2.2.2.2.1) (i + 1)
theorem above_loop (l : List Seg) (hl : l.length ≤ maxL) (hwf : ∀ x ∈ l, wfT segTy x) {R : Type} (K : Ex → St → Option R) : ∀ (m n : Nat) (left : Int), n + m = l.length → 0 ≤ left → left ≤ 9223372036854775807 →
    rounds (env []) H.cooperageref10_above 0 (LPof []) V.cooperageref10_above_3 L.cooperageref10_above_3 (m + 1) (aboveSt l false left n) K =
      match aboveF (l.drop n) left n with
      | some (left, i) => K .ret (aboveSt l true left i)
      | none => K (.exit 0) (aboveSt l false (left - posum (l.drop n)) l.length)
  | 0, n, left, h, h0, h1 => by
    have : n = l.length := by omega
    subst this
    rw [rounds_succ']
    unfold aboveSt
    rw [above_rd, cond_neg (by omega)]
    simp [aboveF, posum]
  | m + 1, n, left, h, h0, h1 => by
    unfold maxL at hl
    have hlen : n < l.length := by omega
    have hin : In .i64 (l.getD n segTy.zero).2.2.2.2.2.2.2.2.1 := by
      have : l.getD n segTy.zero ∈ l := by
        rw [List.getD_eq_getElem?_getD, List.getElem?_eq_getElem hlen]
        simp
      exact (hwf _ this).2.2.2.2.2.2.2.2.1
    rw [getD_drop l n segTy.zero hlen, rounds_succ']
    unfold aboveSt
    rw [above_rd, cond_pos (by omega), cond_pos2 (by omega) (by omega)]
    simp only [Int.toNat_natCast, aboveF]
    rw [In.i64] at hin
    by_cases h2 : (l.getD n segTy.zero).2.2.2.2.2.2.2.2.1 > left
    · rw [cond_pos h2, if_pos h2]
    · rw [cond_neg h2, if_neg h2, cond_pos2 (by omega) (by omega)]
      have ih := above_loop l hl hwf K m (n + 1) (left - max 0 (l.getD n segTy.zero).2.2.2.2.2.2.2.2.1) (by omega) (by omega) (by omega)
      have e : left - max 0 (l.getD n segTy.zero).2.2.2.2.2.2.2.2.1 - posum (l.drop (n + 1)) = left - posum (l.getD n segTy.zero :: l.drop (n + 1)) := by simp only [posum]; omega
      rw [e] at ih
      unfold aboveSt at ih
      rw [← ih, show ((n + 1 : Nat) : Int) = (n : Int) + 1 by omega]
      by_cases h3 : (l.getD n segTy.zero).2.2.2.2.2.2.2.2.1 > 0
      · rw [cond_pos h3, cond_pos2 (by omega) (by omega), wrap64 (by omega) (by omega), wrap64 (by omega) (by omega), Int.max_eq_right (by omega)]
      · rw [cond_neg h3, wrap64 (by omega) (by omega), Int.max_eq_left (by omega), Int.sub_zero]
theorem aboveF_some : ∀ (l : List Seg) (left : Int) (n : Nat), 0 ≤ left → ((aboveF l left n).isSome = decide (posum l > left))
  | [], left, n, h => by simp [aboveF, posum]; omega
  | g :: r, left, n, h => by
    simp only [aboveF, posum]
    have := posum_nonneg r
    split
    · simp; omega
    · rw [aboveF_some r _ _ (by omega)]
      exact decide_eq_decide.2 (by omega)
def abovePat : SPat := ⟨[(0, .vl segTy), (4, .bool), (5, .int .i64), (6, .int .i64)], []⟩
def aboveLC : LoopC := ⟨abovePat, fun x =>
  [(decide (x.1.2.1 = false) && decide (0 ≤ x.1.2.2.1) && decide (x.1.2.2.2.1 = (0 : Int)) && (aboveF x.1.1 x.1.2.2.1 0).isSome, .ret, aboveSt x.1.1 true ((aboveF x.1.1 x.1.2.2.1 0).getD (0, 0)).1 ((aboveF x.1.1 x.1.2.2.1 0).getD (0, 0)).2),
   (decide (x.1.2.1 = false) && decide (0 ≤ x.1.2.2.1) && decide (x.1.2.2.2.1 = (0 : Int)) && !(aboveF x.1.1 x.1.2.2.1 0).isSome, .exit 0, aboveSt x.1.1 false (x.1.2.2.1 - posum x.1.1) (List.length x.1.1))]⟩

theorem above_lok : LoopOK P0 H.cooperageref10_above 0 L.cooperageref10_above_3 aboveLC := loop_ok (env_ok env_nil) rfl mixed0 noLoops V.cooperageref10_above_3 (by decide) fun ⟨⟨l, f, left, i, _⟩, _⟩ e s' h hw => by
  have hwl := hw.1.1
  have hle : left ≤ 9223372036854775807 := by
    have : In .i64 left := hw.1.2.2.1
    rw [In.i64] at this
    exact this.2
  have key : f = false → 0 ≤ left → i = (0 : Int) → ∃ k, rounds (env []) H.cooperageref10_above 0 (LPof []) V.cooperageref10_above_3 L.cooperageref10_above_3 k (aboveSt l f left i) (fun e s => some (e, s)) = match aboveF l left 0 with
      | some (left, i) => some (.ret, (aboveSt l true left i))
      | none => some (.exit 0, (aboveSt l false (left - posum l) (List.length l))) := by
    intro h1 h2 h3
    subst h1; subst h3
    have := above_loop l hwl.1 hwl.2 (fun e s => some (e, s)) (List.length l) 0 left (by omega) h2 hle
    rw [List.drop_zero] at this
    exact ⟨_, this⟩
  have h' : pick [(decide (f = false) && decide ((0 : Int) ≤ left) && decide (i = (0 : Int)) && (aboveF l left 0).isSome, Ex.ret, aboveSt l true ((aboveF l left 0).getD (0, 0)).1 ((aboveF l left 0).getD (0, 0)).2),
   (decide (f = false) && decide ((0 : Int) ≤ left) && decide (i = (0 : Int)) && !(aboveF l left 0).isSome, .exit 0, aboveSt l false (left - posum l) (List.length l))] = some (e, s') := h
  revert h' key
  generalize hp : aboveF l left 0 = p
  intro key h'
  cases hc : (decide (f = false) && decide ((0 : Int) ≤ left) && decide (i = (0 : Int))) with
  | false => rw [hc] at h'; simp [pick] at h'
  | true =>
    rw [hc] at h'
    simp only [Bool.and_eq_true, decide_eq_true_eq] at hc
    obtain ⟨k, hk⟩ := key hc.1.1 hc.1.2 hc.2
    refine ⟨k, Eq.trans hk ?_⟩
    cases p <;> simpa [pick] using h'
theorem above_ev (l : List Seg) (keep : Int) : evFn (env []) H.cooperageref10_above (LPof [(3, aboveLC)]) F.cooperageref10_above [.vl segTy l, .int .i64 keep] [] (finK 0) =
  bif decide ((0 : (Pat.int IntKind.i64).den) ≤ keep) && true && (aboveF l keep 0).isSome then some (AV.bool true, [])
  else bif decide ((0 : (Pat.int IntKind.i64).den) ≤ keep) && true && !(aboveF l keep 0).isSome then some (AV.bool false, []) else none := by kernel_rfl

def caseAbove : PCase := ⟨[.ty (.sl segTy), .ty (.int .i64)], [.bool], fun x => [(decide (x.2.1 ≥ 0), (decide (posum x.1 > x.2.1), ()))]⟩
theorem above_val (l : List Seg) (keep : Int) (h : keep ≥ 0) : evFn (env []) H.cooperageref10_above (LPof [(3, aboveLC)]) F.cooperageref10_above [.vl segTy l, .int .i64 keep] [] (finK 0) = some (.bool (decide (posum l > keep)), []) := by
  rw [above_ev, aboveF_some l keep 0 h]
  have : (decide ((0 : Int) ≤ keep)) = true := decide_eq_true h
  cases h2 : decide (posum l > keep) <;> simp [this]
theorem above_ok : caseAbove.ok P0 I.cooperageref10_above := case_ok (H := H.cooperageref10_above) (E := env []) (env_ok env_nil) rfl mixed0 G.cooperageref10_above Bd.cooperageref10_above (by kernel_rfl) (loops_good (tab := [(3, aboveLC)]) (by kernel_rfl) (fun x hx => by simp at hx; subst hx; exact above_lok)) fun ⟨l, keep, ()⟩ y h hw => by
  obtain ⟨hc, rfl⟩ := pick_pre h
  exact ⟨[], above_val l keep (of_decide_eq_true hc)⟩

noncomputable abbrev consB : List (FuncId × Con) := [(I.cooperageref10_older, .pure (pureOf [caseOlder])), (I.cooperageref10_above, .pure (pureOf [caseAbove]))]
theorem consB_ok : ∀ x ∈ consB, HoldsC P0 x.1 x.2 := by
  intro x hx
  simp at hx
  rcases hx with rfl | rfl
  · exact ⟨pureOf_holds (by simp; exact older_ok), C.cooperageref10_older⟩
  · exact ⟨pureOf_holds (by simp; exact above_ok), C.cooperageref10_above⟩
theorem rdrop_rd {R : Type} (l : List Seg) (c : Cnf) (now n : Int) (K : Ex → St → Option R) : roundK (env consB) H.cooperageref10_Drop 0 (LPof []) V.cooperageref10_Drop_2 L.cooperageref10_Drop_2 ⟨[(0, .vl segTy l), (2, .int .i64 now), (4, .ptr 0 (.tl 0) 0), (6, .int .i64 0), (7, .int .i64 n)], [(0, .arr 4 .bool [] [enc confTy c])], 1⟩ K =
  Option.bind
    (bif decide (n < (↑l.length : Int)) then
      bif decide ((0 : Int) ≤ n) && decide (n < (↑l.length : Int)) then some (l.getD n.toNat segTy.zero).snd.snd.snd.snd.snd.fst else none
    else some false)
    fun v =>
    bif v then
      Option.bind
        (bif decide (c.snd.snd.fst > (0 : Int)) then
          bif decide ((0 : Int) ≤ n) && decide (n < (↑l.length : Int)) then
            some (decide (now - (l.getD n.toNat segTy.zero).snd.snd.fst > c.snd.snd.fst))
          else none
        else some false)
        fun v =>
        Option.bind
          (bif decide (c.snd.fst > (0 : Int)) then
            bif decide ((0 : Int) ≤ n) && decide (n ≤ (↑l.length : Int)) then
              bif decide (c.snd.fst ≥ (0 : (InP.ty (Ty.int IntKind.i64)).den)) then some (decide (posum (List.drop n.toNat l) > c.snd.fst)) else none
            else none
          else some false)
          fun v_1 =>
          Option.bind (bif !v then some !v_1 else some false) fun v =>
            bif v then
              K Ex.ret
                {
                  slots :=
                    [(0, AV.vl segTy l), (2, AV.int IntKind.i64 now), (4, AV.ptr 0 (Elt.tl 0) 0),
                      (6, AV.int IntKind.i64 n), (7, AV.int IntKind.i64 n)],
                  objs :=
                    [(0,
                        AObj.arr 4 Ty.bool []
                          [[AV.int IntKind.i64 c.fst, AV.int IntKind.i64 c.snd.fst, AV.int IntKind.i64 c.snd.snd.fst,
                              AV.int IntKind.i64 c.snd.snd.snd]])],
                  nx := 1 }
            else
              K Ex.normal
                {
                  slots :=
                    [(0, AV.vl segTy l), (2, AV.int IntKind.i64 now), (4, AV.ptr 0 (Elt.tl 0) 0),
                      (6, AV.int IntKind.i64 (0 : Int)), (7, AV.int IntKind.i64 (IntKind.i64.wrap (n + (1 : Int))))],
                  objs :=
                    [(0,
                        AObj.arr 4 Ty.bool []
                          [[AV.int IntKind.i64 c.fst, AV.int IntKind.i64 c.snd.fst, AV.int IntKind.i64 c.snd.snd.fst,
                              AV.int IntKind.i64 c.snd.snd.snd]])],
                  nx := 1 }
    else
      K (Ex.exit 0)
        {
          slots :=
            [(0, AV.vl segTy l), (2, AV.int IntKind.i64 now), (4, AV.ptr 0 (Elt.tl 0) 0),
              (6, AV.int IntKind.i64 (0 : Int)), (7, AV.int IntKind.i64 n)],
          objs :=
            [(0,
                AObj.arr 4 Ty.bool []
                  [[AV.int IntKind.i64 c.fst, AV.int IntKind.i64 c.snd.fst, AV.int IntKind.i64 c.snd.snd.fst, AV.int IntKind.i64 c.snd.snd.snd]])],
          nx := 1 } := by kernel_rfl

def rdropSt (l : List Seg) (c : Cnf) (now r n : Int) : St := ⟨[(0, .vl segTy l), (2, .int .i64 now), (4, .ptr 0 (.tl 0) 0), (6, .int .i64 r), (7, .int .i64 n)], [(0, .arr 4 .bool [] [enc confTy c])], 1⟩
theorem rdrop_step (l : List Seg) (c : Cnf) (now : Int) (hl : l.length ≤ maxL) {R : Type} (K : Ex → St → Option R) (n : Nat) (h : n < l.length) :
    roundK (env consB) H.cooperageref10_Drop 0 (LPof []) V.cooperageref10_Drop_2 L.cooperageref10_Drop_2 (rdropSt l c now 0 n) K =
      cond (l.getD n segTy.zero).2.2.2.2.2.1 (cond (isOld (l.getD n segTy.zero) c now || isMuch (l.drop n) c) (K .normal (rdropSt l c now 0 ((n : Int) + 1))) (K .ret (rdropSt l c now n n))) (K (.exit 0) (rdropSt l c now 0 n)) := by
  unfold maxL at hl
  unfold rdropSt
  rw [rdrop_rd, cond_pos (by omega), cond_pos2 (by omega) (by omega), cond_pos2 (by omega) (by omega), wrap64 (by omega) (by omega)]
  simp only [Int.toNat_natCast]
  unfold isOld isMuch
  cases h1 : (l.getD n segTy.zero).2.2.2.2.2.1
  · simp; rfl
  · by_cases h2 : c.2.2.1 > 0
    · by_cases h3 : c.2.1 > 0
      · have h4 : c.2.1 ≥ 0 := by omega
        have h5 : (n : Int) ≤ (l.length : Int) := by omega
        cases h6 : decide (now - (l.getD n segTy.zero).2.2.1 > c.2.2.1) <;> cases h7 : decide (posum (l.drop n) > c.2.1) <;> simp only [h2, h3, h4, h5, h6, h7, Int.natCast_nonneg, ge_iff_le, gt_iff_lt, decide_true, decide_false, Bool.and_true, cond_true, cond_false, Option.bind_some, Bool.not_true, Bool.not_false, Bool.or_true, Bool.or_false, Bool.true_or, Bool.true_and] <;> rfl
      · have h4 : decide (c.2.1 > 0) = false := decide_eq_false h3
        cases h6 : decide (now - (l.getD n segTy.zero).2.2.1 > c.2.2.1) <;> simp only [h2, h4, h6, ge_iff_le, gt_iff_lt, decide_true, decide_false, Bool.and_true, cond_true, cond_false, Option.bind_some, Bool.not_true, Bool.not_false, Bool.or_true, Bool.or_false, Bool.true_or, Bool.true_and, Bool.false_and] <;> rfl
    · have h2' : decide (c.2.2.1 > 0) = false := decide_eq_false h2
      by_cases h3 : c.2.1 > 0
      · have h4 : c.2.1 ≥ 0 := by omega
        have h5 : (n : Int) ≤ (l.length : Int) := by omega
        cases h7 : decide (posum (l.drop n) > c.2.1) <;> simp only [h2', h3, h4, h5, h7, Int.natCast_nonneg, ge_iff_le, gt_iff_lt, decide_true, decide_false, Bool.and_true, cond_true, cond_false, Option.bind_some, Bool.not_true, Bool.not_false, Bool.or_true, Bool.or_false, Bool.true_or, Bool.true_and, Bool.false_and] <;> rfl
      · have h4 : decide (c.2.1 > 0) = false := decide_eq_false h3
        simp only [h2', h4, ge_iff_le, gt_iff_lt, decide_true, decide_false, Bool.and_true, cond_true, cond_false, Option.bind_some, Bool.not_true, Bool.not_false, Bool.or_true, Bool.or_false, Bool.true_or, Bool.true_and, Bool.false_and] <;> rfl
def stopB (l : List Seg) (n : Nat) : Bool := decide (n < l.length) && (l.getD n segTy.zero).2.2.2.2.2.1
def rdropEnd (l : List Seg) (c : Cnf) (now : Int) (N : Nat) {R : Type} (K : Ex → St → Option R) : Option R := cond (stopB l N) (K .ret (rdropSt l c now N N)) (K (.exit 0) (rdropSt l c now 0 N))
theorem rdrop_loop (l : List Seg) (c : Cnf) (now : Int) (hl : l.length ≤ maxL) {R : Type} (K : Ex → St → Option R) : ∀ (m n : Nat), n + m = l.length →
    rounds (env consB) H.cooperageref10_Drop 0 (LPof []) V.cooperageref10_Drop_2 L.cooperageref10_Drop_2 (m + 1) (rdropSt l c now 0 n) K = rdropEnd l c now (n + dropN c now (l.drop n)) K
  | 0, n, h => by
    have : n = l.length := by omega
    subst this
    rw [rounds_succ']
    unfold rdropSt
    rw [rdrop_rd, cond_neg (by omega)]
    simp [dropN, rdropEnd, stopB]
    rfl
  | m + 1, n, h => by
    rw [rounds_succ', rdrop_step l c now hl _ n (by omega), getD_drop l n segTy.zero (by omega)]
    simp only [dropN, goes]
    have hn : decide (n < l.length) = true := decide_eq_true (by omega)
    cases h1 : (l.getD n segTy.zero).2.2.2.2.2.1
    · simp only [rdropEnd, stopB, Bool.false_and, cond_false, Nat.add_zero, h1, Bool.and_false]
    · cases h2 : (isOld (l.getD n segTy.zero) c now || isMuch (l.getD n segTy.zero :: l.drop (n + 1)) c)
      · simp only [rdropEnd, stopB, hn, h1, Bool.and_self, Bool.and_false, Bool.true_and, cond_false, cond_true, Nat.add_zero]
      · simp only [cond_true, Bool.true_and]
        have := rdrop_loop l c now hl K m (n + 1) (by omega)
        rw [show ((n + 1 : Nat) : Int) = (n : Int) + 1 by omega] at this
        rw [this]
        congr 1
        omega
def rdropPat : SPat := ⟨[(0, .vl segTy), (2, .int .i64), (4, .lit (.ptr 0 (.tl 0) 0)), (6, .int .i64), (7, .int .i64)], [.box 4 [[.int .i64, .int .i64, .int .i64, .int .i64]]]⟩
def rdropLC : LoopC := ⟨rdropPat, fun x => (fun c =>
  [(decide (x.1.2.2.2.1 = (0 : Int)) && decide (x.1.2.2.2.2.1 = (0 : Int)) && stopB x.1.1 (dropN c x.1.2.1 x.1.1), .ret, rdropSt x.1.1 c x.1.2.1 (dropN c x.1.2.1 x.1.1) (dropN c x.1.2.1 x.1.1)),
   (decide (x.1.2.2.2.1 = (0 : Int)) && decide (x.1.2.2.2.2.1 = (0 : Int)) && !stopB x.1.1 (dropN c x.1.2.1 x.1.1), .exit 0, rdropSt x.1.1 c x.1.2.1 0 (dropN c x.1.2.1 x.1.1))]) (x.2.1.1.1, x.2.1.1.2.1, x.2.1.1.2.2.1, x.2.1.1.2.2.2.1)⟩
theorem rdrop_lok : LoopOK P0 H.cooperageref10_Drop 0 L.cooperageref10_Drop_2 rdropLC := loop_ok (env_ok consB_ok) rfl mixed0 noLoops V.cooperageref10_Drop_2 (by decide) fun ⟨⟨l, now, _, r, n, _⟩, ⟨⟨a, b, c, d, _⟩, _⟩, _⟩ e s' h hw => by
  have key : r = (0 : Int) → n = (0 : Int) → ∃ k, rounds (env consB) H.cooperageref10_Drop 0 (LPof []) V.cooperageref10_Drop_2 L.cooperageref10_Drop_2 k (rdropSt l (a, b, c, d) now r n) (fun e s => some (e, s)) = rdropEnd l (a, b, c, d) now (dropN (a, b, c, d) now l) (fun e s => some (e, s)) := by
    intro h1 h2
    subst h1; subst h2
    have := rdrop_loop l (a, b, c, d) now hw.1.1.1 (fun e s => some (e, s)) (List.length l) 0 (by omega)
    rw [List.drop_zero, Nat.zero_add] at this
    exact ⟨_, this⟩
  have h' : pick [(decide (r = (0 : Int)) && decide (n = (0 : Int)) && stopB l (dropN (a, b, c, d) now l), Ex.ret, rdropSt l (a, b, c, d) now (dropN (a, b, c, d) now l) (dropN (a, b, c, d) now l)),
   (decide (r = (0 : Int)) && decide (n = (0 : Int)) && !stopB l (dropN (a, b, c, d) now l), .exit 0, rdropSt l (a, b, c, d) now 0 (dropN (a, b, c, d) now l))] = some (e, s') := h
  revert h' key
  unfold rdropEnd
  generalize stopB l (dropN (a, b, c, d) now l) = p
  intro key h'
  cases hc : (decide (r = (0 : Int)) && decide (n = (0 : Int))) with
  | false => rw [hc] at h'; simp [pick] at h'
  | true =>
    rw [hc] at h'
    simp only [Bool.and_eq_true, decide_eq_true_eq] at hc
    obtain ⟨k, hk⟩ := key hc.1 hc.2
    refine ⟨k, Eq.trans hk ?_⟩
    cases p <;> simpa [pick] using h'

theorem rdrop_ev (l : List Seg) (c : Cnf) (now : Int) : evFn (env consB) H.cooperageref10_Drop (LPof [(2, rdropLC)]) F.cooperageref10_Drop [.vl segTy l, valOf confTy c, .int .i64 now] [] (finK 0) =
  bif stopB l (dropN c now l) then some (AV.int IntKind.i64 (↑(dropN c now l) : Int), [])
  else bif !stopB l (dropN c now l) then some (AV.int IntKind.i64 (↑(dropN c now l) : Int), []) else none := by kernel_rfl

def caseRDrop : PCase := ⟨[.ty (.sl segTy), .ty confTy, .ty (.int .i64)], [.int .i64], fun x => [(true, (((dropN x.2.1 x.2.2.1 x.1 : Nat) : Int), ()))]⟩
theorem rdrop_val (l : List Seg) (c : Cnf) (now : Int) : evFn (env consB) H.cooperageref10_Drop (LPof [(2, rdropLC)]) F.cooperageref10_Drop [.vl segTy l, valOf confTy c, .int .i64 now] [] (finK 0) = some (.int .i64 (dropN c now l), []) := by
  rw [rdrop_ev]
  cases h : stopB l (dropN c now l) <;> simp
theorem rdrop_ok : caseRDrop.ok P0 I.cooperageref10_Drop := case_ok (H := H.cooperageref10_Drop) (E := env consB) (env_ok consB_ok) rfl mixed0 G.cooperageref10_Drop Bd.cooperageref10_Drop (by kernel_rfl) (loops_good (tab := [(2, rdropLC)]) (by kernel_rfl) (fun x hx => by simp at hx; subst hx; exact rdrop_lok)) fun ⟨l, c, now, ()⟩ y h hw => by
  obtain rfl := pick_one h
  exact ⟨[], rdrop_val l c now⟩

/-! ### The laws -/
noncomputable abbrev consC : List (FuncId × Con) := [(I.retain_Drop, .pure (pureOf [caseDrop])), (I.cooperageref10_Drop, .pure (pureOf [caseRDrop]))]
theorem consC_ok : ∀ x ∈ consC, HoldsC P0 x.1 x.2 := by
  intro x hx
  simp at hx
  rcases hx with rfl | rfl
  · exact ⟨pureOf_holds (by simp; exact drop_ok), C.retain_Drop⟩
  · exact ⟨pureOf_holds (by simp; exact rdrop_ok), C.cooperageref10_Drop⟩
theorem alive_ev : evFn (env consC) H.cooperagelaw14_alive (LPof []) F.cooperagelaw14_alive [] [] (finK 0) =
  some (AV.bool true, []) := by kernel_rfl

def caseAlive : PCase := ⟨[], [.bool], fun _ => [(true, (true, ()))]⟩
theorem alive_ok : caseAlive.ok P0 I.cooperagelaw14_alive := case_ok (H := H.cooperagelaw14_alive) (E := env consC) (env_ok consC_ok) rfl mixed0 G.cooperagelaw14_alive Bd.cooperagelaw14_alive (by kernel_rfl) noLoops fun ⟨⟩ y h hw => by
  obtain rfl := pick_one h
  exact ⟨[], alive_ev⟩
noncomputable abbrev consD : List (FuncId × Con) := (I.cooperagelaw14_alive, .pure (pureOf [caseAlive])) :: consC
theorem consD_ok : ∀ x ∈ consD, HoldsC P0 x.1 x.2 := by
  intro x hx
  rcases List.mem_cons.1 hx with rfl | hx
  · exact ⟨pureOf_holds (by simp; exact alive_ok), C.cooperagelaw14_alive⟩
  · exact consC_ok x hx
theorem drops_ev (l : List Seg) (c : Cnf) (now : Int) : evFn (env consD) H.cooperagelaw14_RetainDrops (LPof []) F.cooperagelaw14_RetainDrops [.vl segTy l, valOf confTy c, .int .i64 now] [] (finK 0) =
  Option.bind
    (bif decide ((↑l.length : Int) > (50 : Int)) then some true
    else bif decide (l.length * 8 ≤ 140737488355328) then some ((↑(dropN c now l) : Int) == (↑(dropN c now l) : Int)) else none)
    fun v => some (AV.bool v, []) := by kernel_rfl

def tyDrops : List Ty := [.sl segTy, confTy, .int .i64]
theorem drops_val (l : List Seg) (c : Cnf) (now : Int) : evFn (env consD) H.cooperagelaw14_RetainDrops (LPof []) F.cooperagelaw14_RetainDrops [.vl segTy l, valOf confTy c, .int .i64 now] [] (finK 0) = some (.bool true, []) := by
  rw [drops_ev]
  by_cases h : l.length ≤ 50
  · have h' : l.length * 8 ≤ 140737488355328 := by omega
    simp [h, h']
  · have : ¬ (l.length ≤ 50) := h
    have h2 : decide ((l.length : Int) > 50) = true := decide_eq_true (by omega)
    simp only [h2, cond_true, Option.bind_some]

theorem drops_good (x : tysDen tyDrops) (hw : tysWf tyDrops x) : ∃ o, EffGood P0 I.cooperagelaw14_RetainDrops (valsOf tyDrops x) [] (.bool true) o :=
  ⟨[], evFn_sound (H := H.cooperagelaw14_RetainDrops) (E := env consD) (env_ok consD_ok) rfl mixed0 G.cooperagelaw14_RetainDrops (args := valsOf tyDrops x) (by kernel_rfl) Bd.cooperagelaw14_RetainDrops noLoops (drops_val x.1 x.2.1 x.2.2.1)⟩

end Go.Sim
