/-
  WkRea: the walk of RetainAges.
-/
import Derived.Test.YtnncnhalcbpjpaaWkRet
import Derived.Test.YtnncnhalcbpjpaaPlRea
namespace Go.Sim
set_option linter.unusedSimpArgs false
set_option linter.unusedVariables false

theorem ages_rd {R : Type} (l : List Int) (s : List Seg) (age now want i : Int) (active front : Bool) (K : Ex → St → Option R) : roundK (env consD) H.cooperagelaw14_RetainAges 0 (LPof []) V.cooperagelaw14_RetainAges_8 L.cooperagelaw14_RetainAges_8 ⟨[(0, .vl (.int .i64) l), (1, .int .i64 age), (2, .int .i64 now), (3, .bool active), (10, .hw 0), (11, .int .i64 want), (12, .bool front), (13, .int .i64 i)], [(0, .arr 10 segTy s [])], 1⟩ K =
  bif decide (i < (↑l.length : Int)) then
    bif decide ((0 : Int) ≤ i) && decide (i < (↑l.length : Int)) then
      bif
          decide
            ((s ++
                    [(i, IntKind.i64.wrap (i + (1 : Int)),
                        IntKind.i64.wrap (↑(BitVec.ofInt 64 (l.getD i.toNat (0 : Int)) &&& BitVec.ofInt 64 (1023 : Int)).toNat : Int),
                        (0 : Int), [], true, false, false, (0 : Int), (0 : Int))]).length *
                80 ≤
              140737488355328) then
        Option.bind
          (bif front then
            some
              (decide
                (IntKind.i64.wrap
                    (now -
                      IntKind.i64.wrap (↑(BitVec.ofInt 64 (l.getD i.toNat (0 : Int)) &&& BitVec.ofInt 64 (1023 : Int)).toNat : Int)) >
                  age))
          else some false)
          fun v =>
          bif v then
            K Ex.normal
              {
                slots :=
                  [(0, AV.vl (Ty.int IntKind.i64) l), (1, AV.int IntKind.i64 age), (2, AV.int IntKind.i64 now),
                    (3, AV.bool active), (10, AV.hw 0), (11, AV.int IntKind.i64 (IntKind.i64.wrap (want + (1 : Int)))),
                    (12, AV.bool v), (13, AV.int IntKind.i64 (IntKind.i64.wrap (i + (1 : Int))))],
                objs :=
                  [(0,
                      AObj.arr 10 segTy
                        (s ++
                          [(i, IntKind.i64.wrap (i + (1 : Int)),
                              IntKind.i64.wrap
                                (↑(BitVec.ofInt 64 (l.getD i.toNat (0 : Int)) &&& BitVec.ofInt 64 (1023 : Int)).toNat : Int),
                              (0 : Int), [], true, false, false, (0 : Int), (0 : Int))])
                        [])],
                nx := 1 }
          else
            K Ex.normal
              {
                slots :=
                  [(0, AV.vl (Ty.int IntKind.i64) l), (1, AV.int IntKind.i64 age), (2, AV.int IntKind.i64 now),
                    (3, AV.bool active), (10, AV.hw 0), (11, AV.int IntKind.i64 want), (12, AV.bool v),
                    (13, AV.int IntKind.i64 (IntKind.i64.wrap (i + (1 : Int))))],
                objs :=
                  [(0,
                      AObj.arr 10 segTy
                        (s ++
                          [(i, IntKind.i64.wrap (i + (1 : Int)),
                              IntKind.i64.wrap
                                (↑(BitVec.ofInt 64 (l.getD i.toNat (0 : Int)) &&& BitVec.ofInt 64 (1023 : Int)).toNat : Int),
                              (0 : Int), [], true, false, false, (0 : Int), (0 : Int))])
                        [])],
                nx := 1 }
      else none
    else none
  else
    K (Ex.exit 0)
      {
        slots :=
          [(0, AV.vl (Ty.int IntKind.i64) l), (1, AV.int IntKind.i64 age), (2, AV.int IntKind.i64 now),
            (3, AV.bool active), (10, AV.hw 0), (11, AV.int IntKind.i64 want), (12, AV.bool front),
            (13, AV.int IntKind.i64 i)],
        objs := [(0, AObj.arr 10 segTy s [])], nx := 1 } := by kernel_rfl

def agesSt (l : List Int) (s : List Seg) (age now want i : Int) (active front : Bool) : St := ⟨[(0, .vl (.int .i64) l), (1, .int .i64 age), (2, .int .i64 now), (3, .bool active), (10, .hw 0), (11, .int .i64 want), (12, .bool front), (13, .int .i64 i)], [(0, .arr 10 segTy s [])], 1⟩
theorem getD_dropI (l : List Int) (n : Nat) (h : n < l.length) : l.drop n = l.getD n 0 :: l.drop (n + 1) := getD_drop l n 0 h
theorem ages_loop (l : List Int) (age now : Int) (active : Bool) (hl : l.length ≤ 30) (hn : -1000 ≤ now) (hn2 : now ≤ 2000) {R : Type} (K : Ex → St → Option R) : ∀ (m n : Nat) (s : List Seg) (want : Int) (front : Bool), n + m = l.length → s.length = n → 0 ≤ want → want ≤ n →
    rounds (env consD) H.cooperagelaw14_RetainAges 0 (LPof []) V.cooperagelaw14_RetainAges_8 L.cooperagelaw14_RetainAges_8 (m + 1) (agesSt l s age now want n active front) K =
      K (.exit 0) (agesSt l (s ++ agesL n (l.drop n)) age now (want + (cond front (agesN age now (l.drop n)) 0 : Nat)) (l.length : Int) active (front && allOld age now (l.drop n)))
  | 0, n, s, want, front, h, hs, h0, h1 => by
    have : n = l.length := by omega
    subst this
    rw [rounds_succ']
    unfold agesSt
    rw [ages_rd, cond_neg (by omega)]
    cases front <;> simp [agesL, agesN, allOld]
  | m + 1, n, s, want, front, h, hs, h0, h1 => by
    have hlen : n < l.length := by omega
    rw [getD_dropI l n hlen, rounds_succ']
    unfold agesSt
    rw [ages_rd, cond_pos (by omega), cond_pos2 (by omega) (by omega), cond_pos (by simp only [List.length_append, List.length_cons, List.length_nil]; omega)]
    simp only [Int.toNat_natCast]
    have hw : IntKind.i64.wrap ((n : Int) + 1) = (n : Int) + 1 := wrap64 (by omega) (by omega)
    have hw2 : IntKind.i64.wrap (want + 1) = want + 1 := wrap64 (by omega) (by omega)
    rw [hw, hw2]
    have ht := tmI_range (l.getD n 0)
    have hd : IntKind.i64.wrap (now - tmI (l.getD n 0)) = now - tmI (l.getD n 0) := wrap64 (by omega) (by omega)
    have ih := fun want' front' (hx : 0 ≤ want') (hy : want' ≤ ((n + 1 : Nat) : Int)) => ages_loop l age now active hl hn hn2 K m (n + 1) (s ++ [ageSeg n (l.getD n 0)]) want' front' (by omega) (by simp [hs]) hx hy
    simp only [agesSt, List.append_assoc, List.singleton_append, show ((n + 1 : Nat) : Int) = (n : Int) + 1 by omega] at ih
    change Option.bind (bif front then some (decide (IntKind.i64.wrap (now - tmI (l.getD n 0)) > age)) else some false) _ = _
    rw [hd]
    simp only [agesL, agesN, allOld, List.all_cons]
    cases front with
    | false =>
      have := ih want false h0 (by omega)
      simp only [cond_false, Bool.false_and, Option.bind_some] at this ⊢
      exact this
    | true =>
      cases ho : decide (now - tmI (l.getD n 0) > age) with
      | false =>
        have := ih want false h0 (by omega)
        simp only [cond_false, cond_true, Bool.false_and, Bool.true_and, Option.bind_some] at this ⊢
        exact this
      | true =>
        have := ih (want + 1) true (by omega) (by omega)
        simp only [cond_false, cond_true, Bool.false_and, Bool.true_and, Option.bind_some] at this ⊢
        rw [show want + 1 + ((agesN age now (l.drop (n + 1)) : Nat) : Int) = want + ((agesN age now (l.drop (n + 1)) + 1 : Nat) : Int) by omega] at this
        exact this
def agesPat : SPat := ⟨[(0, .vl (.int .i64)), (1, .int .i64), (2, .int .i64), (3, .bool), (10, .lit (.hw 0)), (11, .int .i64), (12, .bool), (13, .int .i64)], [.arr 10 segTy []]⟩
def agesLC : LoopC := LoopC.of agesPat (fun x => decide (List.length x.1.1 ≤ 30) && decide ((-1000 : Int) ≤ x.1.2.2.1) && decide (x.1.2.2.1 ≤ (2000 : Int)) && decide (x.1.2.2.2.2.2.1 = (0 : Int)) && x.1.2.2.2.2.2.2.1 && decide (x.1.2.2.2.2.2.2.2.1 = (0 : Int)) && List.isEmpty x.2.1.1)
  fun x => [(true, .exit 0, agesSt x.1.1 (agesL 0 x.1.1) x.1.2.1 x.1.2.2.1 ((agesN x.1.2.1 x.1.2.2.1 x.1.1 : Nat) : Int) ((List.length x.1.1 : Nat) : Int) x.1.2.2.2.1 (allOld x.1.2.1 x.1.2.2.1 x.1.1))]
theorem ages_lok : LoopOK P0 H.cooperagelaw14_RetainAges 0 L.cooperagelaw14_RetainAges_8 agesLC := loop_ok_of (env_ok consD_ok) rfl mixed0 noLoops V.cooperagelaw14_RetainAges_8 (by decide) fun ⟨⟨l, age, now, active, _, want, front, i, _⟩, ⟨s, _⟩, _⟩ h hw => by
  simp only [Bool.and_eq_true, decide_eq_true_eq, List.isEmpty_iff] at h
  obtain ⟨⟨⟨⟨⟨⟨h1, h2⟩, h3⟩, h4⟩, h5⟩, h6⟩, h7⟩ := h
  subst h4; subst h5; subst h6; subst h7
  have := ages_loop l age now active h1 h2 h3 (fun e s => some (e, s)) (List.length l) 0 [] 0 true (Nat.zero_add _) rfl (Int.le_refl _) (Int.le_refl _)
  rw [List.drop_zero, Int.zero_add] at this
  exact ⟨_, this⟩

theorem ages_ev (l : List Int) (age now : Int) (active : Bool) : evFn (env consD) H.cooperagelaw14_RetainAges (LPof [(8, agesLC)]) F.cooperagelaw14_RetainAges [.vl (.int .i64) l, .int .i64 age, .int .i64 now, .bool active] [] (finK 0) =
  Option.bind
    (bif decide ((↑l.length : Int) > (30 : Int)) then some true
    else
      bif decide (age < (1 : Int)) then some true
      else bif decide (age > (1000 : Int)) then some true else bif decide (now < (-1000 : Int)) then some true else some (decide (now > (2000 : Int))))
    fun v =>
    bif v then some (AV.bool true, [])
    else
      bif decide (l.length ≤ 30) && decide ((-1000 : Int) ≤ now) && decide (now ≤ (2000 : Int)) && true && true && true && true && true then
        bif active then
          bif
              decide
                ((agesL (0 : Int) l ++ [((0 : Int), (0 : Int), (0 : Int), (0 : Int), [], false, false, false, (0 : Int), (0 : Int))]).length *
                    80 ≤
                  140737488355328) then
            bif
                decide
                  ((agesL (0 : Int) l ++ [((0 : Int), (0 : Int), (0 : Int), (0 : Int), [], false, false, false, (0 : Int), (0 : Int))]).length *
                      8 ≤
                    140737488355328) then
              some
                (AV.bool
                    ((↑(dropN ((0 : Int), (0 : Int), age, (0 : Int)) now
                            (agesL (0 : Int) l ++ [((0 : Int), (0 : Int), (0 : Int), (0 : Int), [], false, false, false, (0 : Int), (0 : Int))])) :
                        Int) ==
                      (↑(agesN age now l) : Int)),
                  [])
            else none
          else none
        else
          bif decide ((agesL (0 : Int) l).length * 8 ≤ 140737488355328) then
            some (AV.bool ((↑(dropN ((0 : Int), (0 : Int), age, (0 : Int)) now (agesL (0 : Int) l)) : Int) == (↑(agesN age now l) : Int)), [])
          else none
      else none := by kernel_rfl

theorem bind_ors5' {R : Type} (a b c d e : Bool) (k : Bool → Option R) : (bif a then some true else bif b then some true else bif c then some true else bif d then some true else some e).bind k = k (a || b || c || d || e) := by
  cases a <;> cases b <;> cases c <;> cases d <;> rfl
theorem ages_val (l : List Int) (age now : Int) (active : Bool) : evFn (env consD) H.cooperagelaw14_RetainAges (LPof [(8, agesLC)]) F.cooperagelaw14_RetainAges [.vl (.int .i64) l, .int .i64 age, .int .i64 now, .bool active] [] (finK 0) = some (.bool true, []) := by
  rw [ages_ev, bind_ors5']
  cases h0 : (decide ((l.length : Int) > (30 : Int)) || decide (age < (1 : Int)) || decide (age > (1000 : Int)) || decide (now < (-1000 : Int)) || decide (now > (2000 : Int))) with
  | true => rfl
  | false =>
    simp only [Bool.or_eq_false_iff, decide_eq_false_iff_not] at h0
    obtain ⟨⟨⟨⟨h1, h2⟩, h3⟩, h4⟩, h5⟩ := h0
    have g1 : decide (l.length ≤ 30) = true := decide_eq_true (by omega)
    have g2 : decide ((-1000 : Int) ≤ now) = true := decide_eq_true (by omega)
    have g3 : decide (now ≤ (2000 : Int)) = true := decide_eq_true (by omega)
    have hlen := agesL_length 0 l
    simp only [g1, g2, g3, Bool.and_true, cond_true, cond_false]
    cases active with
    | true =>
      simp only [cond_true]
      rw [cond_pos (by simp only [List.length_append, List.length_cons, List.length_nil]; omega), cond_pos (by simp only [List.length_append, List.length_cons, List.length_nil]; omega), ages_drop age now (by omega) _ (by rfl)]
      simp
    | false =>
      have := ages_drop age now (by omega) [] (by rfl) l 0
      rw [List.append_nil] at this
      simp only [cond_false]
      rw [cond_pos (by omega), this]
      simp
def tyAges : List Ty := [.sl (.int .i64), .int .i64, .int .i64, .bool]
theorem ages_good (x : tysDen tyAges) (hw : tysWf tyAges x) : ∃ o, EffGood P0 I.cooperagelaw14_RetainAges (valsOf tyAges x) [] (.bool true) o :=
  ⟨[], evFn_sound (H := H.cooperagelaw14_RetainAges) (E := env consD) (env_ok consD_ok) rfl mixed0 G.cooperagelaw14_RetainAges (args := valsOf tyAges x) (by kernel_rfl) Bd.cooperagelaw14_RetainAges
    (loops_good (tab := [(8, agesLC)]) (by kernel_rfl) (fun x hx => by
      simp at hx
      subst hx
      exact ages_lok)) (ages_val x.1 x.2.1 x.2.2.1 x.2.2.2.1)⟩

end Go.Sim
