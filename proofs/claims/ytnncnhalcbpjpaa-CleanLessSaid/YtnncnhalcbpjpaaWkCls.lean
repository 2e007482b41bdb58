/-
  WkCls: the walk of CleanLess.
-/
import Derived.Test.YtnncnhalcbpjpaaWkCln
import Derived.Test.YtnncnhalcbpjpaaPlCls
namespace Go.Sim
set_option linter.unusedSimpArgs false
set_option linter.unusedVariables false

theorem ls18_rd {R : Type} (l m : List Rec) (r : Rec) (a b c at' i k : Int) (d f w : Bool) (K : Ex → St → Option R) : roundK (env consM) H.cooperagelaw13_CleanLess 0 (LPof []) V.cooperagelaw13_CleanLess_18 L.cooperagelaw13_CleanLess_18 ⟨[(2, .int .i64 a), (3, .int .i64 b), (4, .int .i64 c), (5, .bool d), (12, .bool f), (15, .vl recTy l), (16, .vl recTy m), (17, .int .i64 at'), (18, .int .i64 i), (19, .ptr 0 (.tl 0) 0), (20, .bool w), (21, .int .i64 k)], [(0, .arr 5 .bool [] [enc recTy r])], 1⟩ K =
  bif decide (k < (↑l.length : Int)) then
    Option.bind
      (bif w then some true
      else
        bif decide ((0 : Int) ≤ k) && decide (k < (↑l.length : Int)) then
          bif (l.getD k.toNat recTy.zero).snd.snd.fst == r.snd.snd.fst then
            bif decide ((0 : Int) ≤ k) && decide (k < (↑l.length : Int)) then some (decide ((l.getD k.toNat recTy.zero).fst < a)) else none
          else some false
        else none)
      fun v =>
      K Ex.normal
        {
          slots :=
            [(2, AV.int IntKind.i64 a), (3, AV.int IntKind.i64 b), (4, AV.int IntKind.i64 c), (5, AV.bool d),
              (12, AV.bool f), (15, AV.vl recTy l), (16, AV.vl recTy m), (17, AV.int IntKind.i64 at'),
              (18, AV.int IntKind.i64 i), (19, AV.ptr 0 (Elt.tl 0) 0), (20, AV.bool v),
              (21, AV.int IntKind.i64 (IntKind.i64.wrap (k + (1 : Int))))],
          objs :=
            [(0,
                AObj.arr 5 Ty.bool []
                  [[AV.int IntKind.i64 r.fst, AV.int IntKind.i64 r.snd.fst, AV.str r.snd.snd.fst, AV.str r.snd.snd.snd.fst,
                      AV.bool r.snd.snd.snd.snd]])],
          nx := 1 }
  else
    K (Ex.exit 2)
      {
        slots :=
          [(2, AV.int IntKind.i64 a), (3, AV.int IntKind.i64 b), (4, AV.int IntKind.i64 c), (5, AV.bool d),
            (12, AV.bool f), (15, AV.vl recTy l), (16, AV.vl recTy m), (17, AV.int IntKind.i64 at'),
            (18, AV.int IntKind.i64 i), (19, AV.ptr 0 (Elt.tl 0) 0), (20, AV.bool w),
            (21, AV.int IntKind.i64 k)],
        objs :=
          [(0,
              AObj.arr 5 Ty.bool []
                [[AV.int IntKind.i64 r.fst, AV.int IntKind.i64 r.snd.fst, AV.str r.snd.snd.fst, AV.str r.snd.snd.snd.fst, AV.bool r.snd.snd.snd.snd]])],
        nx := 1 } := by kernel_rfl

def ls18St (l m : List Rec) (r : Rec) (a b c at' i k : Int) (d f w : Bool) : St := ⟨[(2, .int .i64 a), (3, .int .i64 b), (4, .int .i64 c), (5, .bool d), (12, .bool f), (15, .vl recTy l), (16, .vl recTy m), (17, .int .i64 at'), (18, .int .i64 i), (19, .ptr 0 (.tl 0) 0), (20, .bool w), (21, .int .i64 k)], [(0, .arr 5 .bool [] [enc recTy r])], 1⟩
theorem bind_why {R : Type} (w x y : Bool) (k : Bool → Option R) : (bif w then some true else bif x then some y else some false).bind k = k (w || (x && y)) := by
  cases w <;> cases x <;> rfl
def behK (a : Int) (r q : Rec) : Bool := (q.2.2.1 == r.2.2.1) && decide (q.1 < a)
theorem ls18_loop (l m : List Rec) (r : Rec) (a b c at' i : Int) (d f : Bool) (hl : l.length ≤ maxL) {R : Type} (K : Ex → St → Option R) : ∀ (t n : Nat) (w : Bool), n + t = l.length →
    rounds (env consM) H.cooperagelaw13_CleanLess 0 (LPof []) V.cooperagelaw13_CleanLess_18 L.cooperagelaw13_CleanLess_18 (t + 1) (ls18St l m r a b c at' i n d f w) K =
      K (.exit 2) (ls18St l m r a b c at' i (l.length : Int) d f (w || (l.drop n).any (behK a r)))
  | 0, n, w, h => by
    have : n = l.length := by omega
    subst this
    rw [rounds_succ']
    unfold ls18St
    rw [ls18_rd, cond_neg (by omega)]
    simp only [List.drop_length, List.any_nil, Bool.or_false]
    rfl
  | t + 1, n, w, h => by
    have hlen : n < l.length := by omega
    unfold maxL at hl
    rw [getD_dropR l n hlen, rounds_succ']
    unfold ls18St
    rw [ls18_rd, cond_pos (by omega), cond_pos2 (by omega) (by omega), cond_pos2 (by omega) (by omega), bind_why]
    simp only [Int.toNat_natCast, List.any_cons]
    have ih := ls18_loop l m r a b c at' i d f hl K t (n + 1) (w || behK a r (l.getD n recTy.zero)) (by omega)
    unfold ls18St at ih
    rw [show ((n + 1 : Nat) : Int) = (n : Int) + 1 by omega, Bool.or_assoc] at ih
    rw [wrap64 (by omega) (by omega)]
    exact ih
def ls18Pat : SPat := ⟨[(2, .int .i64), (3, .int .i64), (4, .int .i64), (5, .bool), (12, .bool), (15, .vl recTy), (16, .vl recTy), (17, .int .i64), (18, .int .i64), (19, .lit (.ptr 0 (.tl 0) 0)), (20, .bool), (21, .int .i64)], [.box 5 [[.int .i64, .int .i64, .str, .str, .bool]]]⟩
def ls18LC : LoopC := LoopC.of ls18Pat (fun x => decide (0 ≤ x.1.2.2.2.2.2.2.2.2.2.2.2.1) && decide (x.1.2.2.2.2.2.2.2.2.2.2.2.1 ≤ ((List.length x.1.2.2.2.2.2.1 : Nat) : Int)))
  fun x => (fun r => [(true, .exit 2, ls18St x.1.2.2.2.2.2.1 x.1.2.2.2.2.2.2.1 r x.1.1 x.1.2.1 x.1.2.2.1 x.1.2.2.2.2.2.2.2.1 x.1.2.2.2.2.2.2.2.2.1 ((List.length x.1.2.2.2.2.2.1 : Nat) : Int) x.1.2.2.2.1 x.1.2.2.2.2.1 (x.1.2.2.2.2.2.2.2.2.2.2.1 || (List.drop (Int.toNat x.1.2.2.2.2.2.2.2.2.2.2.2.1) x.1.2.2.2.2.2.1).any (behK x.1.1 r)))]) (x.2.1.1.1, x.2.1.1.2.1, x.2.1.1.2.2.1, x.2.1.1.2.2.2.1, x.2.1.1.2.2.2.2.1)
theorem ls18_all (l m : List Rec) (r : Rec) (a b c at' i k : Int) (d f w : Bool) (hl : l.length ≤ maxL) (h1 : 0 ≤ k) (h2 : k ≤ (l.length : Int)) :
    ∃ n, rounds (env consM) H.cooperagelaw13_CleanLess 0 (LPof []) V.cooperagelaw13_CleanLess_18 L.cooperagelaw13_CleanLess_18 n (ls18St l m r a b c at' i k d f w) (fun e s => some (e, s)) =
      some (.exit 2, ls18St l m r a b c at' i (l.length : Int) d f (w || (l.drop k.toNat).any (behK a r))) := by
  obtain ⟨n, rfl⟩ := Int.eq_ofNat_of_zero_le h1
  exact ⟨_, ls18_loop l m r a b c at' i d f hl (fun e s => some (e, s)) (l.length - n) n w (by omega)⟩
theorem ls18_lok : LoopOK P0 H.cooperagelaw13_CleanLess 0 L.cooperagelaw13_CleanLess_18 ls18LC := loop_ok_of (env_ok consM_ok) rfl mixed0 noLoops V.cooperagelaw13_CleanLess_18 (by decide) fun ⟨⟨a, b, c, d, f, l, m, at', i, _, w, k, _⟩, ⟨⟨r1, r2, r3, r4, r5, _⟩, _⟩, _⟩ h hw => by
  simp only [Bool.and_eq_true, decide_eq_true_eq] at h
  exact ls18_all l m (r1, r2, r3, r4, r5) a b c at' i k d f w hw.1.2.2.2.2.2.1.1 h.1 h.2

theorem ls9_rd {R : Type} (l m : List Rec) (a b c at' i : Int) (d f : Bool) (K : Ex → St → Option R) : roundK (env consM) H.cooperagelaw13_CleanLess 0 (LPof [(18, ls18LC)]) V.cooperagelaw13_CleanLess_9 L.cooperagelaw13_CleanLess_9 ⟨[(2, .int .i64 a), (3, .int .i64 b), (4, .int .i64 c), (5, .bool d), (12, .bool f), (15, .vl recTy l), (16, .vl recTy m), (17, .int .i64 at'), (18, .int .i64 i)], [], 0⟩ K =
  bif decide (i < (↑l.length : Int)) then
    Option.bind
      (bif decide (at' < (↑m.length : Int)) then
        bif decide ((0 : Int) ≤ at') && decide (at' < (↑m.length : Int)) then
          bif decide ((0 : Int) ≤ i) && decide (i < (↑l.length : Int)) then
            some
              ((m.getD at'.toNat recTy.zero).fst == (l.getD i.toNat recTy.zero).fst &&
                ((m.getD at'.toNat recTy.zero).snd.fst == (l.getD i.toNat recTy.zero).snd.fst &&
                  ((m.getD at'.toNat recTy.zero).snd.snd.fst == (l.getD i.toNat recTy.zero).snd.snd.fst &&
                    ((m.getD at'.toNat recTy.zero).snd.snd.snd.fst == (l.getD i.toNat recTy.zero).snd.snd.snd.fst &&
                      ((m.getD at'.toNat recTy.zero).snd.snd.snd.snd == (l.getD i.toNat recTy.zero).snd.snd.snd.snd && true)))))
          else none
        else none
      else some false)
      fun v =>
      bif v then
        K Ex.normal
          {
            slots :=
              [(2, AV.int IntKind.i64 a), (3, AV.int IntKind.i64 b), (4, AV.int IntKind.i64 c), (5, AV.bool d),
                (12, AV.bool f), (15, AV.vl recTy l), (16, AV.vl recTy m),
                (17, AV.int IntKind.i64 (IntKind.i64.wrap (at' + (1 : Int)))),
                (18, AV.int IntKind.i64 (IntKind.i64.wrap (i + (1 : Int))))],
            objs := [], nx := 0 }
      else
        bif decide ((0 : Int) ≤ i) && decide (i < (↑l.length : Int)) then
          Option.bind
            (bif decide ((l.getD i.toNat recTy.zero).snd.fst < (-1125899906842624 : Int)) then some true
            else some (decide ((l.getD i.toNat recTy.zero).snd.fst > (1125899906842624 : Int))))
            fun v =>
            bif v then
              K Ex.ret
                {
                  slots :=
                    [(2, AV.int IntKind.i64 a), (3, AV.int IntKind.i64 b), (4, AV.int IntKind.i64 c), (5, AV.bool d),
                      (12, AV.bool true), (15, AV.vl recTy l), (16, AV.vl recTy m), (17, AV.int IntKind.i64 at'),
                      (18, AV.int IntKind.i64 i)],
                  objs := [], nx := 0 }
            else
              Option.bind
                (bif (l.getD i.toNat recTy.zero).snd.snd.snd.snd then
                  bif d then some (decide (IntKind.i64.wrap (b - (l.getD i.toNat recTy.zero).snd.fst) > c)) else some false
                else some false)
                fun v =>
                bif
                    decide ((0 : (Pat.int IntKind.i64).den) ≤ IntKind.i64.wrap (i + (1 : Int))) &&
                        decide (IntKind.i64.wrap (i + (1 : Int)) ≤ (↑l.length : Int)) &&
                      true then
                  Option.bind
                    (bif !(v || (List.drop (IntKind.i64.wrap (i + (1 : Int))).toNat l).any (behK a (l.getD i.toNat recTy.zero))) then some true
                    else some (decide ((l.getD i.toNat recTy.zero).fst ≥ a)))
                    fun v =>
                    bif v then
                      K Ex.ret
                        {
                          slots :=
                            [(2, AV.int IntKind.i64 a), (3, AV.int IntKind.i64 b), (4, AV.int IntKind.i64 c),
                              (5, AV.bool d), (12, AV.bool false), (15, AV.vl recTy l), (16, AV.vl recTy m),
                              (17, AV.int IntKind.i64 at'), (18, AV.int IntKind.i64 i)],
                          objs := [], nx := 0 }
                    else
                      K Ex.normal
                        {
                          slots :=
                            [(2, AV.int IntKind.i64 a), (3, AV.int IntKind.i64 b), (4, AV.int IntKind.i64 c),
                              (5, AV.bool d), (12, AV.bool f), (15, AV.vl recTy l), (16, AV.vl recTy m),
                              (17, AV.int IntKind.i64 at'), (18, AV.int IntKind.i64 (IntKind.i64.wrap (i + (1 : Int))))],
                          objs := [], nx := 0 }
                else none
        else none
  else
    K (Ex.exit 0)
      {
        slots :=
          [(2, AV.int IntKind.i64 a), (3, AV.int IntKind.i64 b), (4, AV.int IntKind.i64 c), (5, AV.bool d),
            (12, AV.bool f), (15, AV.vl recTy l), (16, AV.vl recTy m), (17, AV.int IntKind.i64 at'),
            (18, AV.int IntKind.i64 i)],
        objs := [], nx := 0 } := by kernel_rfl

def ls9St (l m : List Rec) (a b c at' i : Int) (d f : Bool) : St := ⟨[(2, .int .i64 a), (3, .int .i64 b), (4, .int .i64 c), (5, .bool d), (12, .bool f), (15, .vl recTy l), (16, .vl recTy m), (17, .int .i64 at'), (18, .int .i64 i)], [], 0⟩
theorem bind_and {R : Type} (x y z : Bool) (k : Bool → Option R) : (bif x then bif y then some z else some false else some false).bind k = k (x && y && z) := by
  cases x <;> cases y <;> rfl
theorem bind_or2 {R : Type} (a b : Bool) (k : Bool → Option R) : (bif a then some true else some b).bind k = k (a || b) := by cases a <;> rfl
/-- Is the next one that is kept this one? -/
def nextB (l m : List Rec) (at' n : Nat) : Bool := headS (m.drop at') (l.getD n recTy.zero)
theorem nextB_eq (l m : List Rec) (at' n : Nat) (hn : n < l.length) :
    (bif decide ((at' : Int) < (m.length : Int)) then
        bif decide ((0 : Int) ≤ (at' : Int)) && decide ((at' : Int) < (m.length : Int)) then
          bif decide ((0 : Int) ≤ (n : Int)) && decide ((n : Int) < (l.length : Int)) then
            some (sameR (m.getD at' recTy.zero) (l.getD n recTy.zero))
          else none
        else none
      else some false) = some (nextB l m at' n) := by
  unfold nextB
  by_cases h : at' < m.length
  · rw [cond_pos (by omega), cond_pos2 (by omega) (by omega), cond_pos2 (by omega) (by omega), getD_dropR m at' h]
    rfl
  · rw [cond_neg (by omega), List.drop_eq_nil_of_le (by omega)]
    rfl
theorem ls9_step (l m : List Rec) (a b c : Int) (d f : Bool) (hl : l.length ≤ 1048576) (hb : -1125899906842624 ≤ b ∧ b ≤ 1125899906842624) (n at' : Nat) (hn : n < l.length) (hat : at' ≤ n) (hnext : nextB l m at' n = staysR a b c d (l.getD n recTy.zero) (l.drop (n + 1))) {R : Type} (K : Ex → St → Option R) :
    roundK (env consM) H.cooperagelaw13_CleanLess 0 (LPof [(18, ls18LC)]) V.cooperagelaw13_CleanLess_9 L.cooperagelaw13_CleanLess_9 (ls9St l m a b c at' n d f) K =
      cond (staysR a b c d (l.getD n recTy.zero) (l.drop (n + 1))) (K .normal (ls9St l m a b c ((at' : Int) + 1) ((n : Int) + 1) d f))
        (cond (badT (l.getD n recTy.zero)) (K .ret (ls9St l m a b c at' n d true)) (K .normal (ls9St l m a b c at' ((n : Int) + 1) d f))) := by
  unfold ls9St
  have e1 : IntKind.i64.wrap ((n : Int) + 1) = (n : Int) + 1 := wrap64 (by omega) (by omega)
  have e2 : IntKind.i64.wrap ((at' : Int) + 1) = (at' : Int) + 1 := wrap64 (by omega) (by omega)
  rw [ls9_rd, cond_pos (by omega), e1, e2]
  simp only [Int.toNat_natCast]
  have hx := nextB_eq l m at' n hn
  unfold sameR at hx
  rw [hx]
  simp only [Option.bind_some]
  rw [hnext]
  cases hs : staysR a b c d (l.getD n recTy.zero) (l.drop (n + 1))
  · simp only [cond_false]
    rw [cond_pos2 (by omega) (by omega), bind_or2]
    rw [show (decide ((l.getD n recTy.zero).2.1 < (-1125899906842624 : Int)) || decide ((l.getD n recTy.zero).2.1 > (1125899906842624 : Int))) = badT (l.getD n recTy.zero) from rfl]
    cases ht : badT (l.getD n recTy.zero)
    · simp only [cond_false]
      simp only [badT, Bool.or_eq_false_iff, decide_eq_false_iff_not] at ht
      have hwr : IntKind.i64.wrap (b - (l.getD n recTy.zero).2.1) = b - (l.getD n recTy.zero).2.1 := wrap64 (by omega) (by omega)
      simp only [hwr]
      rw [bind_and]
      obtain ⟨h1, h2⟩ := why_gone a b c d _ _ hs
      have hk : ((n : Int) + 1).toNat = n + 1 := by omega
      have hge : ¬ ((l.getD n recTy.zero).1 ≥ a) := by omega
      have h3 : (((l.getD n recTy.zero).2.2.2.2 && d && decide (b - (l.getD n recTy.zero).2.1 > c)) || (l.drop (n + 1)).any (behK a (l.getD n recTy.zero))) = true := h1
      rw [hk, h3]
      have h4 : decide ((0 : Int) ≤ (n : Int) + 1) = true := decide_eq_true (by omega)
      have h5 : decide ((n : Int) + 1 ≤ (l.length : Int)) = true := decide_eq_true (by omega)
      simp only [h5, hge, decide_false, Bool.not_true, cond_false, Option.bind_some, Bool.and_true]
      rw [show decide ((0 : (Pat.int IntKind.i64).den) ≤ (n : Int) + 1) = true from h4]
      rfl
    · rfl
  · rfl
theorem ls9_loop (l m : List Rec) (a b c : Int) (d f : Bool) (hl : l.length ≤ 1048576) (hb : -1125899906842624 ≤ b ∧ b ≤ 1125899906842624) {R : Type} (K : Ex → St → Option R) : ∀ (t n at' : Nat), n + t = l.length → at' ≤ n → at' ≤ m.length → risingB (l.drop n) = true → m.drop at' = keepL a b c d (l.drop n) →
    rounds (env consM) H.cooperagelaw13_CleanLess 0 (LPof [(18, ls18LC)]) V.cooperagelaw13_CleanLess_9 L.cooperagelaw13_CleanLess_9 (t + 1) (ls9St l m a b c at' n d f) K =
      match lessF a b c d (l.drop n) at' n with
      | some (x, y) => K .ret (ls9St l m a b c x y d true)
      | none => K (.exit 0) (ls9St l m a b c (m.length : Int) (l.length : Int) d f)
  | 0, n, at', h, ha, ham, hr, hm => by
    have : n = l.length := by omega
    subst this
    rw [rounds_succ']
    unfold ls9St
    rw [ls9_rd, cond_neg (by omega)]
    rw [List.drop_length] at hm
    have : at' = m.length := by
      have := congrArg List.length hm
      simp [keepL] at this
      omega
    subst this
    simp only [List.drop_length, lessF]
  | t + 1, n, at', h, ha, ham, hr, hm => by
    have hlen : n < l.length := by omega
    rw [getD_dropR l n hlen] at hm hr
    have hnext : nextB l m at' n = staysR a b c d (l.getD n recTy.zero) (l.drop (n + 1)) := next_kept a b c d _ _ _ hr hm
    obtain ⟨_, hr2⟩ := rising_head hr
    rw [rounds_succ', ls9_step l m a b c d f hl hb n at' hlen ha hnext, getD_dropR l n hlen]
    simp only [lessF]
    simp only [keepL] at hm
    cases hs : staysR a b c d (l.getD n recTy.zero) (l.drop (n + 1))
    · rw [hs] at hm
      simp only [cond_false] at hm ⊢
      cases ht : badT (l.getD n recTy.zero)
      · have ih := ls9_loop l m a b c d f hl hb K t (n + 1) at' (by omega) (by omega) ham hr2 hm
        rw [show ((n + 1 : Nat) : Int) = (n : Int) + 1 by omega] at ih
        exact ih
      · rfl
    · rw [hs] at hm
      simp only [cond_true] at hm ⊢
      have hlt : at' < m.length := by
        rcases Nat.lt_or_ge at' m.length with h' | h'
        · exact h'
        · rw [List.drop_eq_nil_of_le h'] at hm; cases hm
      have hm2 : m.drop (at' + 1) = keepL a b c d (l.drop (n + 1)) := by
        rw [getD_dropR m at' hlt] at hm
        exact (List.cons.inj hm).2
      have ih := ls9_loop l m a b c d f hl hb K t (n + 1) (at' + 1) (by omega) (by omega) (by omega) hr2 hm2
      rw [show ((n + 1 : Nat) : Int) = (n : Int) + 1 by omega, show ((at' + 1 : Nat) : Int) = (at' : Int) + 1 by omega] at ih
      exact ih
def ls9Pat : SPat := ⟨[(2, .int .i64), (3, .int .i64), (4, .int .i64), (5, .bool), (12, .bool), (15, .vl recTy), (16, .vl recTy), (17, .int .i64), (18, .int .i64)], []⟩
def ls9LC : LoopC := LoopC.of ls9Pat (fun x => decide (List.length x.1.2.2.2.2.2.1 ≤ 1048576) && decide ((-1125899906842624 : Int) ≤ x.1.2.1) && decide (x.1.2.1 ≤ (1125899906842624 : Int)) && risingB x.1.2.2.2.2.2.1 && decide (x.1.2.2.2.2.2.2.1 = keepL x.1.1 x.1.2.1 x.1.2.2.1 x.1.2.2.2.1 x.1.2.2.2.2.2.1) && decide (x.1.2.2.2.2.2.2.2.1 = (0 : Int)) && decide (x.1.2.2.2.2.2.2.2.2.1 = (0 : Int)))
  fun x => [((lessF x.1.1 x.1.2.1 x.1.2.2.1 x.1.2.2.2.1 x.1.2.2.2.2.2.1 0 0).isSome, .ret, ls9St x.1.2.2.2.2.2.1 x.1.2.2.2.2.2.2.1 x.1.1 x.1.2.1 x.1.2.2.1 ((lessF x.1.1 x.1.2.1 x.1.2.2.1 x.1.2.2.2.1 x.1.2.2.2.2.2.1 0 0).getD (0, 0)).1 ((lessF x.1.1 x.1.2.1 x.1.2.2.1 x.1.2.2.2.1 x.1.2.2.2.2.2.1 0 0).getD (0, 0)).2 x.1.2.2.2.1 true),
    (true, .exit 0, ls9St x.1.2.2.2.2.2.1 x.1.2.2.2.2.2.2.1 x.1.1 x.1.2.1 x.1.2.2.1 ((List.length x.1.2.2.2.2.2.2.1 : Nat) : Int) ((List.length x.1.2.2.2.2.2.1 : Nat) : Int) x.1.2.2.2.1 x.1.2.2.2.2.1)]
theorem ls9_lok : LoopOK P0 H.cooperagelaw13_CleanLess 0 L.cooperagelaw13_CleanLess_9 ls9LC := loop_ok_of (env_ok consM_ok) rfl mixed0 (loops_good (tab := [(18, ls18LC)]) (by kernel_rfl) (fun x hx => by simp at hx; subst hx; exact ls18_lok)) V.cooperagelaw13_CleanLess_9 (by decide) fun ⟨⟨a, b, c, d, f, l, m, at', i, _⟩, _⟩ h hw => by
  simp only [Bool.and_eq_true, decide_eq_true_eq] at h
  obtain ⟨⟨⟨⟨⟨⟨h1, h2⟩, h3⟩, h4⟩, h5⟩, h6⟩, h7⟩ := h
  subst h5; subst h6; subst h7
  have := ls9_loop l _ a b c d f h1 ⟨h2, h3⟩ (fun e s => some (e, s)) (List.length l) 0 0 (Nat.zero_add _) (Nat.le_refl _) (Nat.zero_le _) h4 rfl
  rw [List.drop_zero] at this
  refine ⟨_, Eq.trans this ?_⟩
  simp only [pick]
  cases lessF a b c d l 0 0 with
  | none => rfl
  | some p => rfl

theorem less_ev (l : List Rec) (g : List Int) (a b c : Int) (d : Bool) : evFn (env consM) H.cooperagelaw13_CleanLess (LPof [(9, ls9LC), (18, ls18LC)]) F.cooperagelaw13_CleanLess [.vl recTy l, .vl (.int .i64) g, .int .i64 a, .int .i64 b, .int .i64 c, .bool d] [] (finK 0) =
  Option.bind
    (bif bigL l then some true
    else
      bif decide ((↑g.length : Int) < (↑l.length : Int)) then some true
      else
        bif decide (b < (-1125899906842624 : Int)) then some true
        else
          bif decide (b > (1125899906842624 : Int)) then some true
          else bif decide (c < (0 : Int)) then some true else some (decide (c > (1125899906842624 : Int))))
    fun v =>
    bif v then some (AV.bool true, [])
    else
      bif decide (l.length ≤ 1048576) && decide (l.length ≤ g.length) then
        bif decide ((riseL (0 : Int) l g).length ≤ 1048576) then
          bif
              decide ((riseL (0 : Int) l g).length ≤ 1048576) && decide ((-1125899906842624 : Int) ≤ b) &&
                          decide (b ≤ (1125899906842624 : Int)) &&
                        risingB (riseL (0 : Int) l g) &&
                      decide (keepL a b c d (riseL (0 : Int) l g) = keepL a b c d (riseL (0 : Int) l g)) &&
                    true &&
                  true &&
                (lessF a b c d (riseL (0 : Int) l g) 0 0).isSome then
            some (AV.bool true, [])
          else
            bif
                decide ((riseL (0 : Int) l g).length ≤ 1048576) && decide ((-1125899906842624 : Int) ≤ b) &&
                            decide (b ≤ (1125899906842624 : Int)) &&
                          risingB (riseL (0 : Int) l g) &&
                        decide (keepL a b c d (riseL (0 : Int) l g) = keepL a b c d (riseL (0 : Int) l g)) &&
                      true &&
                    true &&
                  true then
              some (AV.bool ((↑(keepL a b c d (riseL (0 : Int) l g)).length : Int) == (↑(keepL a b c d (riseL (0 : Int) l g)).length : Int)), [])
            else none
        else none
      else none := by kernel_rfl

theorem riseL_rising : ∀ (at' : Int) (l : List Rec) (g : List Int), (∀ q ∈ riseL at' l g, at' < q.1) ∧ risingB (riseL at' l g) = true
  | at', r :: l, g :: gs => by
    have hr := gapI_range g
    obtain ⟨h1, h2⟩ := riseL_rising (at' + 1 + gapI g) l gs
    refine ⟨fun q hq => ?_, ?_⟩
    · simp only [riseL] at hq
      rcases List.mem_cons.1 hq with hq | hq
      · subst hq
        simp only
        omega
      · have := h1 q hq
        omega
    · simp only [riseL, risingB, Bool.and_eq_true, List.all_eq_true, decide_eq_true_eq]
      exact ⟨h1, h2⟩
  | at', [], _ => by simp [riseL, risingB]
  | at', _ :: _, [] => by simp [riseL, risingB]
theorem bind_ors6 {R : Type} (a b c d e f : Bool) (k : Bool → Option R) : (bif a then some true else bif b then some true else bif c then some true else bif d then some true else bif e then some true else some f).bind k = k (a || b || c || d || e || f) := by
  cases a <;> cases b <;> cases c <;> cases d <;> cases e <;> rfl
theorem less_val (l : List Rec) (g : List Int) (a b c : Int) (d : Bool) : evFn (env consM) H.cooperagelaw13_CleanLess (LPof [(9, ls9LC), (18, ls18LC)]) F.cooperagelaw13_CleanLess [.vl recTy l, .vl (.int .i64) g, .int .i64 a, .int .i64 b, .int .i64 c, .bool d] [] (finK 0) = some (.bool true, []) := by
  rw [less_ev, bind_ors6]
  cases h0 : (bigL l || decide ((g.length : Int) < (l.length : Int)) || decide (b < (-1125899906842624 : Int)) || decide (b > (1125899906842624 : Int)) || decide (c < (0 : Int)) || decide (c > (1125899906842624 : Int))) with
  | true => rfl
  | false =>
    simp only [Bool.or_eq_false_iff, decide_eq_false_iff_not, bigL] at h0
    obtain ⟨⟨⟨⟨⟨⟨h1, h2⟩, h3⟩, h4⟩, h5⟩, h6⟩, h7⟩ := h0
    have hk := riseL_length 0 l g
    have g1 : decide (l.length ≤ 1048576) = true := decide_eq_true (by omega)
    have g2 : decide (l.length ≤ g.length) = true := decide_eq_true (by omega)
    have g3 : decide ((riseL 0 l g).length ≤ 1048576) = true := decide_eq_true (by omega)
    have g4 : decide ((-1125899906842624 : Int) ≤ b) = true := decide_eq_true (by omega)
    have g5 : decide (b ≤ (1125899906842624 : Int)) = true := decide_eq_true (by omega)
    simp only [g1, g2, g3, g4, g5, (riseL_rising 0 l g).2, decide_true, Bool.and_true, Bool.true_and, cond_true, cond_false, beq_self_eq_true]
    cases (lessF a b c d (riseL 0 l g) 0 0).isSome <;> rfl
def tyLess : List Ty := [.sl recTy, .sl (.int .i64), .int .i64, .int .i64, .int .i64, .bool]
theorem less_good (x : tysDen tyLess) (hw : tysWf tyLess x) : ∃ o, EffGood P0 I.cooperagelaw13_CleanLess (valsOf tyLess x) [] (.bool true) o :=
  ⟨[], evFn_sound (H := H.cooperagelaw13_CleanLess) (E := env consM) (env_ok consM_ok) rfl mixed0 G.cooperagelaw13_CleanLess (args := valsOf tyLess x) (by kernel_rfl) Bd.cooperagelaw13_CleanLess
    (loops_good (tab := [(9, ls9LC), (18, ls18LC)]) (by kernel_rfl) (fun x hx => by
      simp at hx
      rcases hx with rfl | rfl
      · exact ls9_lok
      · exact ls18_lok)) (less_val x.1 x.2.1 x.2.2.1 x.2.2.2.1 x.2.2.2.2.1 x.2.2.2.2.2.1)⟩

end Go.Sim
