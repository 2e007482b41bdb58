/-
  WkRew: the walk of RetainWhole.
-/
import Derived.Test.YtnncnhalcbpjpaaWkRet
import Derived.Test.YtnncnhalcbpjpaaPlRew
namespace Go.Sim
set_option linter.unusedSimpArgs false
set_option linter.unusedVariables false

theorem wh5_rd {R : Type} (l : List Seg) (c : Cnf) (f : Bool) (now i : Int) (K : Ex → St → Option R) : roundK (env consD) H.cooperagelaw14_RetainWhole 0 (LPof []) V.cooperagelaw14_RetainWhole_5 L.cooperagelaw14_RetainWhole_5 ⟨[(0, .vl segTy l), (2, .int .i64 now), (4, .ptr 0 (.tl 0) 0), (6, .bool f), (8, .int .i64 i)], [(0, .arr 4 .bool [] [enc confTy c])], 1⟩ K =
  bif decide (i < (↑l.length : Int)) then
    Option.bind
      (bif decide ((0 : Int) ≤ i) && decide (i < (↑l.length : Int)) then
        bif decide ((l.getD i.toNat segTy.zero).snd.snd.snd.snd.snd.snd.snd.snd.fst < (0 : Int)) then some true
        else
          bif decide ((0 : Int) ≤ i) && decide (i < (↑l.length : Int)) then
            bif decide ((l.getD i.toNat segTy.zero).snd.snd.snd.snd.snd.snd.snd.snd.fst > (1125899906842624 : Int)) then some true
            else
              bif decide ((0 : Int) ≤ i) && decide (i < (↑l.length : Int)) then
                bif decide ((l.getD i.toNat segTy.zero).snd.snd.fst < (-1125899906842624 : Int)) then some true
                else
                  bif decide ((0 : Int) ≤ i) && decide (i < (↑l.length : Int)) then
                    some (decide ((l.getD i.toNat segTy.zero).snd.snd.fst > (1125899906842624 : Int)))
                  else none
              else none
          else none
      else none)
      fun v =>
      bif v then
        K Ex.ret
          {
            slots :=
              [(0, AV.vl segTy l), (2, AV.int IntKind.i64 now), (4, AV.ptr 0 (Elt.tl 0) 0),
                (6, AV.bool true), (8, AV.int IntKind.i64 i)],
            objs :=
              [(0,
                  AObj.arr 4 Ty.bool []
                    [[AV.int IntKind.i64 c.fst, AV.int IntKind.i64 c.snd.fst, AV.int IntKind.i64 c.snd.snd.fst, AV.int IntKind.i64 c.snd.snd.snd]])],
            nx := 1 }
      else
        K Ex.normal
          {
            slots :=
              [(0, AV.vl segTy l), (2, AV.int IntKind.i64 now), (4, AV.ptr 0 (Elt.tl 0) 0),
                (6, AV.bool f), (8, AV.int IntKind.i64 (IntKind.i64.wrap (i + (1 : Int))))],
            objs :=
              [(0,
                  AObj.arr 4 Ty.bool []
                    [[AV.int IntKind.i64 c.fst, AV.int IntKind.i64 c.snd.fst, AV.int IntKind.i64 c.snd.snd.fst, AV.int IntKind.i64 c.snd.snd.snd]])],
            nx := 1 }
  else
    K (Ex.exit 0)
      {
        slots :=
          [(0, AV.vl segTy l), (2, AV.int IntKind.i64 now), (4, AV.ptr 0 (Elt.tl 0) 0),
            (6, AV.bool f), (8, AV.int IntKind.i64 i)],
        objs :=
          [(0,
              AObj.arr 4 Ty.bool []
                [[AV.int IntKind.i64 c.fst, AV.int IntKind.i64 c.snd.fst, AV.int IntKind.i64 c.snd.snd.fst, AV.int IntKind.i64 c.snd.snd.snd]])],
        nx := 1 } := by kernel_rfl

theorem wh13_rd {R : Type} (l : List Seg) (c : Cnf) (f : Bool) (now n i : Int) (K : Ex → St → Option R) : roundK (env consD) H.cooperagelaw14_RetainWhole 0 (LPof []) V.cooperagelaw14_RetainWhole_13 L.cooperagelaw14_RetainWhole_13 ⟨[(0, .vl segTy l), (2, .int .i64 now), (4, .ptr 0 (.tl 0) 0), (6, .bool f), (9, .int .i64 n), (10, .int .i64 i)], [(0, .arr 4 .bool [] [enc confTy c])], 1⟩ K =
  bif decide (i < n) then
    bif decide ((0 : Int) ≤ i) && decide (i < (↑l.length : Int)) then
      bif !(l.getD i.toNat segTy.zero).snd.snd.snd.snd.snd.fst then
        K Ex.ret
          {
            slots :=
              [(0, AV.vl segTy l), (2, AV.int IntKind.i64 now), (4, AV.ptr 0 (Elt.tl 0) 0),
                (6, AV.bool false), (9, AV.int IntKind.i64 n), (10, AV.int IntKind.i64 i)],
            objs :=
              [(0,
                  AObj.arr 4 Ty.bool []
                    [[AV.int IntKind.i64 c.fst, AV.int IntKind.i64 c.snd.fst, AV.int IntKind.i64 c.snd.snd.fst, AV.int IntKind.i64 c.snd.snd.snd]])],
            nx := 1 }
      else
        K Ex.normal
          {
            slots :=
              [(0, AV.vl segTy l), (2, AV.int IntKind.i64 now), (4, AV.ptr 0 (Elt.tl 0) 0),
                (6, AV.bool f), (9, AV.int IntKind.i64 n), (10, AV.int IntKind.i64 (IntKind.i64.wrap (i + (1 : Int))))],
            objs :=
              [(0,
                  AObj.arr 4 Ty.bool []
                    [[AV.int IntKind.i64 c.fst, AV.int IntKind.i64 c.snd.fst, AV.int IntKind.i64 c.snd.snd.fst, AV.int IntKind.i64 c.snd.snd.snd]])],
            nx := 1 }
    else none
  else
    K (Ex.exit 2)
      {
        slots :=
          [(0, AV.vl segTy l), (2, AV.int IntKind.i64 now), (4, AV.ptr 0 (Elt.tl 0) 0),
            (6, AV.bool f), (9, AV.int IntKind.i64 n), (10, AV.int IntKind.i64 i)],
        objs :=
          [(0,
              AObj.arr 4 Ty.bool []
                [[AV.int IntKind.i64 c.fst, AV.int IntKind.i64 c.snd.fst, AV.int IntKind.i64 c.snd.snd.fst, AV.int IntKind.i64 c.snd.snd.snd]])],
        nx := 1 } := by kernel_rfl

theorem wh23_rd {R : Type} (l : List Seg) (c : Cnf) (now n s i : Int) (K : Ex → St → Option R) : roundK (env consD) H.cooperagelaw14_RetainWhole 0 (LPof []) V.cooperagelaw14_RetainWhole_23 L.cooperagelaw14_RetainWhole_23 ⟨[(0, .vl segTy l), (2, .int .i64 now), (4, .ptr 0 (.tl 0) 0), (9, .int .i64 n), (11, .int .i64 s), (12, .int .i64 i)], [(0, .arr 4 .bool [] [enc confTy c])], 1⟩ K =
  bif decide (i < (↑l.length : Int)) then
    bif decide ((0 : Int) ≤ i) && decide (i < (↑l.length : Int)) then
      K Ex.normal
        {
          slots :=
            [(0, AV.vl segTy l), (2, AV.int IntKind.i64 now), (4, AV.ptr 0 (Elt.tl 0) 0),
              (9, AV.int IntKind.i64 n),
              (11, AV.int IntKind.i64 (IntKind.i64.wrap (s + (l.getD i.toNat segTy.zero).snd.snd.snd.snd.snd.snd.snd.snd.fst))),
              (12, AV.int IntKind.i64 (IntKind.i64.wrap (i + (1 : Int))))],
          objs :=
            [(0,
                AObj.arr 4 Ty.bool []
                  [[AV.int IntKind.i64 c.fst, AV.int IntKind.i64 c.snd.fst, AV.int IntKind.i64 c.snd.snd.fst, AV.int IntKind.i64 c.snd.snd.snd]])],
          nx := 1 }
    else none
  else
    K (Ex.exit 4)
      {
        slots :=
          [(0, AV.vl segTy l), (2, AV.int IntKind.i64 now), (4, AV.ptr 0 (Elt.tl 0) 0),
            (9, AV.int IntKind.i64 n), (11, AV.int IntKind.i64 s), (12, AV.int IntKind.i64 i)],
        objs :=
          [(0,
              AObj.arr 4 Ty.bool []
                [[AV.int IntKind.i64 c.fst, AV.int IntKind.i64 c.snd.fst, AV.int IntKind.i64 c.snd.snd.fst, AV.int IntKind.i64 c.snd.snd.snd]])],
        nx := 1 } := by kernel_rfl


def whPat5 : SPat := ⟨[(0, .vl segTy), (2, .int .i64), (4, .lit (.ptr 0 (.tl 0) 0)), (6, .bool), (8, .int .i64)], [.box 4 [[.int .i64, .int .i64, .int .i64, .int .i64]]]⟩
def whSt5 (l : List Seg) (c : Cnf) (f : Bool) (now i : Int) : St := ⟨[(0, .vl segTy l), (2, .int .i64 now), (4, .ptr 0 (.tl 0) 0), (6, .bool f), (8, .int .i64 i)], [(0, .arr 4 .bool [] [enc confTy c])], 1⟩
theorem bind_ors {R : Type} (a b c d : Bool) (k : Bool → Option R) : (bif a then some true else bif b then some true else bif c then some true else some d).bind k = k (a || b || c || d) := by
  cases a <;> cases b <;> cases c <;> rfl
theorem bind_ors5 {R : Type} (a b c d e : Bool) (k : Bool → Option R) : (bif a then some true else bif b then some true else bif c then some true else bif d then some true else some e).bind k = k (a || b || c || d || e) := by
  cases a <;> cases b <;> cases c <;> cases d <;> rfl
theorem wh5_loop (l : List Seg) (c : Cnf) (now : Int) (f : Bool) (hl : l.length ≤ 50) {R : Type} (K : Ex → St → Option R) : ∀ (m n : Nat), n + m = l.length →
    rounds (env consD) H.cooperagelaw14_RetainWhole 0 (LPof []) V.cooperagelaw14_RetainWhole_5 L.cooperagelaw14_RetainWhole_5 (m + 1) (whSt5 l c f now n) K =
      cond ((l.drop n).any badS) (K .ret (whSt5 l c true now ((n + firstI badS (l.drop n) : Nat) : Int))) (K (.exit 0) (whSt5 l c f now (l.length : Int)))
  | 0, n, h => by
    have : n = l.length := by omega
    subst this
    rw [rounds_succ']
    unfold whSt5
    rw [wh5_rd, cond_neg (by omega)]
    simp only [List.drop_length, List.any_nil, cond_false]
    rfl
  | m + 1, n, h => by
    have hlen : n < l.length := by omega
    rw [getD_drop l n segTy.zero hlen, rounds_succ']
    unfold whSt5
    rw [wh5_rd, cond_pos (by omega), cond_pos2 (by omega) (by omega), cond_pos2 (by omega) (by omega), cond_pos2 (by omega) (by omega), cond_pos2 (by omega) (by omega), bind_ors]
    simp only [Int.toNat_natCast, List.any_cons, firstI]
    rw [show (decide ((l.getD n segTy.zero).2.2.2.2.2.2.2.2.1 < (0 : Int)) || decide ((l.getD n segTy.zero).2.2.2.2.2.2.2.2.1 > (1125899906842624 : Int)) || decide ((l.getD n segTy.zero).2.2.1 < (-1125899906842624 : Int)) || decide ((l.getD n segTy.zero).2.2.1 > (1125899906842624 : Int))) = badS (l.getD n segTy.zero) from rfl]
    cases hb : badS (l.getD n segTy.zero)
    · have ih := wh5_loop l c now f hl K m (n + 1) (by omega)
      unfold whSt5 at ih
      rw [show ((n + 1 : Nat) : Int) = (n : Int) + 1 by omega] at ih
      simp only [cond_false, Bool.false_or]
      rw [show n + 1 + firstI badS (l.drop (n + 1)) = n + (firstI badS (l.drop (n + 1)) + 1) by omega] at ih
      rw [wrap64 (by omega) (by omega)]
      exact ih
    · simp only [cond_true, Bool.true_or, Nat.add_zero]
      rfl
def whLC5 : LoopC := LoopC.of whPat5 (fun x => decide (List.length x.1.1 ≤ 50) && decide (x.1.2.2.2.2.1 = (0 : Int)))
  fun x => (fun c => [(List.any x.1.1 badS, .ret, whSt5 x.1.1 c true x.1.2.1 ((firstI badS x.1.1 : Nat) : Int)), (true, .exit 0, whSt5 x.1.1 c x.1.2.2.2.1 x.1.2.1 ((List.length x.1.1 : Nat) : Int))]) (x.2.1.1.1, x.2.1.1.2.1, x.2.1.1.2.2.1, x.2.1.1.2.2.2.1)
theorem wh5_lok : LoopOK P0 H.cooperagelaw14_RetainWhole 0 L.cooperagelaw14_RetainWhole_5 whLC5 := loop_ok_of (env_ok consD_ok) rfl mixed0 noLoops V.cooperagelaw14_RetainWhole_5 (by decide) fun ⟨⟨l, now, _, f, i, _⟩, ⟨⟨a, b, c, d, _⟩, _⟩, _⟩ h hw => by
  simp only [Bool.and_eq_true, decide_eq_true_eq] at h
  obtain ⟨h1, h2⟩ := h
  subst h2
  have := wh5_loop l (a, b, c, d) now f h1 (fun e s => some (e, s)) (List.length l) 0 (by omega)
  rw [List.drop_zero, Nat.zero_add] at this
  exact ⟨_, this⟩

def whPat13 : SPat := ⟨[(0, .vl segTy), (2, .int .i64), (4, .lit (.ptr 0 (.tl 0) 0)), (6, .bool), (9, .int .i64), (10, .int .i64)], [.box 4 [[.int .i64, .int .i64, .int .i64, .int .i64]]]⟩
def whSt13 (l : List Seg) (c : Cnf) (f : Bool) (now n i : Int) : St := ⟨[(0, .vl segTy l), (2, .int .i64 now), (4, .ptr 0 (.tl 0) 0), (6, .bool f), (9, .int .i64 n), (10, .int .i64 i)], [(0, .arr 4 .bool [] [enc confTy c])], 1⟩
theorem wh13_loop (l : List Seg) (c : Cnf) (now : Int) (f : Bool) (N : Nat) (hl : l.length ≤ 50) (hN : N ≤ l.length) (hs : (l.take N).all sealS = true) {R : Type} (K : Ex → St → Option R) : ∀ (m n : Nat), n + m = N →
    rounds (env consD) H.cooperagelaw14_RetainWhole 0 (LPof []) V.cooperagelaw14_RetainWhole_13 L.cooperagelaw14_RetainWhole_13 (m + 1) (whSt13 l c f now N n) K = K (.exit 2) (whSt13 l c f now N N)
  | 0, n, h => by
    have : n = N := by omega
    subst this
    rw [rounds_succ']
    unfold whSt13
    rw [wh13_rd, cond_neg (by omega)]
    rfl
  | m + 1, n, h => by
    have hlen : n < l.length := by omega
    have hg : (l.getD n segTy.zero).2.2.2.2.2.1 = true := by
      have h2 := List.all_eq_true.1 hs ((l.take N).getD n segTy.zero) (getD_mem _ _ (by simp; omega))
      rw [List.getD_eq_getElem?_getD, List.getElem?_take_of_lt (by omega), ← List.getD_eq_getElem?_getD] at h2
      exact h2
    rw [rounds_succ']
    unfold whSt13
    rw [wh13_rd, cond_pos (by omega), cond_pos2 (by omega) (by omega)]
    simp only [Int.toNat_natCast, hg, Bool.not_true, cond_false]
    have ih := wh13_loop l c now f N hl hN hs K m (n + 1) (by omega)
    unfold whSt13 at ih
    rw [show ((n + 1 : Nat) : Int) = (n : Int) + 1 by omega] at ih
    rw [wrap64 (by omega) (by omega)]
    exact ih
def whLC13 : LoopC := LoopC.of whPat13 (fun x => decide (List.length x.1.1 ≤ 50) && decide (x.1.2.2.2.2.2.1 = (0 : Int)) && decide ((0 : Int) ≤ x.1.2.2.2.2.1) && decide (x.1.2.2.2.2.1 ≤ ((List.length x.1.1 : Nat) : Int)) && (List.take (Int.toNat x.1.2.2.2.2.1) x.1.1).all sealS)
  fun x => (fun c => [(true, .exit 2, whSt13 x.1.1 c x.1.2.2.2.1 x.1.2.1 x.1.2.2.2.2.1 x.1.2.2.2.2.1)]) (x.2.1.1.1, x.2.1.1.2.1, x.2.1.1.2.2.1, x.2.1.1.2.2.2.1)
theorem wh13_lok : LoopOK P0 H.cooperagelaw14_RetainWhole 0 L.cooperagelaw14_RetainWhole_13 whLC13 := loop_ok_of (env_ok consD_ok) rfl mixed0 noLoops V.cooperagelaw14_RetainWhole_13 (by decide) fun ⟨⟨l, now, _, f, n, i, _⟩, ⟨⟨a, b, c, d, _⟩, _⟩, _⟩ h hw => by
  simp only [Bool.and_eq_true, decide_eq_true_eq] at h
  obtain ⟨⟨⟨⟨h1, h2⟩, h3⟩, h4⟩, h5⟩ := h
  subst h2
  obtain ⟨N, rfl⟩ := Int.eq_ofNat_of_zero_le h3
  have := wh13_loop l (a, b, c, d) now f N h1 (Int.ofNat_le.1 h4) h5 (fun e s => some (e, s)) N 0 (by omega)
  exact ⟨_, this⟩

def whPat23 : SPat := ⟨[(0, .vl segTy), (2, .int .i64), (4, .lit (.ptr 0 (.tl 0) 0)), (9, .int .i64), (11, .int .i64), (12, .int .i64)], [.box 4 [[.int .i64, .int .i64, .int .i64, .int .i64]]]⟩
def whSt23 (l : List Seg) (c : Cnf) (now n s i : Int) : St := ⟨[(0, .vl segTy l), (2, .int .i64 now), (4, .ptr 0 (.tl 0) 0), (9, .int .i64 n), (11, .int .i64 s), (12, .int .i64 i)], [(0, .arr 4 .bool [] [enc confTy c])], 1⟩
theorem wh23_pre (l : List Seg) (N : Nat) (h1 : l.length ≤ 50) (h6 : l.any badS = false) : 0 + posum (l.drop N) ≤ 56294995342131200 := by
  have := sumS_posum _ (any_drop badS l N h6)
  have hl : (l.drop N).length ≤ 50 := by simp; omega
  omega
theorem wh23_loop (l : List Seg) (c : Cnf) (now : Int) (N : Int) (hl : l.length ≤ 50) (hb : l.any badS = false) {R : Type} (K : Ex → St → Option R) : ∀ (m n : Nat) (s : Int), n + m = l.length → 0 ≤ s → s + posum (l.drop n) ≤ 56294995342131200 →
    rounds (env consD) H.cooperagelaw14_RetainWhole 0 (LPof []) V.cooperagelaw14_RetainWhole_23 L.cooperagelaw14_RetainWhole_23 (m + 1) (whSt23 l c now N s n) K = K (.exit 4) (whSt23 l c now N (s + sumS (l.drop n)) (l.length : Int))
  | 0, n, s, h, h0, h1 => by
    have : n = l.length := by omega
    subst this
    rw [rounds_succ']
    unfold whSt23
    rw [wh23_rd, cond_neg (by omega)]
    simp only [List.drop_length, sumS, Int.add_zero]
    rfl
  | m + 1, n, s, h, h0, h1 => by
    have hlen : n < l.length := by omega
    have hg := List.any_eq_false.1 hb _ (getD_mem l n hlen)
    simp only [badS, Bool.or_eq_true, decide_eq_true_eq, not_or] at hg
    have hp := posum_nonneg (l.drop (n + 1))
    rw [getD_drop l n segTy.zero hlen] at h1 ⊢
    simp only [posum] at h1
    rw [rounds_succ']
    unfold whSt23
    rw [wh23_rd, cond_pos (by omega), cond_pos2 (by omega) (by omega)]
    simp only [Int.toNat_natCast, sumS]
    have ih := wh23_loop l c now N hl hb K m (n + 1) (s + (l.getD n segTy.zero).2.2.2.2.2.2.2.2.1) (by omega) (by omega) (by omega)
    unfold whSt23 at ih
    rw [show ((n + 1 : Nat) : Int) = (n : Int) + 1 by omega] at ih
    rw [wrap64 (by omega) (by omega), wrap64 (by omega) (by omega)]
    rw [Int.add_assoc] at ih
    exact ih
def whLC23 : LoopC := LoopC.of whPat23 (fun x => decide (List.length x.1.1 ≤ 50) && decide (x.1.2.2.2.2.2.1 = x.1.2.2.2.1) && decide ((0 : Int) ≤ x.1.2.2.2.1) && decide (x.1.2.2.2.1 ≤ ((List.length x.1.1 : Nat) : Int)) && decide (x.1.2.2.2.2.1 = (0 : Int)) && !(List.any x.1.1 badS))
  fun x => (fun c => [(true, .exit 4, whSt23 x.1.1 c x.1.2.1 x.1.2.2.2.1 (sumS (List.drop (Int.toNat x.1.2.2.2.1) x.1.1)) ((List.length x.1.1 : Nat) : Int))]) (x.2.1.1.1, x.2.1.1.2.1, x.2.1.1.2.2.1, x.2.1.1.2.2.2.1)
theorem wh23_lok : LoopOK P0 H.cooperagelaw14_RetainWhole 0 L.cooperagelaw14_RetainWhole_23 whLC23 := loop_ok_of (env_ok consD_ok) rfl mixed0 noLoops V.cooperagelaw14_RetainWhole_23 (by decide) fun ⟨⟨l, now, _, n, s, i, _⟩, ⟨⟨a, b, c, d, _⟩, _⟩, _⟩ h hw => by
  simp only [Bool.and_eq_true, decide_eq_true_eq, Bool.not_eq_true'] at h
  obtain ⟨⟨⟨⟨⟨h1, h2⟩, h3⟩, h4⟩, h5⟩, h6⟩ := h
  subst h2; subst h5
  obtain ⟨N, hN⟩ := Int.eq_ofNat_of_zero_le h3
  subst hN
  have := wh23_loop l (a, b, c, d) now N h1 h6 (fun e s => some (e, s)) (List.length l - N) N 0 (Nat.add_sub_cancel' (Int.ofNat_le.1 h4)) (Int.le_refl _) (wh23_pre l N h1 h6)
  rw [Int.zero_add] at this
  exact ⟨_, this⟩

theorem whole_ev (l : List Seg) (c : Cnf) (now : Int) : evFn (env consD) H.cooperagelaw14_RetainWhole (LPof [(5, whLC5), (13, whLC13), (23, whLC23)]) F.cooperagelaw14_RetainWhole [.vl segTy l, valOf confTy c, .int .i64 now] [] (finK 0) =
  Option.bind
    (bif decide ((↑l.length : Int) > (50 : Int)) then some true
    else
      bif decide (now < (-1125899906842624 : Int)) then some true
      else
        bif decide (now > (1125899906842624 : Int)) then some true
        else bif decide (c.snd.snd.fst > (1125899906842624 : Int)) then some true else some (decide (c.snd.fst > (1125899906842624 : Int))))
    fun v =>
    bif v then some (AV.bool true, [])
    else
      bif decide (l.length ≤ 50) && true && l.any badS then some (AV.bool true, [])
      else
        bif decide (l.length ≤ 50) && true && true then
          bif decide (l.length * 8 ≤ 140737488355328) then
            bif decide ((↑(dropN c now l) : Int) > (↑l.length : Int)) then some (AV.bool false, [])
            else
              bif
                  decide (l.length ≤ 50) && true && decide ((0 : Int) ≤ (↑(dropN c now l) : Int)) &&
                        decide ((↑(dropN c now l) : Int) ≤ (↑l.length : Int)) &&
                      (List.take (dropN c now l) l).all sealS &&
                    true then
                Option.bind (bif decide (c.snd.snd.fst ≤ (0 : Int)) then some (decide (c.snd.fst ≤ (0 : Int))) else some false) fun v =>
                  bif v then some (AV.bool ((↑(dropN c now l) : Int) == (0 : Int)), [])
                  else
                    Option.bind
                      (bif (↑(dropN c now l) : Int) == (↑l.length : Int) then some true
                      else
                        bif decide ((0 : Int) ≤ (↑(dropN c now l) : Int)) && decide ((↑(dropN c now l) : Int) < (↑l.length : Int)) then
                          some !(l.getD (dropN c now l) segTy.zero).snd.snd.snd.snd.snd.fst
                        else none)
                      fun v =>
                      bif v then some (AV.bool true, [])
                      else
                        bif
                            decide (l.length ≤ 50) && decide ((↑(dropN c now l) : Int) = (↑(dropN c now l) : Int)) &&
                                      decide ((0 : Int) ≤ (↑(dropN c now l) : Int)) &&
                                    decide ((↑(dropN c now l) : Int) ≤ (↑l.length : Int)) &&
                                  true &&
                                !l.any badS &&
                              true then
                          Option.bind
                            (bif decide (c.snd.snd.fst ≤ (0 : Int)) then
                              bif decide (c.snd.fst ≤ (0 : Int)) then some true else some (decide (sumS (List.drop (dropN c now l) l) ≤ c.snd.fst))
                            else
                              bif decide ((0 : Int) ≤ (↑(dropN c now l) : Int)) && decide ((↑(dropN c now l) : Int) < (↑l.length : Int)) then
                                bif decide (IntKind.i64.wrap (now - (l.getD (dropN c now l) segTy.zero).snd.snd.fst) ≤ c.snd.snd.fst) then
                                  bif decide (c.snd.fst ≤ (0 : Int)) then some true else some (decide (sumS (List.drop (dropN c now l) l) ≤ c.snd.fst))
                                else some false
                              else none)
                            fun v => some (AV.bool v, [])
                        else none
              else none
          else none
        else none := by kernel_rfl

theorem whole_end (l : List Seg) (c : Cnf) (now : Int) (N : Nat) (hle : N ≤ l.length) (hB1 : (c.2.2.1 ≤ 0 ∧ c.2.1 ≤ 0) → N = 0)
    (hB2 : N < l.length → (l.getD N segTy.zero).2.2.2.2.2.1 = true → isOld (l.getD N segTy.zero) c now = false ∧ isMuch (l.drop N) c = false)
    (hB3 : N < l.length → IntKind.i64.wrap (now - (l.getD N segTy.zero).2.2.1) = now - (l.getD N segTy.zero).2.2.1) :
    (Option.bind (bif decide (c.2.2.1 ≤ (0 : Int)) then some (decide (c.2.1 ≤ (0 : Int))) else some false) fun v =>
                  bif v then some (AV.bool ((N : Int) == (0 : Int)), ([] : List AObj))
                  else
                    Option.bind
                      (bif (N : Int) == (l.length : Int) then some true
                      else
                        bif decide ((N : Int) < (l.length : Int)) then
                          some !(l.getD N segTy.zero).snd.snd.snd.snd.snd.fst
                        else none)
                      fun v =>
                      bif v then some (AV.bool true, [])
                      else
                          Option.bind
                            (bif decide (c.snd.snd.fst ≤ (0 : Int)) then
                              bif decide (c.snd.fst ≤ (0 : Int)) then some true else some (decide (posum (List.drop N l) ≤ c.snd.fst))
                            else
                              bif decide ((N : Int) < (l.length : Int)) then
                                bif decide (IntKind.i64.wrap (now - (l.getD N segTy.zero).snd.snd.fst) ≤ c.snd.snd.fst) then
                                  bif decide (c.snd.fst ≤ (0 : Int)) then some true else some (decide (posum (List.drop N l) ≤ c.snd.fst))
                                else some false
                              else none)
                            fun v => some (AV.bool v, [])) = some (.bool true, []) := by
  by_cases hAK : c.2.2.1 ≤ 0 ∧ c.2.1 ≤ 0
  · have := hB1 hAK
    subst this
    simp [hAK.1, hAK.2]
  · have e1 : (bif decide (c.2.2.1 ≤ (0 : Int)) then some (decide (c.2.1 ≤ (0 : Int))) else some false) = some false := by
      by_cases hA : c.2.2.1 ≤ 0
      · have : ¬ c.2.1 ≤ 0 := fun h => hAK ⟨hA, h⟩
        simp [hA, this]
      · simp [hA]
    rw [e1]
    simp only [Option.bind_some, cond_false]
    by_cases hN : N = l.length
    · simp [hN]
    · have hlt : N < l.length := by omega
      have e2 : ((N : Int) == (l.length : Int)) = false := by simp; omega
      have e3 : decide ((N : Int) < (l.length : Int)) = true := decide_eq_true (by omega)
      simp only [e2, e3, cond_false, cond_true, hB3 hlt, Option.bind_some]
      cases hse : (l.getD N segTy.zero).2.2.2.2.2.1 with
      | false => simp
      | true =>
        obtain ⟨o1, o2⟩ := hB2 hlt hse
        simp only [isOld, isMuch, Bool.and_eq_false_iff, decide_eq_false_iff_not] at o1 o2
        simp only [Bool.not_true, cond_false]
        by_cases hK : c.2.1 ≤ 0
        · by_cases hA : c.2.2.1 ≤ 0
          · exact absurd ⟨hA, hK⟩ hAK
          · have : now - (l.getD N segTy.zero).2.2.1 ≤ c.2.2.1 := by omega
            simp only [hA, hK, this, decide_true, decide_false, cond_true, cond_false, Option.bind_some]
        · have h2 : posum (l.drop N) ≤ c.2.1 := by omega
          by_cases hA : c.2.2.1 ≤ 0
          · simp [hA, hK, h2]
          · have : now - (l.getD N segTy.zero).2.2.1 ≤ c.2.2.1 := by omega
            simp only [hA, hK, this, h2, decide_true, decide_false, cond_true, cond_false, Option.bind_some]
theorem whole_val (l : List Seg) (c : Cnf) (now : Int) (hn : In .i64 now) : evFn (env consD) H.cooperagelaw14_RetainWhole (LPof [(5, whLC5), (13, whLC13), (23, whLC23)]) F.cooperagelaw14_RetainWhole [.vl segTy l, valOf confTy c, .int .i64 now] [] (finK 0) = some (.bool true, []) := by
  rw [whole_ev, bind_ors5]
  cases h0 : (decide ((l.length : Int) > (50 : Int)) || decide (now < (-1125899906842624 : Int)) || decide (now > (1125899906842624 : Int)) || decide (c.2.2.1 > (1125899906842624 : Int)) || decide (c.2.1 > (1125899906842624 : Int))) with
  | true => rfl
  | false =>
    simp only [Bool.or_eq_false_iff, decide_eq_false_iff_not] at h0
    obtain ⟨⟨⟨⟨h1, h2⟩, h3⟩, h4⟩, h5⟩ := h0
    have hl : decide (l.length ≤ 50) = true := decide_eq_true (by omega)
    have hl8 : decide (l.length * 8 ≤ 140737488355328) = true := decide_eq_true (by omega)
    simp only [hl, hl8, Bool.and_true, Bool.true_and, cond_true, cond_false]
    cases hb : l.any badS with
    | true => rfl
    | false =>
      have hle := dropN_le c now l
      obtain ⟨hs1, hs2, hs3⟩ := sumS_posum _ (any_drop badS l (dropN c now l) hb)
      have g1 : decide (((dropN c now l : Nat) : Int) > (l.length : Int)) = false := decide_eq_false (by omega)
      have g2 : decide ((0 : Int) ≤ ((dropN c now l : Nat) : Int)) = true := decide_eq_true (by omega)
      have g3 : decide (((dropN c now l : Nat) : Int) ≤ (l.length : Int)) = true := decide_eq_true (by omega)
      simp only [g1, g2, g3, dropN_seal, cond_false, cond_true, Bool.and_true, Bool.true_and, Bool.not_false, decide_true, hs1]
      generalize hN : dropN c now l = N at *
      have hB1 : (c.2.2.1 ≤ 0 ∧ c.2.1 ≤ 0) → N = 0 := fun ⟨a, b⟩ => by rw [← hN]; exact dropN_none c now a b l
      have hB2 : N < l.length → (l.getD N segTy.zero).2.2.2.2.2.1 = true → isOld (l.getD N segTy.zero) c now = false ∧ isMuch (l.drop N) c = false := fun hlt hse => by
        have := dropN_stop c now l (by rw [hN]; exact hlt)
        rw [hN] at this
        unfold goes at this
        rw [hse, Bool.true_and, Bool.or_eq_false_iff, ← getD_drop l N segTy.zero hlt] at this
        exact this
      have hB3 : N < l.length → IntKind.i64.wrap (now - (l.getD N segTy.zero).2.2.1) = now - (l.getD N segTy.zero).2.2.1 := fun hlt => by
        have hg := List.any_eq_false.1 hb _ (getD_mem l N hlt)
        simp only [badS, Bool.or_eq_true, decide_eq_true_eq, not_or] at hg
        exact wrap64 (by omega) (by omega)
      exact whole_end l c now N hle hB1 hB2 hB3

theorem whole_good (x : tysDen tyDrops) (hw : tysWf tyDrops x) : ∃ o, EffGood P0 I.cooperagelaw14_RetainWhole (valsOf tyDrops x) [] (.bool true) o :=
  ⟨[], evFn_sound (H := H.cooperagelaw14_RetainWhole) (E := env consD) (env_ok consD_ok) rfl mixed0 G.cooperagelaw14_RetainWhole (args := valsOf tyDrops x) (by kernel_rfl) Bd.cooperagelaw14_RetainWhole
    (loops_good (tab := [(5, whLC5), (13, whLC13), (23, whLC23)]) (by kernel_rfl) (fun x hx => by
      simp at hx
      rcases hx with rfl | rfl | rfl
      · exact wh5_lok
      · exact wh13_lok
      · exact wh23_lok)) (whole_val x.1 x.2.1 x.2.2.1 hw.2.2.1)⟩

end Go.Sim
