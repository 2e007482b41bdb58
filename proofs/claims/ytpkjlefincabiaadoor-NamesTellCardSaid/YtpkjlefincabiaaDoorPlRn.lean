/-
  PlRn: the document's own rune reader, in plain Lean.
-/
import Derived.Test.YtpkjlefincabiaaDoorPlSgn
namespace Go.Sim
set_option maxRecDepth 10000
set_option linter.unusedSimpArgs false
set_option linter.unusedVariables false
def badB (x : Nat) : Bool := decide (x < 128) || decide (x > 191)
/-- Bytes behind the first one: all right?; the number; where. -/
def ctF (s : List UInt8) : Nat → Nat → Nat → Bool × Nat × Nat
  | 0, i, c => (true, c, i)
  | k + 1, i, c => bif badB (bt s i) then (false, c, i) else ctF s k (i + 1) (c * 64 + bt s i % 64)
theorem and_mask (x m : Nat) (M : Int) (hM : M = (m : Int)) (hx : x < 256) (hm : m = 7 ∨ m = 15 ∨ m = 31 ∨ m = 63) : ((BitVec.ofInt 64 (x : Int) &&& BitVec.ofInt 64 M).toNat : Int) = ((x % (m + 1) : Nat) : Int) := by
  subst hM
  have e1 : BitVec.ofInt 64 (x : Int) = BitVec.ofNat 64 x := by apply BitVec.eq_of_toNat_eq; simp
  have e2 : BitVec.ofInt 64 (m : Int) = BitVec.ofNat 64 m := by apply BitVec.eq_of_toNat_eq; simp
  rw [e1, e2, BitVec.toNat_and, BitVec.toNat_ofNat, BitVec.toNat_ofNat, Nat.mod_eq_of_lt (by omega), Nat.mod_eq_of_lt (by omega)]
  congr 1
  rcases hm with rfl | rfl | rfl | rfl
  · exact Nat.and_two_pow_sub_one_eq_mod x 3
  · exact Nat.and_two_pow_sub_one_eq_mod x 4
  · exact Nat.and_two_pow_sub_one_eq_mod x 5
  · exact Nat.and_two_pow_sub_one_eq_mod x 6
/-- The document's reader: rune, length, right? -/
def r1 (s : List UInt8) : Nat × Nat × Bool := match good1 s with
  | some w => ((dec1 s).1, w, true)
  | none => (0, 1, false)
/-- What right first bytes decode to. -/
theorem good_dec {s : List UInt8} {w : Nat} (h : good1 s = some w) : (dec1 s).2 = w := by
  unfold good1 tailB at h
  unfold dec1 contL
  have h0 := bt_lt s 0
  have h1 := bt_lt s 1
  have h2 := bt_lt s 2
  have h3 := bt_lt s 3
  split at h
  · rename_i a; cases h; rw [if_pos a]
  · split at h
    · cases h
    · split at h
      · split at h
        · rename_i a b c d
          cases h
          simp only [Bool.and_eq_true, decide_eq_true_eq] at d
          rw [if_neg (by omega), if_pos (by simp; omega), if_pos (by omega)]
        · cases h
      · split at h
        · split at h
          · rename_i a b c d e
            cases h
            simp only [Bool.and_eq_true, Bool.or_eq_true, decide_eq_true_eq] at e
            rw [if_neg (by omega), if_neg (by simp; omega), if_pos (by simp; omega), if_pos]
            simp only [Bool.and_eq_true, decide_eq_true_eq, Utf8.valid, Bool.or_eq_true]
            omega
          · cases h
        · split at h
          · split at h
            · rename_i a b c d e f
              cases h
              simp only [Bool.and_eq_true, Bool.or_eq_true, decide_eq_true_eq] at f
              rw [if_neg (by omega), if_neg (by simp; omega), if_neg (by simp; omega), if_pos (by simp; omega), if_pos]
              simp only [Bool.and_eq_true, decide_eq_true_eq, Utf8.valid, Bool.or_eq_true]
              omega
            · cases h
          · cases h
/-- .. and wrong ones. -/
theorem bad_dec {s : List UInt8} (h : good1 s = none) : dec1 s = (0xFFFD, 1) := by
  unfold good1 tailB at h
  unfold dec1 contL
  have h0 := bt_lt s 0
  have h1 := bt_lt s 1
  have h2 := bt_lt s 2
  have h3 := bt_lt s 3
  repeat' split at h
  all_goals first | (cases h; done) | skip
  all_goals
    repeat' split
  all_goals first
    | rfl
    | (exfalso
       simp only [Bool.and_eq_true, Bool.or_eq_true, decide_eq_true_eq, beq_iff_eq, Utf8.valid, Bool.and_eq_false_iff, Bool.or_eq_false_iff, decide_eq_false_iff_not, not_and, not_or] at *
       omega)
theorem ct1 (s : List UInt8) (c : Nat) : ctF s 1 1 c = bif badB (bt s 1) then (false, c, 1) else (true, c * 64 + bt s 1 % 64, 2) := rfl
theorem ct2 (s : List UInt8) (c : Nat) : ctF s 2 1 c = bif badB (bt s 1) then (false, c, 1) else bif badB (bt s 2) then (false, c * 64 + bt s 1 % 64, 2) else (true, (c * 64 + bt s 1 % 64) * 64 + bt s 2 % 64, 3) := rfl
theorem ct3 (s : List UInt8) (c : Nat) : ctF s 3 1 c = bif badB (bt s 1) then (false, c, 1) else bif badB (bt s 2) then (false, c * 64 + bt s 1 % 64, 2) else
    bif badB (bt s 3) then (false, (c * 64 + bt s 1 % 64) * 64 + bt s 2 % 64, 3) else (true, ((c * 64 + bt s 1 % 64) * 64 + bt s 2 % 64) * 64 + bt s 3 % 64, 4) := rfl
/-- May this number be a rune's, by the document? -/
def farB (c least : Nat) : Bool := decide (c < least) || decide (c > 1114111) || decide (c ≥ 55296) && decide (c ≤ 57343)
/-- What the document's reader tells of n bytes. -/
def tellR (s : List UInt8) (n k : Nat) (least : Nat) (c0 : Nat) : Nat × Nat × Bool :=
  bif decide (s.length < n) then (0, 1, false) else bif (ctF s k 1 c0).1 then (bif farB (ctF s k 1 c0).2.1 least then (0, 1, false) else ((ctF s k 1 c0).2.1, n, true)) else (0, 1, false)
def r1R (s : List UInt8) : Nat × Nat × Bool :=
  bif decide (bt s 0 < 128) then (bt s 0, 1, true) else bif decide (bt s 0 ≥ 194) && decide (bt s 0 < 224) then tellR s 2 1 128 (bt s 0 % 32) else bif decide (bt s 0 ≥ 224) && decide (bt s 0 < 240) then tellR s 3 2 2048 (bt s 0 % 16)
  else bif decide (bt s 0 ≥ 240) && decide (bt s 0 < 245) then tellR s 4 3 65536 (bt s 0 % 8) else (0, 1, false)
theorem badB_tail (x : Nat) : badB x = !tailB x := by
  unfold badB tailB
  by_cases h1 : x < 128 <;> by_cases h2 : x > 191 <;> simp [h1, h2] <;> omega
theorem r1_eq (s : List UInt8) : r1R s = r1 s := by
  unfold r1R r1
  have h0 := bt_lt s 0
  have h1 := bt_lt s 1
  have h2 := bt_lt s 2
  have h3 := bt_lt s 3
  by_cases a : bt s 0 < 128
  · simp only [a, decide_true, cond_true, good1, if_true, dec1]
  · by_cases b : bt s 0 < 194
    · have b2 : ¬ bt s 0 ≥ 194 := by omega
      have b3 : ¬ bt s 0 ≥ 224 := by omega
      have b4 : ¬ bt s 0 ≥ 240 := by omega
      simp only [a, b, b2, b3, b4, decide_false, Bool.false_and, cond_false, good1, if_false, if_true]
    · by_cases c : bt s 0 < 224
      · have c2 : bt s 0 ≥ 194 := by omega
        simp only [a, b, c, c2, decide_false, decide_true, Bool.true_and, cond_false, cond_true, tellR, ct1, badB_tail]
        have hg : good1 s = if decide (2 ≤ s.length) && tailB (bt s 1) then some 2 else none := by unfold good1; rw [if_neg a, if_neg b, if_pos c]
        rw [hg]
        by_cases l : s.length < 2
        · have l2 : ¬ 2 ≤ s.length := by omega
          simp [l, l2]
        · have l2 : 2 ≤ s.length := by omega
          cases t : tailB (bt s 1) with
          | false => simp [l, l2, t]
          | true =>
            have t' := t
            unfold tailB at t
            simp only [Bool.and_eq_true, decide_eq_true_eq] at t
            have f : farB (bt s 0 % 32 * 64 + bt s 1 % 64) 128 = false := by unfold farB; simp; omega
            have d : dec1 s = (bt s 0 % 32 * 64 + bt s 1 % 64, 2) := by unfold dec1 contL; rw [if_neg a, if_pos (by simp; omega), if_pos (by omega)]
            simp [l, l2, t', f, d]
      · by_cases d : bt s 0 < 240
        · have c2 : bt s 0 ≥ 194 := by omega
          have c3 : bt s 0 ≥ 224 := by omega
          simp only [a, b, c, d, c2, c3, decide_false, decide_true, Bool.true_and, Bool.and_false, cond_false, cond_true, tellR, ct2, badB_tail]
          have hg : good1 s = if decide (3 ≤ s.length) && tailB (bt s 1) && (decide (bt s 0 ≠ 224) || decide (160 ≤ bt s 1)) && (decide (bt s 0 ≠ 237) || decide (bt s 1 ≤ 159)) && tailB (bt s 2) then some 3 else none := by
            unfold good1; rw [if_neg a, if_neg b, if_neg c, if_pos d]
          by_cases l : s.length < 3
          · have l2 : ¬ 3 ≤ s.length := by omega
            simp [hg, l, l2]
          · have l2 : 3 ≤ s.length := by omega
            cases t : tailB (bt s 1) with
            | false => simp [hg, l, l2, t]
            | true =>
              cases u : tailB (bt s 2) with
              | false => simp [hg, l, l2, t, u]
              | true =>
                have t' := t
                have u' := u
                unfold tailB at t u
                simp only [Bool.and_eq_true, decide_eq_true_eq] at t u
                have f : farB ((bt s 0 % 16 * 64 + bt s 1 % 64) * 64 + bt s 2 % 64) 2048 = !((decide (bt s 0 ≠ 224) || decide (160 ≤ bt s 1)) && (decide (bt s 0 ≠ 237) || decide (bt s 1 ≤ 159))) := by
                  unfold farB
                  apply Bool.eq_iff_iff.2
                  simp only [Bool.or_eq_true, Bool.and_eq_true, decide_eq_true_eq, Bool.not_eq_true', Bool.and_eq_false_iff, Bool.or_eq_false_iff, decide_eq_false_iff_not]
                  omega
                cases g : ((decide (bt s 0 ≠ 224) || decide (160 ≤ bt s 1)) && (decide (bt s 0 ≠ 237) || decide (bt s 1 ≤ 159))) with
                | false =>
                  rw [g] at f
                  have : (decide (3 ≤ s.length) && true && (decide (bt s 0 ≠ 224) || decide (160 ≤ bt s 1)) && (decide (bt s 0 ≠ 237) || decide (bt s 1 ≤ 159)) && true) = false := by
                    rw [Bool.and_true, Bool.and_true, Bool.and_assoc, g, Bool.and_false]
                  have hg2 : good1 s = none := by rw [hg, t', u', this]; rfl
                  simp only [l, t', u', f, hg2, decide_false, Bool.not_true, cond_false, cond_true, Bool.not_false]
                | true =>
                  rw [g] at f
                  have : (decide (3 ≤ s.length) && true && (decide (bt s 0 ≠ 224) || decide (160 ≤ bt s 1)) && (decide (bt s 0 ≠ 237) || decide (bt s 1 ≤ 159)) && true) = true := by
                    rw [Bool.and_true, Bool.and_true, Bool.and_assoc, g]; simpa using l2
                  simp only [Bool.and_eq_true, Bool.or_eq_true, decide_eq_true_eq] at g
                  have e : dec1 s = ((bt s 0 % 16 * 64 + bt s 1 % 64) * 64 + bt s 2 % 64, 3) := by
                    unfold dec1 contL; rw [if_neg a, if_neg (by simp; omega), if_pos (by simp; omega), if_pos (by simp only [Bool.and_eq_true, decide_eq_true_eq, Utf8.valid, Bool.or_eq_true]; omega)]
                    exact Prod.ext (by simp only; omega) rfl
                  have hg2 : good1 s = some 3 := by rw [hg, t', u', this]; rfl
                  simp only [l, t', u', f, hg2, e, decide_false, Bool.not_true, cond_false, cond_true, Bool.not_false]
        · by_cases e : bt s 0 < 245
          · have c2 : bt s 0 ≥ 194 := by omega
            have c3 : bt s 0 ≥ 224 := by omega
            have c4 : bt s 0 ≥ 240 := by omega
            simp only [a, b, c, d, e, c2, c3, c4, decide_false, decide_true, Bool.true_and, Bool.and_false, cond_false, cond_true, tellR, ct3, badB_tail]
            have hg : good1 s = if decide (4 ≤ s.length) && tailB (bt s 1) && (decide (bt s 0 ≠ 240) || decide (144 ≤ bt s 1)) && (decide (bt s 0 ≠ 244) || decide (bt s 1 ≤ 143)) && tailB (bt s 2) && tailB (bt s 3) then some 4 else none := by
              unfold good1; rw [if_neg a, if_neg b, if_neg c, if_neg d, if_pos e]
            by_cases l : s.length < 4
            · have l2 : ¬ 4 ≤ s.length := by omega
              simp [hg, l, l2]
            · have l2 : 4 ≤ s.length := by omega
              cases t : tailB (bt s 1) with
              | false => simp [hg, l, l2, t]
              | true =>
                cases u : tailB (bt s 2) with
                | false => simp [hg, l, l2, t, u]
                | true =>
                  cases v : tailB (bt s 3) with
                  | false => simp [hg, l, l2, t, u, v]
                  | true =>
                    have t' := t
                    have u' := u
                    have v' := v
                    unfold tailB at t u v
                    simp only [Bool.and_eq_true, decide_eq_true_eq] at t u v
                    have f : farB (((bt s 0 % 8 * 64 + bt s 1 % 64) * 64 + bt s 2 % 64) * 64 + bt s 3 % 64) 65536 = !((decide (bt s 0 ≠ 240) || decide (144 ≤ bt s 1)) && (decide (bt s 0 ≠ 244) || decide (bt s 1 ≤ 143))) := by
                      unfold farB
                      apply Bool.eq_iff_iff.2
                      simp only [Bool.or_eq_true, Bool.and_eq_true, decide_eq_true_eq, Bool.not_eq_true', Bool.and_eq_false_iff, Bool.or_eq_false_iff, decide_eq_false_iff_not]
                      omega
                    cases g : ((decide (bt s 0 ≠ 240) || decide (144 ≤ bt s 1)) && (decide (bt s 0 ≠ 244) || decide (bt s 1 ≤ 143))) with
                    | false =>
                      rw [g] at f
                      have : (decide (4 ≤ s.length) && true && (decide (bt s 0 ≠ 240) || decide (144 ≤ bt s 1)) && (decide (bt s 0 ≠ 244) || decide (bt s 1 ≤ 143)) && true && true) = false := by
                        rw [Bool.and_true, Bool.and_true, Bool.and_true, Bool.and_assoc, g, Bool.and_false]
                      have hg2 : good1 s = none := by rw [hg, t', u', v', this]; rfl
                      simp only [l, t', u', v', f, hg2, decide_false, Bool.not_true, cond_false, cond_true, Bool.not_false]
                    | true =>
                      rw [g] at f
                      have : (decide (4 ≤ s.length) && true && (decide (bt s 0 ≠ 240) || decide (144 ≤ bt s 1)) && (decide (bt s 0 ≠ 244) || decide (bt s 1 ≤ 143)) && true && true) = true := by
                        rw [Bool.and_true, Bool.and_true, Bool.and_true, Bool.and_assoc, g]; simpa using l2
                      simp only [Bool.and_eq_true, Bool.or_eq_true, decide_eq_true_eq] at g
                      have e : dec1 s = (((bt s 0 % 8 * 64 + bt s 1 % 64) * 64 + bt s 2 % 64) * 64 + bt s 3 % 64, 4) := by
                        unfold dec1 contL; rw [if_neg a, if_neg (by simp; omega), if_neg (by simp; omega), if_pos (by simp; omega), if_pos (by simp only [Bool.and_eq_true, decide_eq_true_eq, Utf8.valid, Bool.or_eq_true]; omega)]
                        exact Prod.ext (by simp only; omega) rfl
                      have hg2 : good1 s = some 4 := by rw [hg, t', u', v', this]; rfl
                      simp only [l, t', u', v', f, hg2, e, decide_false, Bool.not_true, cond_false, cond_true, Bool.not_false]
          · have c2 : bt s 0 ≥ 194 := by omega
            have c3 : bt s 0 ≥ 224 := by omega
            have c4 : bt s 0 ≥ 240 := by omega
            simp only [a, b, c, d, e, c2, c3, c4, decide_false, decide_true, Bool.true_and, Bool.and_false, cond_false, good1, if_false]
theorem r1_w (s : List UInt8) : (r1 s).2.1 = (dec1 s).2 := by
  unfold r1
  cases h : good1 s with
  | none => rw [bad_dec h]
  | some w => exact (good_dec h).symm
def markR (c : Int) : Bool := c == 45 || (c == 95 || c == 46)
def smallR (c : Int) : Bool := decide (c ≥ 97) && decide (c ≤ 122) || decide (c ≥ 48) && decide (c ≤ 57)
def bigR (c : Int) : Bool := decide (c ≥ 161) && (decide (c ≤ 65535) && (c != 173 && c != 65279))
/-- Does the document bar this rune here? -/
def barR (x : Nat × Nat × Bool) (first : Bool) : Bool := !x.2.2 || (!smallR (x.1 : Int) && (!bigR (x.1 : Int) && (!markR (x.1 : Int) || first)))
def failR : Nat → List UInt8 → Bool → Option (Nat × Nat)
  | 0, _, _ => none
  | m + 1, l, first => bif l.isEmpty then none else bif barR (r1 l) first then some (0, 0) else (failR m (l.drop (dec1 l).2) false).map fun p => (p.1 + 1, (dec1 l).2 + p.2)
def validR (s : List UInt8) : Bool := !(failR s.length s true).isSome && (decide ((cnt s : Int) > 0) && decide ((cnt s : Int) ≤ 40))
theorem bar_bad (c : Nat) (w : Nat) (first : Bool) : barR (c, w, true) first = badR (c : Int) first := by
  unfold barR badR mayR smallR bigR markR
  rw [letters_has, signs_has]
  apply Bool.eq_iff_iff.2
  cases first
  · simp only [Bool.not_true, Bool.false_or, Bool.not_eq_true', Bool.or_eq_false_iff, Bool.and_eq_false_iff, Bool.or_eq_true, Bool.and_eq_true, decide_eq_true_eq, beq_iff_eq, bne_iff_ne, beq_eq_false_iff_ne, decide_eq_false_iff_not, bne_eq_false_iff_eq, Bool.false_and, Bool.or_false, ne_eq, Bool.not_eq_false', Bool.false_eq_true, or_false]
    omega
  · simp only [Bool.not_true, Bool.false_or, Bool.not_eq_true', Bool.or_eq_false_iff, Bool.and_eq_false_iff, Bool.or_eq_true, Bool.and_eq_true, decide_eq_true_eq, beq_iff_eq, bne_iff_ne, beq_eq_false_iff_ne, decide_eq_false_iff_not, bne_eq_false_iff_eq, Bool.true_and, Bool.or_true, and_true, ne_eq, or_true, Bool.not_eq_false']
    omega
theorem fail_both : ∀ (m : Nat) (l : List UInt8) (first : Bool), l.length ≤ m → (failR m l first).isSome = ((failF m l first).isSome || !okF m l)
  | 0, l, first, h => by
    have : l = [] := List.length_eq_zero_iff.1 (by omega)
    subst this
    rfl
  | m + 1, l, first, h => by
    by_cases hl : l = []
    · subst hl; rfl
    · have he : l.isEmpty = false := by cases l with | nil => exact absurd rfl hl | cons a b => rfl
      have hp := dec1_pos l
      have ih := fail_both m (l.drop (dec1 l).2) false (by have := dec1_le l hl; simp; omega)
      rw [failR, failF, okF, he]
      simp only [cond_false]
      cases hg : good1 l with
      | none =>
        have : barR (r1 l) first = true := by unfold r1; rw [hg]; rfl
        rw [this]
        simp
      | some w =>
        have e : r1 l = ((dec1 l).1, w, true) := by unfold r1; rw [hg]
        rw [e, bar_bad, ← good_dec hg]
        cases badR (((dec1 l).1 : Nat) : Int) first with
        | true => simp
        | false => simpa using ih
theorem valid_both (s : List UInt8) : validR s = validL s := by
  unfold validR validL
  rw [fail_both _ _ _ (Nat.le_refl _)]
  have : okF s.length s = okL s := rfl
  rw [this]
  cases (failF s.length s true).isSome <;> cases okL s <;> simp
end Go.Sim
