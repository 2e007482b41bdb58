/-
  PlUtf: runes of a text in plain Lean.
-/
import Derived.Test.YtpkjlefincabiaaDoorPlBase
namespace Go.Sim
def bt (l : List UInt8) (k : Nat) : Nat := (l.getD k 0).toNat
def contL (l : List UInt8) (k : Nat) : Bool := decide (k < l.length) && bt l k / 64 == 2
/-- A text's first rune and its length. -/
def dec1 (l : List UInt8) : Nat × Nat :=
  if bt l 0 < 0x80 then (bt l 0, 1)
  else if bt l 0 / 32 == 6 && contL l 1 then
    (if (bt l 0 % 32) * 64 + bt l 1 % 64 ≥ 0x80 then ((bt l 0 % 32) * 64 + bt l 1 % 64, 2) else (0xFFFD, 1))
  else if bt l 0 / 16 == 14 && contL l 1 && contL l 2 then
    (if (bt l 0 % 16) * 4096 + (bt l 1 % 64) * 64 + bt l 2 % 64 ≥ 0x800 && Utf8.valid (((bt l 0 % 16) * 4096 + (bt l 1 % 64) * 64 + bt l 2 % 64 : Nat) : Int) then ((bt l 0 % 16) * 4096 + (bt l 1 % 64) * 64 + bt l 2 % 64, 3) else (0xFFFD, 1))
  else if bt l 0 / 8 == 30 && contL l 1 && contL l 2 && contL l 3 then
    (if (bt l 0 % 8) * 262144 + (bt l 1 % 64) * 4096 + (bt l 2 % 64) * 64 + bt l 3 % 64 ≥ 0x10000 && Utf8.valid (((bt l 0 % 8) * 262144 + (bt l 1 % 64) * 4096 + (bt l 2 % 64) * 64 + bt l 3 % 64 : Nat) : Int) then ((bt l 0 % 8) * 262144 + (bt l 1 % 64) * 4096 + (bt l 2 % 64) * 64 + bt l 3 % 64, 4) else (0xFFFD, 1))
  else (0xFFFD, 1)
theorem get_bt (s : List UInt8) (i k : Nat) : ((⟨s.toArray⟩ : ByteArray).get! (i + k)).toNat = bt (s.drop i) k := by
  unfold bt ByteArray.get!
  rw [List.getD_eq_getElem?_getD, List.getElem?_drop]
  congr 1
  rcases Nat.lt_or_ge (i + k) s.length with h | h
  · simp [h]
  · have h2 : s[i + k]? = none := by simpa using h
    rw [h2]
    simp [h]
    rfl
theorem size_drop (s : List UInt8) (i k : Nat) : decide (i + k < (⟨s.toArray⟩ : ByteArray).size) = decide (k < (s.drop i).length) := by
  apply decide_eq_decide.2
  have : (⟨s.toArray⟩ : ByteArray).size = s.length := by simp [ByteArray.size]
  rw [this, List.length_drop]
  omega
theorem decode_dec1 (s : List UInt8) (pos : Nat) : Utf8.decode ⟨s.toArray⟩ pos = dec1 (s.drop pos) := by
  unfold Utf8.decode dec1
  simp only [size_drop, get_bt, Utf8.runeError, contL]
  rfl
theorem dec1_pos (l : List UInt8) : 1 ≤ (dec1 l).2 := by
  unfold dec1
  repeat' split
  all_goals simp
theorem contL_lt {l : List UInt8} {k : Nat} (h : contL l k = true) : k < l.length := by
  unfold contL at h
  simp only [Bool.and_eq_true, decide_eq_true_eq] at h
  exact h.1
theorem dec1_le (l : List UInt8) (h : l ≠ []) : (dec1 l).2 ≤ l.length := by
  have hl : 1 ≤ l.length := by cases l with | nil => exact absurd rfl h | cons a b => simp
  unfold dec1
  split
  · exact hl
  · split
    · rename_i h2
      simp only [Bool.and_eq_true] at h2
      have := contL_lt h2.2
      split <;> simp <;> omega
    · split
      · rename_i h2
        simp only [Bool.and_eq_true] at h2
        have := contL_lt h2.2
        split <;> simp <;> omega
      · split
        · rename_i h2
          simp only [Bool.and_eq_true] at h2
          have := contL_lt h2.2
          split <;> simp <;> omega
        · exact hl
/-- How many runes there are. -/
def cnt (l : List UInt8) : Nat := if h : l = [] then 0 else cnt (l.drop (dec1 l).2) + 1
termination_by l.length
decreasing_by
  have := dec1_pos l
  have hl : 1 ≤ l.length := by cases l with | nil => exact absurd rfl h | cons a b => simp
  simp
  omega
/-- How many bytes the first n runes have. -/
def cutP (l : List UInt8) (n : Nat) : Nat := match n with
  | 0 => 0
  | n + 1 => if l = [] then 0 else (dec1 l).2 + cutP (l.drop (dec1 l).2) n
theorem cnt_nil : cnt [] = 0 := by rw [cnt]; simp
theorem cnt_cons (l : List UInt8) (h : l ≠ []) : cnt l = cnt (l.drop (dec1 l).2) + 1 := by rw [cnt]; simp [h]
theorem bt_take (l : List UInt8) (m k : Nat) (h : k < m) : bt (l.take m) k = bt l k := by
  unfold bt
  rw [List.getD_eq_getElem?_getD, List.getD_eq_getElem?_getD, List.getElem?_take_of_lt h]
theorem contL_take (l : List UInt8) (m k : Nat) (h : k < m) : contL (l.take m) k = contL l k := by
  unfold contL
  rw [bt_take l m k h]
  congr 1
  apply decide_eq_decide.2
  rw [List.length_take]
  omega
theorem contL_short (l : List UInt8) (m k : Nat) (h : m ≤ k) : contL (l.take m) k = false := by
  unfold contL
  have : ¬ k < (l.take m).length := by rw [List.length_take]; omega
  rw [decide_eq_false this]
  rfl
def decC (p x2 v2 x3 v3 x4 v4 : Bool) (r1 r2 r3 r4 : Nat) : Nat × Nat :=
  bif p then (r1, 1) else bif x2 then (bif v2 then (r2, 2) else (0xFFFD, 1)) else bif x3 then (bif v3 then (r3, 3) else (0xFFFD, 1)) else bif x4 then (bif v4 then (r4, 4) else (0xFFFD, 1)) else (0xFFFD, 1)
theorem decC_3 {p x2 v2 x3 v3 x4 v4 w4 : Bool} {r1 r2 r3 r4 s4 : Nat} (h : (decC p x2 v2 x3 v3 x4 v4 r1 r2 r3 r4).2 ≤ 3) : decC p x2 v2 x3 v3 false w4 r1 r2 r3 s4 = decC p x2 v2 x3 v3 x4 v4 r1 r2 r3 r4 := by
  revert h
  cases p <;> cases x2 <;> cases v2 <;> cases x3 <;> cases v3 <;> cases x4 <;> cases v4 <;> simp [decC]
theorem decC_2 {p x2 v2 x3 v3 x4 v4 w3 w4 : Bool} {r1 r2 r3 r4 s3 s4 : Nat} (h : (decC p x2 v2 x3 v3 x4 v4 r1 r2 r3 r4).2 ≤ 2) : decC p x2 v2 false w3 false w4 r1 r2 s3 s4 = decC p x2 v2 x3 v3 x4 v4 r1 r2 r3 r4 := by
  revert h
  cases p <;> cases x2 <;> cases v2 <;> cases x3 <;> cases v3 <;> cases x4 <;> cases v4 <;> simp [decC]
theorem decC_1 {p x2 v2 x3 v3 x4 v4 w2 w3 w4 : Bool} {r1 r2 r3 r4 s2 s3 s4 : Nat} (h : (decC p x2 v2 x3 v3 x4 v4 r1 r2 r3 r4).2 ≤ 1) : decC p false w2 false w3 false w4 r1 s2 s3 s4 = decC p x2 v2 x3 v3 x4 v4 r1 r2 r3 r4 := by
  revert h
  cases p <;> cases x2 <;> cases v2 <;> cases x3 <;> cases v3 <;> cases x4 <;> cases v4 <;> simp [decC]
theorem ite_cond {α : Type} {c : Prop} [Decidable c] {a b : α} : (if c then a else b) = bif decide c then a else b := by
  by_cases h : c <;> simp [h]
theorem dec1_decC (l : List UInt8) : dec1 l = decC (decide (bt l 0 < 0x80)) (bt l 0 / 32 == 6 && contL l 1) (decide ((bt l 0 % 32) * 64 + bt l 1 % 64 ≥ 0x80)) (bt l 0 / 16 == 14 && contL l 1 && contL l 2)
    (decide ((bt l 0 % 16) * 4096 + (bt l 1 % 64) * 64 + bt l 2 % 64 ≥ 0x800) && Utf8.valid (((bt l 0 % 16) * 4096 + (bt l 1 % 64) * 64 + bt l 2 % 64 : Nat) : Int)) (bt l 0 / 8 == 30 && contL l 1 && contL l 2 && contL l 3)
    (decide ((bt l 0 % 8) * 262144 + (bt l 1 % 64) * 4096 + (bt l 2 % 64) * 64 + bt l 3 % 64 ≥ 0x10000) && Utf8.valid (((bt l 0 % 8) * 262144 + (bt l 1 % 64) * 4096 + (bt l 2 % 64) * 64 + bt l 3 % 64 : Nat) : Int))
    (bt l 0) ((bt l 0 % 32) * 64 + bt l 1 % 64) ((bt l 0 % 16) * 4096 + (bt l 1 % 64) * 64 + bt l 2 % 64) ((bt l 0 % 8) * 262144 + (bt l 1 % 64) * 4096 + (bt l 2 % 64) * 64 + bt l 3 % 64) := by
  unfold dec1 decC
  simp only [ite_cond, Bool.decide_eq_true]
theorem dec1_take (l : List UInt8) (m : Nat) (h0 : 1 ≤ m) (h : (dec1 l).2 ≤ m) : dec1 (l.take m) = dec1 l := by
  have b0 := bt_take l m 0 h0
  rw [dec1_decC] at h
  rw [dec1_decC (l.take m), dec1_decC l]
  rcases Nat.lt_or_ge 3 m with h4 | h4
  · simp only [b0, bt_take l m 1 (by omega), bt_take l m 2 (by omega), bt_take l m 3 (by omega), contL_take l m 1 (by omega), contL_take l m 2 (by omega), contL_take l m 3 (by omega)]
  · have c3 := contL_short l m 3 h4
    rcases Nat.lt_or_ge 2 m with h3 | h3
    · simp only [b0, bt_take l m 1 (by omega), bt_take l m 2 (by omega), contL_take l m 1 (by omega), contL_take l m 2 (by omega), c3, Bool.and_false]
      exact decC_3 (Nat.le_trans h h4)
    · have c2 := contL_short l m 2 h3
      rcases Nat.lt_or_ge 1 m with h2 | h2
      · simp only [b0, bt_take l m 1 (by omega), contL_take l m 1 (by omega), c2, c3, Bool.and_false]
        exact decC_2 (Nat.le_trans h h3)
      · have c1 := contL_short l m 1 h2
        simp only [b0, c1, c2, c3, Bool.and_false]
        exact decC_1 (Nat.le_trans h h2)
/-! ### Cutting -/
theorem cutP_le : ∀ (n : Nat) (l : List UInt8), cutP l n ≤ l.length
  | 0, l => by simp [cutP]
  | n + 1, l => by
    simp only [cutP]
    split
    · simp
    · rename_i h
      have h1 := dec1_le l h
      have h2 := cutP_le n (l.drop (dec1 l).2)
      rw [List.length_drop] at h2
      omega
theorem cnt_split : ∀ (n : Nat) (l : List UInt8), cnt (l.take (cutP l n)) = min n (cnt l) ∧ cnt (l.take (cutP l n)) + cnt (l.drop (cutP l n)) = cnt l
  | 0, l => by simp [cutP, cnt_nil]
  | n + 1, l => by
    simp only [cutP]
    split
    · rename_i h
      subst h
      simp [cnt_nil]
    · rename_i h
      have h1 := dec1_le l h
      have hp := dec1_pos l
      obtain ⟨i1, i2⟩ := cnt_split n (l.drop (dec1 l).2)
      have hd : dec1 (l.take ((dec1 l).2 + cutP (l.drop (dec1 l).2) n)) = dec1 l := dec1_take l _ (by omega) (by omega)
      have hne : l.take ((dec1 l).2 + cutP (l.drop (dec1 l).2) n) ≠ [] := by
        intro e
        have := congrArg List.length e
        simp at this
        rcases this with h' | h'
        · omega
        · exact h h'
      have e1 : cnt (l.take ((dec1 l).2 + cutP (l.drop (dec1 l).2) n)) = cnt ((l.drop (dec1 l).2).take (cutP (l.drop (dec1 l).2) n)) + 1 := by
        rw [cnt_cons _ hne, hd, List.drop_take]
        congr 3
        omega
      have e2 : l.drop ((dec1 l).2 + cutP (l.drop (dec1 l).2) n) = (l.drop (dec1 l).2).drop (cutP (l.drop (dec1 l).2) n) := by rw [List.drop_drop]
      rw [e1, e2, cnt_cons l h]
      omega
/-- What is cut off is cut off again whole. -/
theorem cut_again (n : Nat) (l : List UInt8) : ∀ k, n ≤ k → cutP (l.take (cutP l n)) k = cutP l n := by
  induction n generalizing l with
  | zero => intro k _; cases k <;> simp [cutP]
  | succ n ih =>
    intro k hk
    obtain ⟨k, rfl⟩ : ∃ j, k = j + 1 := ⟨k - 1, by omega⟩
    by_cases h : l = []
    · subst h; simp [cutP]
    · have h1 := dec1_le l h
      have hp := dec1_pos l
      have hc : cutP l (n + 1) = (dec1 l).2 + cutP (l.drop (dec1 l).2) n := by simp [cutP, h]
      rw [hc]
      have hd : dec1 (l.take ((dec1 l).2 + cutP (l.drop (dec1 l).2) n)) = dec1 l := dec1_take l _ (by omega) (by omega)
      have hne : l.take ((dec1 l).2 + cutP (l.drop (dec1 l).2) n) ≠ [] := by
        intro e
        have := congrArg List.length e
        simp at this
        rcases this with h' | h'
        · omega
        · exact h h'
      simp only [cutP, hne, if_false, hd]
      rw [List.drop_take, show (dec1 l).2 + cutP (l.drop (dec1 l).2) n - (dec1 l).2 = cutP (l.drop (dec1 l).2) n by omega, ih _ k (by omega)]
theorem cnt_le : ∀ (m : Nat) (l : List UInt8), l.length ≤ m → cnt l ≤ l.length
  | 0, l, h => by
    have : l = [] := List.length_eq_zero_iff.1 (by omega)
    subst this
    simp [cnt_nil]
  | m + 1, l, h => by
    by_cases hl : l = []
    · subst hl; simp [cnt_nil]
    · have hp := dec1_pos l
      have hle := dec1_le l hl
      have ih := cnt_le m (l.drop (dec1 l).2) (by simp; omega)
      rw [List.length_drop] at ih
      rw [cnt_cons l hl]
      omega
/-! ### Is it one of them? -/
/-- How many bytes there are up to the first rune that is c, it with them. -/
def findF : Nat → List UInt8 → Int → Option Nat
  | 0, _, _ => none
  | m + 1, l, c => bif l.isEmpty then none else bif (((dec1 l).1 : Nat) : Int) == c then some (dec1 l).2 else (findF m (l.drop (dec1 l).2) c).map fun k => (dec1 l).2 + k
def hasR (l : List UInt8) (c : Int) : Bool := (findF l.length l c).isSome
end Go.Sim
