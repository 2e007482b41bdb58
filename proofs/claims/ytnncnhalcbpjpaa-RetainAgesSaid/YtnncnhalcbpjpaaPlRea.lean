/-
  PlRea: RetainAges in plain Lean.
-/
import Derived.Test.YtnncnhalcbpjpaaPlRet
namespace Go.Sim
def tmI (x : Int) : Int := IntKind.i64.wrap (↑(BitVec.ofInt 64 x &&& BitVec.ofInt 64 (1023 : Int)).toNat : Int)
theorem tmI_range (x : Int) : 0 ≤ tmI x ∧ tmI x ≤ 1023 := by
  have h : (BitVec.ofInt 64 x &&& BitVec.ofInt 64 (1023 : Int)).toNat ≤ 1023 := by
    rw [BitVec.toNat_and]
    exact Nat.le_trans Nat.and_le_right (by decide)
  unfold tmI
  rw [wrap64 (by omega) (by omega)]
  omega
def ageSeg (i : Int) (x : Int) : Seg := (i, i + 1, tmI x, 0, [], true, false, false, 0, 0)
def agesL : Int → List Int → List Seg
  | _, [] => []
  | i, x :: r => ageSeg i x :: agesL (i + 1) r
theorem agesL_length : ∀ (i : Int) (l : List Int), (agesL i l).length = l.length
  | _, [] => rfl
  | i, x :: r => by simp [agesL, agesL_length (i + 1) r]
def agesN (age now : Int) : List Int → Nat
  | [] => 0
  | x :: r => cond (decide (now - tmI x > age)) (agesN age now r + 1) 0
theorem agesN_le (age now : Int) : ∀ l, agesN age now l ≤ l.length
  | [] => Nat.le_refl _
  | x :: r => by have := agesN_le age now r; simp only [agesN]; cases decide (now - tmI x > age) <;> simp <;> omega
def allOld (age now : Int) (l : List Int) : Bool := l.all fun x => decide (now - tmI x > age)
theorem ages_drop (age now : Int) (h : age ≥ 1) (tl : List Seg) (ht : dropN (0, 0, age, 0) now tl = 0) : ∀ (l : List Int) (i : Int), dropN (0, 0, age, 0) now (agesL i l ++ tl) = agesN age now l
  | [], i => ht
  | x :: r, i => by
    have ha : age > 0 := by omega
    simp only [agesL, List.cons_append, dropN, agesN, ages_drop age now h tl ht r (i + 1)]
    have : goes (ageSeg i x) (agesL (i + 1) r ++ tl) (0, 0, age, 0) now = decide (now - tmI x > age) := by
      simp [goes, isOld, isMuch, ageSeg, ha]
    rw [this]
end Go.Sim
