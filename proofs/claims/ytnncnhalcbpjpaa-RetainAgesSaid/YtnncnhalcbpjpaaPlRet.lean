/-
  PlRet: chapter 14 in plain Lean: which segments are dropped.
-/
import Derived.Test.YtnncnhalcbpjpaaPlBase
namespace Go.Sim
/-- Too old. -/
def isOld (g : Seg) (c : Cnf) (now : Int) : Bool := decide (c.2.2.1 > 0) && decide (now - g.2.2.1 > c.2.2.1)
/-- How many bytes there are in all. -/
def posum : List Seg → Int
  | [] => 0
  | g :: r => max 0 g.2.2.2.2.2.2.2.2.1 + posum r
theorem posum_nonneg : ∀ l, 0 ≤ posum l
  | [] => Int.le_refl _
  | g :: r => by have := posum_nonneg r; simp only [posum]; omega
def isMuch (l : List Seg) (c : Cnf) : Bool := decide (c.2.1 > 0) && decide (posum l > c.2.1)
def goes (g : Seg) (r : List Seg) (c : Cnf) (now : Int) : Bool := g.2.2.2.2.2.1 && (isOld g c now || isMuch (g :: r) c)
def dropN (c : Cnf) (now : Int) : List Seg → Nat
  | [] => 0
  | g :: r => cond (goes g r c now) (dropN c now r + 1) 0
theorem dropN_le (c : Cnf) (now : Int) : ∀ l, dropN c now l ≤ l.length
  | [] => Nat.le_refl _
  | g :: r => by have := dropN_le c now r; simp only [dropN]; cases goes g r c now <;> simp <;> omega
/-- At most 2^63. -/
def sat (n : Int) : Int := min n 9223372036854775808
def sizesL : List Seg → List Int
  | [] => []
  | g :: r => sat (posum (g :: r)) :: sizesL r
theorem sizesL_length : ∀ l, (sizesL l).length = l.length
  | [] => rfl
  | g :: r => by simp [sizesL, sizesL_length r]
theorem sizesL_get : ∀ (l : List Seg) (n : Nat), n < l.length → (sizesL l).getD n 0 = sat (posum (l.drop n))
  | [], n, h => by simp at h
  | g :: r, 0, _ => rfl
  | g :: r, n + 1, h => by simpa [sizesL] using sizesL_get r n (by simpa using h)
theorem getD_drop {α : Type} (l : List α) (n : Nat) (d : α) (h : n < l.length) : l.drop n = l.getD n d :: l.drop (n + 1) := by
  rw [List.getD_eq_getElem?_getD, List.getElem?_eq_getElem h]
  simp
end Go.Sim
