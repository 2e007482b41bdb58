/-
  PlRew: RetainWhole in plain Lean.
-/
import Derived.Test.YtnncnhalcbpjpaaPlRet
namespace Go.Sim
def badS (g : Seg) : Bool := decide (g.2.2.2.2.2.2.2.2.1 < 0) || decide (g.2.2.2.2.2.2.2.2.1 > 1125899906842624) || decide (g.2.2.1 < -1125899906842624) || decide (g.2.2.1 > 1125899906842624)
/-- The first one of which p holds, or how many there are. -/
def firstI (p : Seg → Bool) : List Seg → Nat
  | [] => 0
  | g :: r => cond (p g) 0 (firstI p r + 1)
theorem firstI_any (p : Seg → Bool) : ∀ l : List Seg, l.any p = false → firstI p l = l.length
  | [], _ => rfl
  | g :: r, h => by
    simp only [List.any_cons, Bool.or_eq_false_iff] at h
    simp [firstI, h.1, firstI_any p r h.2]
def sealS (g : Seg) : Bool := g.2.2.2.2.2.1
theorem dropN_seal (c : Cnf) (now : Int) : ∀ l : List Seg, (l.take (dropN c now l)).all sealS = true
  | [] => rfl
  | g :: r => by
    simp only [dropN]
    cases h : goes g r c now
    · rfl
    · simp only [cond_true, List.take_succ_cons, List.all_cons, dropN_seal c now r, Bool.and_true]
      unfold goes at h
      simp only [Bool.and_eq_true] at h
      exact h.1
theorem dropN_none (c : Cnf) (now : Int) (h1 : c.2.2.1 ≤ 0) (h2 : c.2.1 ≤ 0) : ∀ l : List Seg, dropN c now l = 0
  | [] => rfl
  | g :: r => by
    have a : ¬ c.2.2.1 > 0 := by omega
    have b : ¬ c.2.1 > 0 := by omega
    simp [dropN, goes, isOld, isMuch, a, b]
/-- Where it stops at one that is sealed, that one does not go. -/
theorem dropN_stop (c : Cnf) (now : Int) : ∀ l : List Seg, dropN c now l < l.length → goes (l.getD (dropN c now l) segTy.zero) (l.drop (dropN c now l + 1)) c now = false
  | [], h => by simp at h
  | g :: r, h => by
    simp only [dropN] at h ⊢
    cases hg : goes g r c now
    · simpa using hg
    · rw [hg] at h
      simp only [cond_true, List.length_cons] at h
      have := dropN_stop c now r (by omega)
      simpa using this
def sumS : List Seg → Int
  | [] => 0
  | g :: r => g.2.2.2.2.2.2.2.2.1 + sumS r
theorem sumS_posum : ∀ l : List Seg, l.any badS = false → sumS l = posum l ∧ 0 ≤ posum l ∧ posum l ≤ l.length * 1125899906842624
  | [], _ => by simp [sumS, posum]
  | g :: r, h => by
    simp only [List.any_cons, Bool.or_eq_false_iff] at h
    obtain ⟨h1, h2⟩ := h
    obtain ⟨a, b, c⟩ := sumS_posum r h2
    simp only [badS, Bool.or_eq_false_iff, decide_eq_false_iff_not] at h1
    simp only [sumS, posum, List.length_cons]
    refine ⟨by omega, by omega, by omega⟩
theorem any_drop (p : Seg → Bool) (l : List Seg) (n : Nat) (h : l.any p = false) : (l.drop n).any p = false := by
  rw [List.any_eq_false] at h ⊢
  exact fun x hx => h x (List.mem_of_mem_drop hx)
theorem getD_mem (l : List Seg) (n : Nat) (h : n < l.length) : l.getD n segTy.zero ∈ l := by
  rw [List.getD_eq_getElem?_getD, List.getElem?_eq_getElem h]
  simp
end Go.Sim
