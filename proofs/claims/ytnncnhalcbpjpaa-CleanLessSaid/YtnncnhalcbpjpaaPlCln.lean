/-
  PlCln: chapter 13 in plain Lean: which records stay.
-/
import Derived.Test.YtnncnhalcbpjpaaPlBase
namespace Go.Sim
/-- Does one of them below the point have this key? -/
def metIn (point : Int) (rest : List Rec) (k : List UInt8) : Bool := rest.any fun q => decide (q.1 < point) && (k == q.2.2.1)
def dOld (now grace : Int) (dead : Bool) (r : Rec) : Bool := r.2.2.2.2 && dead && decide (now - r.2.1 > grace)
def staysR (point now grace : Int) (dead : Bool) (r : Rec) (rest : List Rec) : Bool := decide (r.1 ≥ point) || (!metIn point rest r.2.2.1 && !dOld now grace dead r)
def keepL (point now grace : Int) (dead : Bool) : List Rec → List Rec
  | [] => []
  | r :: rest => cond (staysR point now grace dead r rest) (r :: keepL point now grace dead rest) (keepL point now grace dead rest)
theorem keepL_length (point now grace : Int) (dead : Bool) : ∀ l, (keepL point now grace dead l).length ≤ l.length
  | [] => Nat.le_refl _
  | r :: rest => by
    have := keepL_length point now grace dead rest
    simp only [keepL]
    cases staysR point now grace dead r rest <;> simp <;> omega
abbrev Met := List (List UInt8 × Bool)
def putM (k : List UInt8) (v : Bool) (m : Met) : Met := mset (kt := .str) (vt := .bool) k v m
def getM (k : List UInt8) (m : Met) : Bool := (mget (kt := .str) (vt := .bool) k m).getD false
theorem getM_nil (k : List UInt8) : getM k [] = false := rfl
theorem keyEq_str (a b : List UInt8) : keyEq .str a b = (a == b) := rfl
theorem getM_put (k k' : List UInt8) (v : Bool) : ∀ m : Met, getM k (putM k' v m) = cond (k == k') v (getM k m)
  | [] => by
    unfold getM putM
    simp only [mset, mget, keyEq_str]
    cases k == k' <;> rfl
  | e :: es => by
    have ih := getM_put k k' v es
    unfold getM putM at ih ⊢
    simp only [mset, mget, keyEq_str]
    cases h : k' == e.1
    · simp only [cond_false, mget, keyEq_str]
      cases h2 : k == e.1
      · simp only [cond_false]; exact ih
      · simp only [cond_true]
        have h3 : (k == k') = false := by
          simp only [beq_eq_false_iff_ne, beq_iff_eq] at h h2 ⊢
          intro e'; exact h (by rw [← e', h2])
        rw [h3]; rfl
    · simp only [cond_true, mget, keyEq_str]
      simp only [beq_iff_eq] at h
      rw [h]
      cases k == e.1 <;> rfl
theorem putM_length (k : List UInt8) (v : Bool) : ∀ m : Met, (putM k v m).length ≤ m.length + 1
  | [] => by simp [putM, mset]
  | e :: es => by
    have := putM_length k v es
    unfold putM at this ⊢
    simp only [mset]
    cases keyEq .str k e.1 <;> simp <;> omega
/-- The keys that were met, the last record first. -/
def metL (point : Int) : List Rec → Met
  | [] => []
  | r :: rest => cond (decide (r.1 ≥ point)) (metL point rest) (putM r.2.2.1 true (metL point rest))
theorem metL_get (point : Int) (k : List UInt8) : ∀ l, getM k (metL point l) = metIn point l k
  | [] => rfl
  | r :: rest => by
    have ih := metL_get point k rest
    simp only [metL, metIn, List.any_cons]
    by_cases h : r.1 ≥ point
    · have h2 : ¬ r.1 < point := by omega
      simp only [h, h2, decide_true, decide_false, cond_true, Bool.false_and, Bool.false_or]
      exact ih
    · have h2 : r.1 < point := by omega
      simp only [h, h2, decide_true, decide_false, cond_false, Bool.true_and]
      rw [getM_put, ih]
      cases k == r.2.2.1 <;> rfl
theorem metL_length (point : Int) : ∀ l, (metL point l).length ≤ l.length
  | [] => Nat.le_refl _
  | r :: rest => by
    have := metL_length point rest
    have h2 := putM_length r.2.2.1 true (metL point rest)
    simp only [metL]
    cases decide (r.1 ≥ point) <;> simp <;> omega
/-! ### Again -/
theorem metIn_keep (point now grace : Int) (dead : Bool) (k : List UInt8) : ∀ l, metIn point (keepL point now grace dead l) k = true → metIn point l k = true
  | [], h => h
  | r :: rest, h => by
    have ih := metIn_keep point now grace dead k rest
    simp only [keepL] at h
    unfold metIn at *
    simp only [List.any_cons]
    cases hs : staysR point now grace dead r rest
    · rw [hs] at h
      rw [ih h, Bool.or_true]
    · rw [hs] at h
      simp only [cond_true, List.any_cons, Bool.or_eq_true] at h
      rcases h with h | h
      · rw [h, Bool.true_or]
      · rw [ih h, Bool.or_true]
theorem keep_again (point now grace : Int) (dead : Bool) : ∀ l, keepL point now grace dead (keepL point now grace dead l) = keepL point now grace dead l
  | [] => rfl
  | r :: rest => by
    have ih := keep_again point now grace dead rest
    simp only [keepL]
    cases hs : staysR point now grace dead r rest
    · exact ih
    · have h2 : staysR point now grace dead r (keepL point now grace dead rest) = true := by
        unfold staysR at hs ⊢
        cases h1 : decide (r.1 ≥ point)
        · rw [h1] at hs
          simp only [Bool.false_or, Bool.and_eq_true] at hs ⊢
          refine ⟨?_, hs.2⟩
          cases h3 : metIn point (keepL point now grace dead rest) r.2.2.1
          · rfl
          · rw [metIn_keep point now grace dead _ rest h3] at hs
            simp at hs
        · rfl
      simp only [cond_true, keepL, h2, ih]
/-! ### Records that are alike -/
def sameR (a b : Rec) : Bool := a.1 == b.1 && (a.2.1 == b.2.1 && (a.2.2.1 == b.2.2.1 && (a.2.2.2.1 == b.2.2.2.1 && (a.2.2.2.2 == b.2.2.2.2 && true))))
theorem sameR_eq (a b : Rec) : sameR a b = decide (a = b) := by
  obtain ⟨a1, a2, a3, a4, a5⟩ := a
  obtain ⟨b1, b2, b3, b4, b5⟩ := b
  unfold sameR
  rw [Bool.eq_iff_iff]
  simp
theorem sameR_refl (a : Rec) : sameR a a = true := by simp [sameR_eq]
def bigR (r : Rec) : Bool := decide (((r.2.2.1.length : Nat) : Int) > 250) || decide (((r.2.2.2.1.length : Nat) : Int) > 300)
end Go.Sim
