/-
  PlCls: CleanLess in plain Lean.
-/
import Derived.Test.YtnncnhalcbpjpaaPlCln
namespace Go.Sim
def risingB : List Rec → Bool
  | [] => true
  | r :: rest => (rest.all fun q => decide (r.1 < q.1)) && risingB rest
theorem mem_keepL (point now grace : Int) (dead : Bool) : ∀ (l : List Rec) (q : Rec), q ∈ keepL point now grace dead l → q ∈ l
  | [], q, h => h
  | r :: rest, q, h => by
    simp only [keepL] at h
    cases hs : staysR point now grace dead r rest
    · rw [hs] at h
      exact List.mem_cons_of_mem _ (mem_keepL point now grace dead rest q h)
    · rw [hs] at h
      rcases List.mem_cons.1 h with h | h
      · rw [h]; exact List.mem_cons_self
      · exact List.mem_cons_of_mem _ (mem_keepL point now grace dead rest q h)
def badT (r : Rec) : Bool := decide (r.2.1 < -1125899906842624) || decide (r.2.1 > 1125899906842624)
/-- Where the law gives up: what is gone has a time out of range. -/
def lessF (point now grace : Int) (dead : Bool) : List Rec → Nat → Nat → Option (Nat × Nat)
  | [], _, _ => none
  | r :: rest, at', i => cond (staysR point now grace dead r rest) (lessF point now grace dead rest (at' + 1) (i + 1)) (cond (badT r) (some (at', i)) (lessF point now grace dead rest at' (i + 1)))
/-- What is gone has a reason. -/
def whyR (point now grace : Int) (dead : Bool) (r : Rec) (rest : List Rec) : Bool := dOld now grace dead r || rest.any fun q => (q.2.2.1 == r.2.2.1) && decide (q.1 < point)
theorem why_gone (point now grace : Int) (dead : Bool) (r : Rec) (rest : List Rec) (h : staysR point now grace dead r rest = false) : whyR point now grace dead r rest = true ∧ r.1 < point := by
  unfold staysR at h
  simp only [Bool.or_eq_false_iff, decide_eq_false_iff_not, Bool.and_eq_false_iff, Bool.not_eq_false'] at h
  refine ⟨?_, by omega⟩
  unfold whyR
  rcases h.2 with h2 | h2
  · have : (rest.any fun q => (q.2.2.1 == r.2.2.1) && decide (q.1 < point)) = true := by
      unfold metIn at h2
      rw [List.any_eq_true] at h2 ⊢
      obtain ⟨q, hq, hh⟩ := h2
      refine ⟨q, hq, ?_⟩
      simp only [Bool.and_eq_true, decide_eq_true_eq, beq_iff_eq] at hh ⊢
      exact ⟨hh.2.symm, hh.1⟩
    rw [this, Bool.or_true]
  · rw [h2, Bool.true_or]
theorem rising_head {r : Rec} {rest : List Rec} (h : risingB (r :: rest) = true) : (∀ q ∈ rest, r.1 < q.1) ∧ risingB rest = true := by
  simp only [risingB, Bool.and_eq_true, List.all_eq_true, decide_eq_true_eq] at h
  exact h
def headS : List Rec → Rec → Bool
  | [], _ => false
  | q :: _, r => sameR q r
/-- The next one that is kept is this one, just if this one stays. -/
theorem next_kept (point now grace : Int) (dead : Bool) (r : Rec) (rest m : List Rec) (h : risingB (r :: rest) = true) (hm : m = keepL point now grace dead (r :: rest)) :
    headS m r = staysR point now grace dead r rest := by
  subst hm
  simp only [keepL]
  cases hs : staysR point now grace dead r rest
  · simp only [cond_false]
    cases hk : keepL point now grace dead rest with
    | nil => rfl
    | cons q qs =>
      have hq : q ∈ rest := mem_keepL point now grace dead rest q (by rw [hk]; exact List.mem_cons_self)
      have := (rising_head h).1 q hq
      simp only [headS, sameR_eq, decide_eq_false_iff_not]
      intro e
      rw [e] at this
      omega
  · simp only [cond_true, headS, sameR_refl]
end Go.Sim
