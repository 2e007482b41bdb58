/-
  SimX: states told anew: only some slots live, objects numbered from 0 on.
-/
import Derived.Test.YtpkjlefincabiaaDoorSimW
namespace Go.Sim
set_option linter.unusedSectionVars false
set_option linter.unusedSimpArgs false
set_option linter.unusedVariables false
section
variable {P : Program} [Tabs P] {E : Env} {H : Hint}
variable {own : Own P} {φ φ' : Nat → Nat} {β β' β2 : Beta} {w w' : World}
variable {R : Type} {k0 : Nat}

theorem lk_live (g : Nat → AV) : ∀ (live : List Nat) (x : Nat), lk .undef (live.map fun t => (t, g t)) x = if x ∈ live then g x else .undef
  | [], x => by simp [lk]
  | t :: r, x => by
    simp only [List.map_cons, lk]
    cases hb : Nat.beq t x with
    | true => have := Nat.eq_of_beq_eq_true hb; subst this; simp
    | false =>
      have hne : t ≠ x := fun h => by subst h; simp [Nat.beq_refl] at hb
      simp only [cond_false]
      rw [lk_live g r x]
      simp [Ne.symm hne]

/-- A state told anew speaks of the same run. -/
def Tells (P : Program) [Tabs P] (H : Hint) (k0 : Nat) (s s2 : St) : Prop :=
  ∀ (own : Own P) φ β a w, Rel H k0 own φ β s a w → ∃ β2, Rel H k0 own φ β2 s2 a w ∧ Run k0 own φ β w φ β2 w

theorem canonK_sound {live : List Nat} {s : St} {K : St → Option R} {r : R} (h : canonK k0 live s K = some r) : ∃ s2, K s2 = some r ∧ Tells P H k0 s s2 := by
  unfold canonK at h
  generalize reach (getO s.objs) reachFuel (List.range k0 ++ locsL (live.map fun t => lk .undef s.slots t)) [] = ls at h
  obtain ⟨hc, h⟩ := cond_none h
  simp only [Bool.and_eq_true] at hc
  refine ⟨_, h, fun own φ β a w hrel => ⟨subB ls β, ⟨hrel.size, hrel.defers, fun x => ?_, hrel.inv.sub hc.1, fun l hl => ?_, (startsNum_spec hc.2).1⟩, ⟨.refl _ _, fun l hl => ?_, Nat.le_refl _, fun _ _ _ => ⟨rfl, rfl⟩⟩⟩⟩
  · have := lk_live (fun t => (lk .undef s.slots t).ren (idx ls 0)) live x
    unfold slotAt
    rw [this]
    split
    · exact V.ren subB_idx _ _ (hrel.slots x)
    · simp [V]
  · have e : ls[l]? = none := by simp; exact hl
    rw [getO_numbered]
    simp [subB, e]
  · have := (startsNum_spec hc.2).2 l hl
    rw [Nat.zero_add] at this
    simp [subB, this]
end
end Go.Sim
