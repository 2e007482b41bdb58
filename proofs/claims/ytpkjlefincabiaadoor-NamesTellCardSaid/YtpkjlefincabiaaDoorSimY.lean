/-
  SimY: code: what the abstract machine comes to, a run comes to; loops; functions.
-/
import Derived.Test.YtpkjlefincabiaaDoorSimX
import Derived.LoopN
import Derived.Scope
namespace Go.Sim
set_option linter.unusedSectionVars false
set_option linter.unusedSimpArgs false
set_option linter.unusedVariables false
section
variable {P : Program} [Tabs P] {E : Env} {H : Hint}
variable {own : Own P} {φ φ' : Nat → Nat} {β β' β2 : Beta} {w w' : World}
variable {R : Type} {k0 : Nat}

def Ex.out : Ex → Exit
  | .normal => .normal
  | .exit i => .exit i
  | .ret => .ret

theorem CodeGood.before {c : Code} {s s1 s2 : St} {e : Exit} (ht : Tells P H k0 s s1) (h : CodeGood P H k0 c s1 e s2) : CodeGood P H k0 c s e s2 := fun own φ β a w hrel Q hQ => by
  obtain ⟨β2, hrel2, hrun⟩ := ht own φ β a w hrel
  exact h own φ β2 a w hrel2 Q fun φ' β' a' w' hr hrun' => hQ φ' β' a' w' hr (hrun.trans hrun')
theorem CodeGood.seq {x y : Code} {s s1 s2 : St} {e : Exit} (h : CodeGood P H k0 x s .normal s1) (h' : CodeGood P H k0 y s1 e s2) : CodeGood P H k0 (.seq x y) s e s2 := fun own φ β a w hrel Q hQ =>
  wp_seq (h own φ β a w hrel _ fun φ' β' a' w' hr hrun => h' own φ' β' a' w' hr Q fun φ2 β2 a2 w2 hr2 hrun2 => hQ φ2 β2 a2 w2 hr2 (hrun.trans hrun2))
theorem CodeGood.seq_out {x y : Code} {s s1 : St} {e : Ex} (he : e ≠ .normal) (h : CodeGood P H k0 x s e.out s1) : CodeGood P H k0 (.seq x y) s e.out s1 := fun own φ β a w hrel Q hQ =>
  wp_seq (h own φ β a w hrel _ fun φ' β' a' w' hr hrun => by
    have := hQ φ' β' a' w' hr hrun
    cases e with
    | normal => exact absurd rfl he
    | exit i => exact this
    | ret => exact this)

/-- What is asked of what is known of loops. -/
def LoopsGood (P : Program) [Tabs P] (H : Hint) (k0 : Nat) (LP : Loops R) (c : Code) : Prop :=
  ∀ b ∈ loopsIn c, ∀ s K r, LP (firstRegion b) s K = some r → ∃ e s', K e s' = some r ∧ CodeGood P H k0 (.loop b) s e.out s'

theorem ev_sound (hE : EnvOK P E) (hg : GlobOK P E) (hm : P.follows .mixedOrders = true) {LP : Loops R} : ∀ (c : Code), LoopsGood P H k0 LP c → ∀ (s : St) (K : Ex → St → Option R) (r : R), ev E H k0 LP c s K = some r →
    ∃ e s', K e s' = some r ∧ CodeGood P H k0 c s e.out s' := by
  intro c
  induction c with
  | skip => exact fun _ s K r h => ⟨.normal, s, h, fun own φ β a w hrel Q hQ => wp_skip (hQ φ β a w hrel .refl)⟩
  | label l => exact fun _ s K r h => ⟨.normal, s, h, fun own φ β a w hrel Q hQ => wp_label (hQ φ β a w hrel .refl)⟩
  | exit id => exact fun _ s K r h => ⟨.exit id, s, h, fun own φ β a w hrel Q hQ => wp_exit (hQ φ β a w hrel .refl)⟩
  | ret => exact fun _ s K r h => ⟨.ret, s, h, fun own φ β a w hrel Q hQ => wp_ret (hQ φ β a w hrel .refl)⟩
  | region id ops draw =>
    intro _ s K r h
    unfold ev at h
    obtain ⟨s', h1, h2⟩ := regionK_sound (k0 := k0) hE hg hm h
    exact ⟨.normal, s', h1, h2⟩
  | seq x y ihx ihy =>
    intro hL s K r h
    unfold ev at h
    obtain ⟨e, s', h1, h2⟩ := ihx (fun b hb => hL b (List.mem_append_left _ hb)) s _ r h
    cases e with
    | normal =>
      obtain ⟨e2, s2, h3, h4⟩ := ihy (fun b hb => hL b (List.mem_append_right _ hb)) s' K r h1
      exact ⟨e2, s2, h3, h2.seq h4⟩
    | exit i => exact ⟨.exit i, s', h1, h2.seq_out (by simp)⟩
    | ret => exact ⟨.ret, s', h1, h2.seq_out (by simp)⟩
  | cond c x y ihx ihy =>
    intro hL s K r h
    unfold ev at h
    split at h
    · rename_i b hb
      have hc : ∀ (own : Own P) φ β a w, Rel H k0 own φ β s a w → a.eval c = .bool b := fun own φ β a w hrel => by
        have := operand_V (E := E) hg hrel.inv.laid (s := s) (a := a) (x := c) (fun t _ => hrel.slots t)
        rw [hb] at this
        exact this
      cases b with
      | true =>
        obtain ⟨e, s', h1, h2⟩ := ihx (fun b hb => hL b (List.mem_append_left _ hb)) s K r h
        exact ⟨e, s', h1, fun own φ β a w hrel Q hQ => wp_cond_true (hc own φ β a w hrel) (h2 own φ β a w hrel Q hQ)⟩
      | false =>
        obtain ⟨e, s', h1, h2⟩ := ihy (fun b hb => hL b (List.mem_append_right _ hb)) s K r h
        exact ⟨e, s', h1, fun own φ β a w hrel Q hQ => wp_cond_false (hc own φ β a w hrel) (h2 own φ β a w hrel Q hQ)⟩
    · cases h
  | block id x ih =>
    intro hL s K r h
    unfold ev at h
    obtain ⟨e, s', h1, h2⟩ := ih hL s _ r h
    cases e with
    | normal => exact ⟨.normal, s', h1, fun own φ β a w hrel Q hQ => wp_block (h2 own φ β a w hrel _ hQ)⟩
    | exit i =>
      simp only at h1
      cases hi : Nat.beq i id with
      | true =>
        rw [hi] at h1
        have := Nat.eq_of_beq_eq_true hi
        subst this
        exact ⟨.normal, s', h1, fun own φ β a w hrel Q hQ => wp_block (h2 own φ β a w hrel _ fun φ' β' a' w' hr hrun => by
          show (if i = i then _ else _)
          rw [if_pos rfl]
          exact hQ φ' β' a' w' hr hrun)⟩
      | false =>
        rw [hi] at h1
        have hne : i ≠ id := fun h => by subst h; simp [Nat.beq_refl] at hi
        exact ⟨.exit i, s', h1, fun own φ β a w hrel Q hQ => wp_block (h2 own φ β a w hrel _ fun φ' β' a' w' hr hrun => by
          show (if i = id then _ else _)
          rw [if_neg hne]
          exact hQ φ' β' a' w' hr hrun)⟩
    | ret => exact ⟨.ret, s', h1, fun own φ β a w hrel Q hQ => wp_block (h2 own φ β a w hrel _ hQ)⟩
  | scope x ih =>
    intro hL s K r h
    unfold ev at h
    obtain ⟨e, s', h1, h2⟩ := ih hL s _ r h
    refine ⟨e, s', h1, fun own φ β a w hrel Q hQ => wp_scope_straight (h2 own φ β a w hrel _ fun φ' β' a' w' hr hrun => ?_)⟩
    have := hQ φ' β' a' w' hr hrun
    cases e <;> exact this
  | loop b ih =>
    intro hL s K r h
    unfold ev at h
    split at h
    · rename_i live hlive
      obtain ⟨s2, h, ht⟩ := canonK_sound (P := P) h
      obtain ⟨e, s', h1, h2⟩ := hL b (by simp [loopsIn]) s2 K r h
      exact ⟨e, s', h1, h2.before ht⟩
    · cases h
  | rangeFunc f params assign body => intro _ s K r h; unfold ev at h; cases h
  | goto l => intro _ s K r h; unfold ev at h; cases h
  | refuse why => intro _ s K r h; unfold ev at h; cases h

theorem loopN_sound {b : Code} {live : List Nat} {step : St → (Ex → St → Option R) → Option R} (hb : ∀ s K r, step s K = some r → ∃ e s', K e s' = some r ∧ CodeGood P H k0 b s e.out s') :
    ∀ (n : Nat) (s : St) (K : Ex → St → Option R) (r : R), loopN k0 live step n s K = some r → ∃ e s', K e s' = some r ∧
      ∀ (own : Own P) φ β a w, Rel H k0 own φ β s a w → ∀ (Q : Exit → Act → World → Prop), (∀ φ' β' a' w', Rel H k0 own φ' β' s' a' w' → Run k0 own φ β w φ' β' w' → Q e.out a' w') → Code.rounds P b Q n a w
  | 0, s, K, r, h => by simp [loopN] at h
  | n + 1, s, K, r, h => by
    unfold loopN at h
    obtain ⟨e, s', h1, h2⟩ := hb _ _ _ h
    cases e with
    | normal =>
      simp only at h1
      obtain ⟨s2, h1, ht⟩ := canonK_sound (P := P) h1
      obtain ⟨e2, s3, h3, h4⟩ := loopN_sound hb n s2 K r h1
      refine ⟨e2, s3, h3, fun own φ β a w hrel Q hQ => ?_⟩
      rw [rounds_succ]
      refine h2 own φ β a w hrel _ fun φ' β' a' w' hr hrun => ?_
      obtain ⟨β2, hr2, hrun2⟩ := ht own φ' β' a' w' hr
      exact h4 own φ' β2 a' w' hr2 Q fun φ3 β3 a3 w3 hr3 hrun3 => hQ φ3 β3 a3 w3 hr3 ((hrun.trans hrun2).trans hrun3)
    | exit i =>
      obtain ⟨s2, h1, ht⟩ := canonK_sound (P := P) h1
      refine ⟨.exit i, s2, h1, fun own φ β a w hrel Q hQ => ?_⟩
      rw [rounds_succ]
      refine h2 own φ β a w hrel _ fun φ' β' a' w' hr hrun => ?_
      obtain ⟨β2, hr2, hrun2⟩ := ht own φ' β' a' w' hr
      exact hQ φ' β2 a' w' hr2 (hrun.trans hrun2)
    | ret =>
      obtain ⟨s2, h1, ht⟩ := canonK_sound (P := P) h1
      refine ⟨.ret, s2, h1, fun own φ β a w hrel Q hQ => ?_⟩
      rw [rounds_succ]
      refine h2 own φ β a w hrel _ fun φ' β' a' w' hr hrun => ?_
      obtain ⟨β2, hr2, hrun2⟩ := ht own φ' β' a' w' hr
      exact hQ φ' β2 a' w' hr2 (hrun.trans hrun2)

/-- A function's loops, by so many rounds (and so deep). -/
def loopsF (E : Env) (H : Hint) (k0 : Nat) (c : Code) : Nat → Loops R
  | 0 => fun _ _ _ => none
  | d + 1 => fun id s K => loopN k0 ((lk? H.loops id).getD []) (fun s K => ev E H k0 (loopsF E H k0 c d) (findL id (loopsIn c)) s K) d s K

/-- Each loop is found by its number, and what lies in it too. -/
def loopsOkL (c : Code) : List Code → Bool
  | [] => true
  | b :: r => Nat.beq (firstRegion (findL (firstRegion b) (loopsIn c))) (firstRegion b) && loopsOkL c r
def distinctB : List Nat → Bool
  | [] => true
  | k :: r => !has r k && distinctB r
theorem findL_mem : ∀ {l : List Code} {b : Code}, distinctB (l.map firstRegion) = true → b ∈ l → findL (firstRegion b) l = b
  | [], b, _, hb => by cases hb
  | c :: r, b, h, hb => by
    simp only [List.map_cons, distinctB, Bool.and_eq_true, Bool.not_eq_true'] at h
    simp only [findL]
    rcases List.mem_cons.1 hb with rfl | hb
    · rw [Nat.beq_refl]; rfl
    · cases he : Nat.beq (firstRegion c) (firstRegion b) with
      | true =>
        have := Nat.eq_of_beq_eq_true he
        have hm : firstRegion c ∈ r.map firstRegion := List.mem_map.2 ⟨b, hb, this.symm⟩
        have := has_mem.2 hm
        rw [h.1] at this; cases this
      | false => exact findL_mem h.2 hb
theorem loopsIn_trans : ∀ {c b x : Code}, b ∈ loopsIn c → x ∈ loopsIn b → x ∈ loopsIn c := by
  intro c
  induction c with
  | seq x y ihx ihy =>
    intro b z hb hz
    simp only [loopsIn, List.mem_append] at hb ⊢
    exact hb.imp (fun h => ihx h hz) (fun h => ihy h hz)
  | cond c x y ihx ihy =>
    intro b z hb hz
    simp only [loopsIn, List.mem_append] at hb ⊢
    exact hb.imp (fun h => ihx h hz) (fun h => ihy h hz)
  | block id x ih => intro b z hb hz; simp only [loopsIn] at hb ⊢; exact ih hb hz
  | scope x ih => intro b z hb hz; simp only [loopsIn] at hb ⊢; exact ih hb hz
  | loop x ih =>
    intro b z hb hz
    simp only [loopsIn, List.mem_cons] at hb ⊢
    rcases hb with rfl | hb
    · exact .inr hz
    · exact .inr (ih hb hz)
  | _ => intro b z hb; simp [loopsIn] at hb

theorem loopsF_good (hE : EnvOK P E) (hg : GlobOK P E) (hm : P.follows .mixedOrders = true) {c : Code} (hd : distinctB ((loopsIn c).map firstRegion) = true) :
    ∀ d, LoopsGood P H k0 (loopsF (R := R) E H k0 c d) c
  | 0 => fun b _ s K r h => by simp [loopsF] at h
  | d + 1 => fun b hb s K r h => by
    simp only [loopsF] at h
    rw [findL_mem hd hb] at h
    have ih := loopsF_good hE hg hm hd d
    obtain ⟨e, s', h1, h2⟩ := loopN_sound (b := b) (fun s K r h => ev_sound hE hg hm b (fun x hx => ih x (loopsIn_trans hb hx)) s K r h) d s K r h
    exact ⟨e, s', h1, fun own φ β a w hrel Q hQ => wp_loop_rounds d (h2 own φ β a w hrel Q hQ)⟩

/-! ### Functions -/
/-- What a call of a function leaves, told anew. -/
def finK (k0 : Nat) (v : AV) (s : St) : Option (AV × List AObj) :=
  (fun ls => cond (nodupB ls && startsNum k0 0 ls) (some (v.ren (idx ls 0), ls.map fun l => (getO s.objs l).ren (idx ls 0))) none) (reach (getO s.objs) reachFuel (List.range k0 ++ v.locs) [])

end
end Go.Sim
