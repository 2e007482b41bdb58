/-
  SimW: regions; states told anew: only some slots live, objects numbered from 0 on.
-/
import Derived.Test.YtpkjlefincabiaaDoorSimV
namespace Go.Sim
set_option linter.unusedSectionVars false
set_option linter.unusedSimpArgs false
set_option linter.unusedVariables false
section
variable {P : Program} [Tabs P] {E : Env} {H : Hint}
variable {own : Own P} {φ φ' : Nat → Nat} {β β' : Beta} {w w' : World}
variable {R : Type} {k0 : Nat}

theorem keeps_heap (h : w'.heap = w.heap) (ho : w'.os = w.os ∧ w'.output = w.output) : Keeps φ w φ w' :=
  ⟨fun _ => Nat.le_refl _, fun b o v _ hv => by rw [cell_of_heap (w := w) (w' := w') (by rw [h])]; exact hv, fun b n hr => Room.of_heap (w := w) (w' := w') (by rw [h]) hr, ho⟩
theorem WInv.heap {get : Nat → AObj} (h : w'.heap = w.heap) (ho : w'.os = w.os ∧ w'.output = w.output) (hW : WInv own φ β get w) : WInv own φ β get w' :=
  ⟨fun l => ObjRel.keep (keeps_heap h ho) (.refl _) (fun p _ => ⟨by rw [h], rfl⟩) (hW.rel l), fun l p h1 h2 => by rw [h]; exact hW.mine l p h1 h2, hW.dist, fun b hb => hW.fresh b (by rw [h] at hb; exact hb), hW.laid.keep (keeps_heap h ho)⟩
theorem Rel.heap {s : St} {a : Act} (h : w'.heap = w.heap) (ho : w'.os = w.os ∧ w'.output = w.output) (hr : Rel H k0 own φ β s a w) : Rel H k0 own φ β s a w' :=
  ⟨hr.size, hr.defers, fun x => V.keep (keeps_heap h ho) (.refl _) _ _ (hr.slots x), hr.inv.heap h ho, hr.top, hr.low⟩
theorem Run.heap (h : w'.heap = w.heap) (ho : w'.os = w.os ∧ w'.output = w.output) : Run k0 own φ β w φ β w' :=
  ⟨keeps_heap h ho, fun _ _ => rfl, by rw [h]; exact Nat.le_refl _, fun b _ _ => ⟨by rw [h], rfl⟩⟩

/-- Code, from a state on, comes to an end in another state. -/
def CodeGood (P : Program) [Tabs P] (H : Hint) (k0 : Nat) (c : Code) (s : St) (e : Exit) (s' : St) : Prop :=
  ∀ (own : Own P) φ β a w, Rel H k0 own φ β s a w → ∀ (Q : Exit → Act → World → Prop), (∀ φ' β' a' w', Rel H k0 own φ' β' s' a' w' → Run k0 own φ β w φ' β' w' → Q e a' w') → c.wp P Q a w

theorem app_nil {α : Type} {a b : List α} (h : (a ++ b).length = b.length) : a = [] := by
  cases a with
  | nil => rfl
  | cons x a => simp at h; omega
theorem Chain.grows {all : Array Oper} : ∀ {l : List Oper} {i : Nat} {s s' : St} {tr tr' : List Tr}, Chain P H all i l s tr s' tr' → ∃ x, s'.objs = x ++ s.objs
  | [], _, _, _, _, _, hC => by cases hC; exact ⟨[], rfl⟩
  | o :: l, i, s, s', tr, tr', hC => by
    cases hC with
    | cons hR hC =>
      obtain ⟨x, hx⟩ := hC.grows
      exact ⟨x ++ _, by rw [hx, hR.objs, List.append_assoc]⟩
theorem Chain.dsts {all : Array Oper} : ∀ {l : List Oper} {i : Nat} {s s' : St} {tr tr' : List Tr}, Chain P H all i l s tr s' tr' → ∀ x, (∀ o ∈ l, o.dst ≠ some x) → slotAt s' x = slotAt s x
  | [], _, _, _, _, _, hC, x, _ => by cases hC; rfl
  | o :: l, i, s, s', tr, tr', hC, x, hx => by
    cases hC with
    | cons hR hC =>
      rw [hC.dsts x (fun o' ho' => hx o' (List.mem_cons_of_mem _ ho')), hR.slots, if_neg (hx o (by simp))]

theorem opsK_sound (hE : EnvOK P E) (hg : GlobOK P E) (hm : P.follows .mixedOrders = true) {id : Nat} {ops : Array Oper} {draw : Bool} {s : St} {K : St → Option R} {r : R} (h : opsK E H ops draw s K = some r) :
    ∃ s', K s' = some r ∧ CodeGood P H k0 (.region id ops draw) s .normal s' ∧ (∃ x, s'.objs = x ++ s.objs) ∧ ∀ x, (∀ o ∈ ops.toList, o.dst ≠ some x) → slotAt s' x = slotAt s x := by
  unfold opsK at h
  obtain ⟨s', tr', h, hC⟩ := evalOps_sound hE hg ops.toList 0 s [] _ r (fun j o hj => by simpa using hj) h
  obtain ⟨hd, h⟩ := cond_none h
  refine ⟨s', h, fun own φ β a w hrel Q hQ => ?_, hC.grows, hC.dsts⟩
  cases draw with
  | false =>
    refine wp_region ?_
    have := hC.wp (own := own) (Q := Q) (by simp) hrel hQ
    rw [List.range_eq_range']
    simpa using this
  | true =>
    simp only [Bool.not_true, Bool.false_or, drawOk, Bool.and_eq_true] at hd
    obtain ⟨⟨⟨h1, h2⟩, h3⟩, h4⟩ := hd
    refine wp_region_any hm ?_
    obtain ⟨S, T, U, Pt, e1, e2, e3, _, e5, _, e7⟩ := hC.line h2
    simp only [Nat.zero_add, Array.length_toList] at e1 e2 e3 e5 e7
    have hG : Good P H ops S T U Pt := {
      line := fun i o hi => e3 i o (by simpa using hi)
      pairs := fun i j hij hj => e7 i j hij hj
      slots := fun i j x y hij hx hy => by
        have := slots_spec h3 j y (by simpa using hy) i x (by omega) hx
        simpa using this
      new := fun i hi l l1 l2 => by
        have := List.all_eq_true.1 h1 (T i) (e5 i hi)
        exact newIn_spec this l l1 (by omega)
      edges := fun j b hb e he hbi => by
        have := edges_spec h4 j b (by simpa using hb) e he hbi
        omega }
    have hrel' : Rel H k0 own φ β s a { w with drawn := w.drawn + 1 } := Rel.heap (w := w) rfl ⟨rfl, rfl⟩ hrel
    subst e1
    rw [← e2] at hQ
    refine hG.any (k0 := k0) (own := own) (fun l hl => (hrel.top l hl).1) hrel.low (φ0 := φ) (β0 := β) (w0 := w) hQ ops.size _ φ β a _ (by simp) ?_ ?_ (.heap rfl ⟨rfl, rfl⟩)
    · unfold left
      exact Nat.le_trans (List.length_filter_le _ _) (by simp)
    · have e0 : ∀ i, (Array.replicate ops.size false).getD i false = false := fun i => by simp only [Array.getD_eq_getD_getElem?, Array.getElem?_replicate]; split <;> rfl
      have e00 : (fun i => (Array.replicate ops.size false).getD i false) = fun _ => false := funext e0
      rw [e00]
      refine ⟨hrel'.size, hrel'.defers, fun x => ?_, ?_, fun l hl _ => (hrel'.top l hl).2, fun j o _ hl => by cases hl⟩
      · have : ∀ n, slotL (fun _ => false) ops U (S 0) n x = slotAt (S 0) x := fun n => by
          induction n with
          | zero => rfl
          | succ n ih => simp only [slotL]; rw [ih]; simp
        rw [this]; exact hrel'.slots x
      · have : getL (fun _ => false) Pt (getO (S 0).objs) ops.size = getO (S 0).objs := funext fun l => get_none _
        rw [this]; exact hrel'.inv

theorem lk_app {β : Type} (d : β) (a b : List (Nat × β)) (x : Nat) : lk d (a ++ b) x = (lk? a x).getD (lk d b x) := lk_append d a b x

theorem regionK_sound (hE : EnvOK P E) (hg : GlobOK P E) (hm : P.follows .mixedOrders = true) {id : Nat} {ops : Array Oper} {draw : Bool} {s : St} {K : St → Option R} {r : R} (h : regionK E H id ops draw s K = some r) :
    ∃ s', K s' = some r ∧ CodeGood P H k0 (.region id ops draw) s .normal s' := by
  unfold regionK at h
  split at h
  · rename_i c hc
    obtain ⟨b, hb, h⟩ := bind_some h
    refine ⟨_, h, fun own φ β a w hrel Q hQ => ?_⟩
    obtain ⟨s', hb, hG, ⟨x, hx⟩, hsl⟩ := opsK_sound (k0 := k0) (id := id) hE hg hm hb
    obtain ⟨hbb, hb⟩ := cond_none hb
    simp only [Bool.and_eq_true] at hbb
    have hlen := Nat.eq_of_beq_eq_true hbb.1
    have hnx := Nat.eq_of_beq_eq_true hbb.2
    obtain rfl : x = [] := app_nil (b := s.objs) (by rw [← hx]; exact hlen)
    simp only [List.nil_append] at hx
    split at hb
    · rename_i b' hb'
      simp at hb
      subst hb
      refine hG own φ β a w hrel Q fun φ' β' a' w' hrel' hrun => hQ φ' β' a' w' ⟨hrel'.size, hrel'.defers, fun y => ?_, by simpa only [← hx] using hrel'.inv, ?_, by have := hrel'.low; rw [hnx] at this; exact this⟩ hrun
      · have hy := hrel'.slots y
        unfold slotAt
        rw [List.cons_append, lk]
        cases hcy : Nat.beq c y with
        | true =>
          obtain rfl := Nat.eq_of_beq_eq_true hcy
          unfold slotAt at hy
          rw [hb'] at hy
          exact hy
        | false =>
          rw [cond_false, lk_app]
          by_cases hm : ∃ o ∈ ops.toList, o.dst = some y
          · have : lk? ((ops.toList.filterMap (·.dst)).map fun d => (d, AV.undef)) y = some .undef := by
              obtain ⟨o, ho, hd⟩ := hm
              have hmem : y ∈ ops.toList.filterMap (·.dst) := List.mem_filterMap.2 ⟨o, ho, hd⟩
              generalize ops.toList.filterMap (·.dst) = l at hmem
              clear hb' hy hcy
              induction l with
              | nil => cases hmem
              | cons d l ih =>
                simp only [List.map_cons, lk?]
                cases hdy : Nat.beq d y with
                | true => rfl
                | false =>
                  simp only [cond_false]
                  rcases List.mem_cons.1 hmem with rfl | hmem
                  · rw [Nat.beq_refl] at hdy; cases hdy
                  · exact ih hmem
            rw [this]
            simp [V]
          · have hno : ∀ o ∈ ops.toList, o.dst ≠ some y := fun o ho hd => hm ⟨o, ho, hd⟩
            have : lk? ((ops.toList.filterMap (·.dst)).map fun d => (d, AV.undef)) y = none := by
              have hmem : y ∉ ops.toList.filterMap (·.dst) := fun h => by
                obtain ⟨o, ho, hd⟩ := List.mem_filterMap.1 h
                exact hno o ho hd
              generalize ops.toList.filterMap (·.dst) = l at hmem
              clear hb' hy hcy
              induction l with
              | nil => rfl
              | cons d l ih =>
                simp only [List.mem_cons, not_or] at hmem
                simp only [List.map_cons, lk?]
                cases hdy : Nat.beq d y with
                | true => exact absurd (Nat.eq_of_beq_eq_true hdy).symm hmem.1
                | false => simp only [cond_false]; exact ih hmem.2
            rw [this]
            simp only [Option.getD_none]
            have e := hsl y hno
            rw [e] at hy
            exact hy
      · intro l hl
        have := hrel'.top l (by rw [hnx]; exact hl)
        rw [hx] at this
        exact this
    · cases hb
  · obtain ⟨s', h1, h2, _⟩ := opsK_sound (k0 := k0) (id := id) hE hg hm h
    exact ⟨s', h1, h2⟩
end
end Go.Sim
