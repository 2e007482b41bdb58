/-
  SimPa: objects numbered anew: what a value says, what an object says, is the same.
-/
import Derived.Test.YtpkjlefincabiaaDoorSimP
namespace Go.Sim
set_option linter.unusedSectionVars false
set_option linter.unusedSimpArgs false
set_option linter.unusedVariables false
theorem has_mem : ∀ {l : List Nat} {x : Nat}, has l x = true ↔ x ∈ l
  | [], x => by simp [has]
  | k :: r, x => by
    simp only [has, List.mem_cons]
    cases hb : Nat.beq k x with
    | true => simp [(Nat.eq_of_beq_eq_true hb)]
    | false =>
      have : k ≠ x := fun h => by subst h; simp [Nat.beq_refl] at hb
      simp only [cond_false]
      rw [has_mem]
      constructor
      · exact .inr
      · rintro (h | h)
        · exact absurd h.symm this
        · exact h
theorem cond_none {α : Type} {c : Bool} {x : Option α} {r : α} (h : cond c x none = some r) : c = true ∧ x = some r := by
  cases c with
  | true => exact ⟨rfl, h⟩
  | false => cases h
theorem bind_some {α β : Type} {x : Option α} {f : α → Option β} {r : β} (h : x.bind f = some r) : ∃ a, x = some a ∧ f a = some r := Option.bind_eq_some_iff.1 h

section
variable {P : Program} [Tabs P]
variable {own : Own P} {φ φ' : Nat → Nat} {β β' β2 : Beta} {w w' : World}

mutual
theorem V.ren {f : Nat → Option Nat} (hf : ∀ l m, f l = some m → β2 m = β l) : ∀ (c : AV) (v : Value), V φ β w c v → V φ β2 w (c.ren f) v
  | .bool _, _, h => h
  | .int _ _, _, h => h
  | .str _, _, h => h
  | .nilp, _, h => h
  | .ptr l e j, v, h => by
    simp only [AV.ren]
    cases hl : f l with
    | none => simp [V]
    | some m =>
      simp only [V] at h ⊢
      obtain ⟨p, h1, h2⟩ := h
      exact ⟨p, by rw [hf l m hl]; exact h1, h2⟩
  | .eptr cs, v, h => by
    simp only [AV.ren, V] at h ⊢
    obtain ⟨a, vs, h1, h2, h3, h4⟩ := h
    exact ⟨a, vs, h1, h2, VL.ren hf cs vs h3, h4⟩
  | .vl _ _, _, h => by simpa only [AV.ren, V] using h
  | .ap _ _, _, h => by simpa only [AV.ren, V] using h
  | .nils, _, h => h
  | .hw l, v, h => by
    simp only [AV.ren]
    cases hl : f l with
    | none => simp [V]
    | some m =>
      simp only [V] at h ⊢
      rw [hf l m hl]; exact h
  | .hs l o n, v, h => by
    simp only [AV.ren]
    cases hl : f l with
    | none => simp [V]
    | some m =>
      simp only [V] at h ⊢
      rw [hf l m hl]; exact h
  | .agg cs, v, h => by
    simp only [AV.ren, V] at h ⊢
    obtain ⟨vs, h1, h2⟩ := h
    exact ⟨vs, h1, VL.ren hf cs vs h2⟩
  | .tup cs, v, h => by
    simp only [AV.ren, V] at h ⊢
    obtain ⟨vs, h1, h2⟩ := h
    exact ⟨vs, h1, VL.ren hf cs vs h2⟩
  | .iface t c, v, h => by
    simp only [AV.ren, V] at h ⊢
    obtain ⟨u, h1, h2⟩ := h
    exact ⟨u, h1, V.ren hf c u h2⟩
  | .nilif, _, h => h
  | .fn g first cap, v, h => by
    simp only [AV.ren, V] at h ⊢
    obtain ⟨us, vs, h1, h2, h3⟩ := h
    exact ⟨us, vs, h1, VL.ren hf first us h2, VL.ren hf cap vs h3⟩
  | .mp l, v, h => by
    simp only [AV.ren]
    cases hl : f l with
    | none => simp [V]
    | some m =>
      simp only [V] at h ⊢
      obtain ⟨p, h1, h2⟩ := h
      exact ⟨p, by rw [hf l m hl]; exact h1, h2⟩
  | .it l, v, h => by
    simp only [AV.ren]
    cases hl : f l with
    | none => simp [V]
    | some m =>
      simp only [V] at h ⊢
      obtain ⟨p, h1, h2⟩ := h
      exact ⟨p, by rw [hf l m hl]; exact h1, h2⟩
  | .undef, _, _ => by simp [AV.ren, V]
theorem VL.ren {f : Nat → Option Nat} (hf : ∀ l m, f l = some m → β2 m = β l) : ∀ (cs : List AV) (vs : List Value), VL φ β w cs vs → VL φ β2 w (renL f cs) vs
  | [], _, h => h
  | c :: cs, vs, h => by
    simp only [VL, renL] at h ⊢
    obtain ⟨u, us, h1, h2, h3⟩ := h
    exact ⟨u, us, h1, V.ren hf c u h2, VL.ren hf cs us h3⟩
end

theorem renLL_get (f : Nat → Option Nat) : ∀ (l : List (List AV)) (q : Nat), (renLL f l)[q]? = (l[q]?).map (renL f)
  | [], q => by simp [renLL]
  | c :: l, 0 => by simp [renLL]
  | c :: l, q + 1 => by simp [renLL, renLL_get f l q]
theorem renLL_length (f : Nat → Option Nat) : ∀ (l : List (List AV)), (renLL f l).length = l.length
  | [] => rfl
  | c :: l => by simp [renLL, renLL_length f l]
theorem renL_length (f : Nat → Option Nat) : ∀ (l : List AV), (renL f l).length = l.length
  | [] => rfl
  | c :: l => by simp [renL, renL_length f l]

theorem ObjRel.ren {f : Nat → Option Nat} (hf : ∀ l m, f l = some m → β2 m = β l) {l m : Nat} (hl : β2 m = β l) {ob : AObj} (h : ObjRel φ β w l ob) : ObjRel φ β2 w m (ob.ren f) := by
  cases ob with
  | dead => trivial
  | arr sz t xs tail =>
    simp only [AObj.ren, ObjRel, hl] at h ⊢
    rcases hb : β l with _ | (_ | p)
    · simp only [hb] at h
    · simp only [hb] at h ⊢
      refine ⟨h.1, ?_⟩
      rw [h.2]; rfl
    · simp only [hb] at h ⊢
      obtain ⟨h1, h2, h3, hM, h4, h5, h6, h7, h8, h9⟩ := h
      refine ⟨h1, h2, by rw [renLL_length]; exact h3, hM, h4, h5, h6, h7, h8, fun q e hq => ?_⟩
      rw [renLL_get] at hq
      obtain ⟨e0, he0, rfl⟩ := Option.map_eq_some_iff.1 hq
      obtain ⟨g1, ds, g2, g3⟩ := h9 q e0 he0
      exact ⟨by rw [renL_length]; exact g1, ds, VL.ren hf _ _ g2, g3⟩
  | map kt vt es =>
    simp only [AObj.ren, ObjRel, hl] at h ⊢
    exact h
  | siter s pos =>
    simp only [AObj.ren, ObjRel, hl] at h ⊢
    exact h

theorem idx_some : ∀ {ls : List Nat} {i l m : Nat}, idx ls i l = some m → i ≤ m ∧ ls[m - i]? = some l
  | [], i, l, m, h => by simp [idx] at h
  | k :: r, i, l, m, h => by
    simp only [idx] at h
    cases hb : Nat.beq k l with
    | true =>
      rw [hb] at h
      simp at h
      subst h
      exact ⟨Nat.le_refl _, by simp [Nat.eq_of_beq_eq_true hb]⟩
    | false =>
      rw [hb] at h
      obtain ⟨h1, h2⟩ := idx_some h
      refine ⟨by omega, ?_⟩
      rw [show m - i = (m - (i + 1)) + 1 from by omega]
      simpa using h2
theorem nodupB_spec : ∀ {ls : List Nat}, nodupB ls = true → ∀ (i j x : Nat), ls[i]? = some x → ls[j]? = some x → i = j
  | [], _, i, j, x, hi, _ => by simp at hi
  | k :: r, h, i, j, x, hi, hj => by
    simp only [nodupB, Bool.and_eq_true, Bool.not_eq_true'] at h
    have hk : k ∉ r := fun hm => by have := has_mem.2 hm; rw [h.1] at this; cases this
    cases i with
    | zero =>
      simp at hi
      subst hi
      cases j with
      | zero => rfl
      | succ j => simp at hj; exact absurd (List.mem_of_getElem? hj) hk
    | succ i =>
      cases j with
      | zero => simp at hj hi; subst hj; exact absurd (List.mem_of_getElem? hi) hk
      | succ j => simp at hi hj; rw [nodupB_spec h.2 i j x hi hj]
theorem startsNum_spec : ∀ {k i : Nat} {ls : List Nat}, startsNum k i ls = true → k ≤ ls.length ∧ ∀ j, j < k → ls[j]? = some (i + j)
  | 0, i, ls, _ => ⟨Nat.zero_le _, fun j hj => by omega⟩
  | k + 1, i, [], h => by simp [startsNum] at h
  | k + 1, i, l :: r, h => by
    simp only [startsNum, Bool.and_eq_true] at h
    obtain ⟨h1, h2⟩ := startsNum_spec h.2
    refine ⟨by simp; exact h1, fun j hj => ?_⟩
    cases j with
    | zero => simp [Nat.eq_of_beq_eq_true h.1]
    | succ j => simp; rw [h2 j (by omega)]; congr 1; omega

theorem lk_numbered {β : Type} (d : β) : ∀ (l : List β) (i k : Nat), lk d (numbered i l) k = if i ≤ k then (l[k - i]?).getD d else d
  | [], i, k => by simp [numbered, lk]
  | x :: r, i, k => by
    simp only [numbered, lk]
    cases hb : Nat.beq i k with
    | true => have := Nat.eq_of_beq_eq_true hb; subst this; simp
    | false =>
      have hne : i ≠ k := fun h => by subst h; simp [Nat.beq_refl] at hb
      simp only [cond_false]
      rw [lk_numbered d r (i + 1) k]
      by_cases h1 : i + 1 ≤ k
      · have h2 : i ≤ k := by omega
        rw [if_pos h1, if_pos h2, show k - i = (k - (i + 1)) + 1 from by omega]; simp
      · have h2 : ¬ i ≤ k := by omega
        rw [if_neg h1, if_neg h2]
theorem getO_numbered (l : List AObj) (k : Nat) : getO (numbered 0 l) k = (l[k]?).getD .dead := by
  unfold getO; rw [lk_numbered]; simp
/-- The numbering anew. -/
def subB (ls : List Nat) (β : Beta) : Beta := fun i => match ls[i]? with
  | some l => β l
  | none => none
theorem subB_idx {ls : List Nat} {β : Beta} : ∀ l m, idx ls 0 l = some m → subB ls β m = β l := fun l m h => by
  have := (idx_some h).2
  unfold subB
  rw [show m - 0 = m from rfl] at this
  rw [this]

theorem WInv.sub {get : Nat → AObj} (hW : WInv own φ β get w) {ls : List Nat} (hn : nodupB ls = true) :
    WInv own φ (subB ls β) (getO (numbered 0 (ls.map fun l => (get l).ren (idx ls 0)))) w := by
  have hg : ∀ m, getO (numbered 0 (ls.map fun l => (get l).ren (idx ls 0))) m = match ls[m]? with | some l => (get l).ren (idx ls 0) | none => .dead := fun m => by
    rw [getO_numbered]
    simp only [List.getElem?_map]
    cases ls[m]? <;> rfl
  have hd : ∀ m, getO (numbered 0 (ls.map fun l => (get l).ren (idx ls 0))) m ≠ .dead → ∃ l, ls[m]? = some l ∧ get l ≠ .dead := fun m hm => by
    rw [hg] at hm
    cases hl : ls[m]? with
    | none => rw [hl] at hm; exact absurd rfl hm
    | some l => rw [hl] at hm; exact ⟨l, rfl, fun h => hm (by simp [h, AObj.ren])⟩
  refine ⟨fun m => ?_, fun m p hm hp => ?_, fun m m' p q hne h1 h2 h3 h4 => ?_, hW.fresh, hW.laid⟩
  · rw [hg]
    cases hl : ls[m]? with
    | none => trivial
    | some l => exact ObjRel.ren subB_idx (by simp [subB, hl]) (hW.rel l)
  · obtain ⟨l, hl, hlive⟩ := hd m hm
    exact hW.mine l p hlive (by simpa [subB, hl] using hp)
  · obtain ⟨l, hl, hlive⟩ := hd m h1
    obtain ⟨l', hl', hlive'⟩ := hd m' h2
    refine hW.dist l l' p q (fun h => ?_) hlive hlive' (by simpa [subB, hl] using h3) (by simpa [subB, hl'] using h4)
    subst h
    exact hne (nodupB_spec hn m m' l hl hl')


mutual
theorem V.closed (β2 : Beta) : ∀ (c : AV) (v : Value), c.closed = true → V φ β w c v → V φ β2 w c v
  | .bool _, _, _, h => h
  | .int _ _, _, _, h => h
  | .str _, _, _, h => h
  | .nilp, _, _, h => h
  | .ptr _ _ _, v, hc, _ => by simp [AV.closed] at hc
  | .eptr cs, v, hc, h => by
    simp only [AV.closed] at hc
    simp only [V] at h ⊢
    obtain ⟨a, vs, h1, h2, h3, h4⟩ := h
    exact ⟨a, vs, h1, h2, VL.closed β2 cs vs hc h3, h4⟩
  | .vl _ _, _, _, h => by simpa only [V] using h
  | .ap _ _, _, _, h => by simpa only [V] using h
  | .nils, _, _, h => h
  | .hw _, v, hc, _ => by simp [AV.closed] at hc
  | .hs _ _ _, v, hc, _ => by simp [AV.closed] at hc
  | .agg cs, v, hc, h => by
    simp only [AV.closed] at hc
    simp only [V] at h ⊢
    obtain ⟨vs, h1, h2⟩ := h
    exact ⟨vs, h1, VL.closed β2 cs vs hc h2⟩
  | .tup cs, v, hc, h => by
    simp only [AV.closed] at hc
    simp only [V] at h ⊢
    obtain ⟨vs, h1, h2⟩ := h
    exact ⟨vs, h1, VL.closed β2 cs vs hc h2⟩
  | .iface t c, v, hc, h => by
    simp only [AV.closed] at hc
    simp only [V] at h ⊢
    obtain ⟨u, h1, h2⟩ := h
    exact ⟨u, h1, V.closed β2 c u hc h2⟩
  | .nilif, _, _, h => h
  | .fn g first cap, v, hc, h => by
    simp only [AV.closed, Bool.and_eq_true] at hc
    simp only [V] at h ⊢
    obtain ⟨us, vs, h1, h2, h3⟩ := h
    exact ⟨us, vs, h1, VL.closed β2 first us hc.1 h2, VL.closed β2 cap vs hc.2 h3⟩
  | .mp _, v, hc, _ => by simp [AV.closed] at hc
  | .it _, v, hc, _ => by simp [AV.closed] at hc
  | .undef, _, _, _ => by simp [V]
theorem VL.closed (β2 : Beta) : ∀ (cs : List AV) (vs : List Value), closedL cs = true → VL φ β w cs vs → VL φ β2 w cs vs
  | [], _, _, h => h
  | c :: cs, vs, hc, h => by
    simp only [closedL, Bool.and_eq_true] at hc
    simp only [VL] at h ⊢
    obtain ⟨u, us, h1, h2, h3⟩ := h
    exact ⟨u, us, h1, V.closed β2 c u hc.1 h2, VL.closed β2 cs us hc.2 h3⟩
end
end
end Go.Sim
