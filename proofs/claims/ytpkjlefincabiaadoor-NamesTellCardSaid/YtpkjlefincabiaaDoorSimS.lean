/-
  SimS: an operation with its guard, and how its value is told from then on.
-/
import Derived.Test.YtpkjlefincabiaaDoorSimR
namespace Go.Sim
set_option linter.unusedSectionVars false
set_option linter.unusedSimpArgs false
set_option linter.unusedVariables false
section
variable {P : Program} [Tabs P]
variable {own : Own P} {φ φ' : Nat → Nat} {β β' : Beta} {w w' : World}
variable {R : Type}

theorem elems_hw {get : Nat → AObj} {t : Ty} {l : Nat} {ys : List t.den} {rd : List Nat} (he : elems get t (.hw l) = some (ys, rd)) (hrel : ObjRel φ β w l (get l)) :
    rd = [l] ∧ get l ≠ .dead ∧ ((β l = some none ∧ ys = []) ∨ ∃ p, β l = some (some p) ∧ p.len = ys.length ∧ p.len ≤ maxL ∧ p.sz = t.sz ∧ φ p.block = 0 ∧ Free w p.block ∧ Room w p.block (p.off + p.len * t.sz) ∧
      ∀ i y, ys[i]? = some y → ∃ ds, Vt φ w t y ds ∧ CellsAt w p.block (p.off + i * t.sz) ds) := by
  simp only [elems] at he
  cases hg : get l with
  | arr sz t' xs tail =>
    rw [hg] at he hrel
    simp only at he
    obtain ⟨hs, he⟩ := cond_none he
    have hsz : sz = t.sz := Nat.eq_of_beq_eq_true hs
    have key : ∀ (xs' : List t.den) (ys' : List t.den), ObjRel φ β w l (.arr sz t xs' tail) → decAll t tail = some ys' → ys = xs' ++ ys' →
        ((β l = some none ∧ ys = []) ∨ ∃ p, β l = some (some p) ∧ p.len = ys.length ∧ p.len ≤ maxL ∧ p.sz = t.sz ∧ φ p.block = 0 ∧ Free w p.block ∧ Room w p.block (p.off + p.len * t.sz) ∧
          ∀ i y, ys[i]? = some y → ∃ ds, Vt φ w t y ds ∧ CellsAt w p.block (p.off + i * t.sz) ds) := by
      intro xs' ys' hrel hd hys
      subst hys
      have hrel' := hrel
      rcases hb : β l with _ | (_ | p)
      · simp only [ObjRel, hb] at hrel
      · simp only [ObjRel, hb] at hrel
        obtain ⟨rfl, rfl⟩ := hrel
        simp [decAll] at hd
        subst hd
        exact .inl ⟨rfl, rfl⟩
      · simp only [ObjRel, hb] at hrel
        obtain ⟨h1, h2, h3, hM, h4, h5, h6, h7, _⟩ := hrel
        have hl := (decAll_sound (i := 0) (y := t.zero) hd).1
        exact .inr ⟨p, rfl, by rw [h3]; simp [hl], hM, by rw [h1, hsz], h5, h6, by rw [← hsz]; exact h7, obj_elems hrel' hb hd hsz⟩
    refine ⟨?_, (by intro h; cases h), ?_⟩
    · split at he
      · split at he
        · simp at he; exact he.2.symm
        · obtain ⟨_, _, he⟩ := bind_some he; simp at he; exact he.2.symm
      · split at he
        · obtain ⟨_, _, he⟩ := bind_some he; simp at he; exact he.2.symm
        · cases he
    · split at he
      · rename_i ht
        subst ht
        split at he
        · simp at he
          exact key xs [] hrel rfl (by simp [he.1])
        · rename_i c cs
          obtain ⟨zs, hz, he⟩ := bind_some he
          simp at he
          exact key xs zs hrel hz he.1.symm
      · rename_i ht
        split at he
        · obtain ⟨zs, hz, he⟩ := bind_some he
          simp at he
          refine key [] zs ?_ hz (by simpa using he.1.symm)
          rcases hb : β l with _ | (_ | p)
          · simp only [ObjRel, hb] at hrel
          · simp only [ObjRel, hb] at hrel ⊢
            exact ⟨by simp, hrel.2⟩
          · simp only [ObjRel, hb] at hrel ⊢
            obtain ⟨h1, h2, h3, hM, h4, h5, h6, h7, h8, h9⟩ := hrel
            exact ⟨h1, by simpa using h2, by simpa using h3, hM, by simp, h5, h6, h7, by simp, by simpa using h9⟩
        · cases he
  | _ => rw [hg] at he; simp at he

/-- What is asked of the telling of a value. -/
def AdjGood (P : Program) [Tabs P] (get : Nat → AObj) (nx : Nat) (v v' : AV) (pat : List (Nat × AObj)) (rd : List Nat) (nx' : Nat) : Prop :=
  nx ≤ nx' ∧ ∀ (own : Own P) get' φ β w u, (∀ l, l ∈ rd → get' l = get l) → (∀ l, nx ≤ l → l < nx' → get' l = .dead ∧ β l = none) → V φ β w v u → WInv own φ β get' w →
    ∃ φ' β', Step own (fun l => nx ≤ l ∧ l < nx') φ β w φ' β' w ∧ V φ' β' w v' u ∧ WInv own φ' β' (upd pat get') w

theorem AdjGood.same {get : Nat → AObj} {nx : Nat} {v : AV} : AdjGood P get nx v v [] [] nx :=
  ⟨Nat.le_refl _, fun own get' φ β w u _ _ hV hW => ⟨φ, β, .refl, hV, by rw [upd_nil]; exact hW⟩⟩

theorem keeps_settle {b n : Nat} (h0 : φ b = 0) : Keeps φ w (fun c => if c = b then n else φ c) w :=
  ⟨fun c => by by_cases h : c = b <;> simp [h, h0], fun c o v _ hv => hv, fun _ _ h => h, rfl, rfl⟩

theorem adj_freeze {get : Nat → AObj} {nx l : Nat} {t : Ty} {xs : List t.den} {rd : List Nat} (he : elems get t (.hw l) = some (xs, rd)) : AdjGood P get nx (.hw l) (.vl t xs) [(l, .dead)] [l] nx := by
  refine ⟨Nat.le_refl _, fun own get' φ β w u hget _ hV hW => ?_⟩
  have hgl := hget l (by simp)
  have he' : elems get' t (.hw l) = some (xs, rd) := by rw [← he]; simp only [elems, hgl]
  obtain ⟨_, hlive, h⟩ := elems_hw he' (hW.rel l)
  rcases h with ⟨hβ, rfl⟩ | ⟨p, hβ, hlen, hLM, hsz, hφ, hfree, hroom, hel⟩
  · refine ⟨φ, β, .refl, ?_, hW.kill l⟩
    simp only [V, hβ] at hV
    obtain ⟨A, rfl⟩ := hV
    exact ⟨Nat.zero_le _, A, 0, rfl, Nat.le_refl _, fun i x hx => by simp at hx⟩
  · have hm := hW.mine l p hlive hβ
    have hk := keeps_settle (w := w) (n := p.off + p.len * t.sz) hφ
    refine ⟨fun c => if c = p.block then p.off + p.len * t.sz else φ c, β, ⟨hk, .refl _, fun _ _ => rfl, Nat.le_refl _, fun b hb hnb => ⟨rfl, by
      have : b ≠ p.block := fun e => hnb (by rw [e]; exact hm.1)
      simp [this]⟩⟩, ?_, ?_⟩
    · simp only [V, hβ] at hV
      obtain ⟨cap, rfl, hcap, hroom'⟩ := hV
      simp only [V, Vt]
      refine ⟨by omega, some ⟨p.block, p.off, none⟩, cap, by rw [hlen], by omega, fun i x hx => ?_⟩
      obtain ⟨ds, h1, h2⟩ := hel i x hx
      have hi : i < p.len := by rw [hlen]; exact (List.getElem?_eq_some_iff.1 hx).1
      have hle : (i + 1) * t.sz ≤ p.len * t.sz := Nat.mul_le_mul_right _ hi
      rw [Nat.add_mul] at hle
      have hdl := Vt.length _ _ _ h1
      refine ⟨⟨p.block, p.off, none⟩, ds, rfl, rfl, Vt.keep hk _ _ _ h1, fun j v hj => ⟨h2 j v hj, ?_⟩⟩
      have hjl := (List.getElem?_eq_some_iff.1 hj).1
      simp
      omega
    · exact hW.change hk (.refl _) (Nat.le_refl _) l .dead (fun m hm' hd q hq => ⟨rfl, by
        have : q.block ≠ p.block := hW.dist m l q p hm' hd hlive hq hβ
        simp [this]⟩) trivial (fun _ _ => rfl) (fun h => absurd rfl h) (fun b hb => by
        have : b ≠ p.block := by omega
        simp [this]; exact (hW.fresh b hb).2)

theorem WInv.addNone {get : Nat → AObj} (hW : WInv own φ β get w) {l sz : Nat} {t : Ty} (hl : β l = none) {new : Nat → Prop} (hn : new l) :
    Step own new φ β w φ (setB β l none) w ∧ WInv own φ (setB β l none) (upd [(l, .arr sz t [] [])] get) w := by
  refine ⟨⟨.refl _ _, ext_setB hl, fun m hm => by unfold setB; rw [if_neg (by intro e; subst e; exact hm hn)], Nat.le_refl _, fun _ _ _ => ⟨rfl, rfl⟩⟩, ?_⟩
  refine hW.change (.refl _ _) (ext_setB hl) (Nat.le_refl _) l _ (fun _ _ _ _ _ => ⟨rfl, rfl⟩) (by simp [ObjRel, setB]) (fun m hm => by unfold setB; rw [if_neg hm]) (fun _ p hp => by simp [setB] at hp) (fun b hb => (hW.fresh b hb).2)

theorem adj_thaw {get : Nat → AObj} {nx sz : Nat} {t : Ty} : AdjGood P get nx .nils (.hw nx) [(nx, .arr sz t [] [])] [] (nx + 1) := by
  refine ⟨Nat.le_succ _, fun own get' φ β w u hget hfr hV hW => ?_⟩
  have hl := (hfr nx (Nat.le_refl _) (by omega)).2
  obtain ⟨h1, h2⟩ := hW.addNone (sz := sz) (t := t) hl (new := fun l => nx ≤ l ∧ l < nx + 1) ⟨Nat.le_refl _, by omega⟩
  refine ⟨φ, _, h1, ?_, h2⟩
  simp only [V] at hV ⊢
  simpa [setB] using hV

theorem adj_retype {get : Nat → AObj} {nx l : Nat} {t : Ty} {sz : Nat} {xs : List t.den} {rd : List Nat} (he : elems get t (.hw l) = some (xs, rd)) {t' : Ty} {xs' : List t'.den} {tail : List (List AV)} (hg : get l = .arr sz t' xs' tail) (hsz : sz = t.sz) :
    AdjGood P get nx (.hw l) (.hw nx) [(nx, .arr sz t xs []), (l, .dead)] [l] (nx + 1) := by
  refine ⟨Nat.le_succ _, fun own get' φ β w u hget hfr hV hW => ?_⟩
  have hgl := hget l (by simp)
  have he' : elems get' t (.hw l) = some (xs, rd) := by rw [← he]; simp only [elems, hgl]
  obtain ⟨_, hlive, h⟩ := elems_hw he' (hW.rel l)
  obtain ⟨hdead, hl⟩ := hfr nx (Nat.le_refl _) (by omega)
  have hne : l ≠ nx := fun e => hlive (e ▸ hdead)
  have hK := hW.kill l
  rw [two_patch]
  rcases h with ⟨hβ, rfl⟩ | ⟨p, hβ, hlen, hLM, hszp, hφ, hfree, hroom, hel⟩
  · obtain ⟨h1, h2⟩ := hK.addNone (sz := sz) (t := t) hl (new := fun l => nx ≤ l ∧ l < nx + 1) ⟨Nat.le_refl _, by omega⟩
    refine ⟨φ, _, h1, ?_, h2⟩
    simp only [V, hβ] at hV
    simp only [V]
    simpa [setB] using hV
  · have hm := hW.mine l p hlive hβ
    obtain ⟨q, hq⟩ : ∃ q : Place, q = { p with nty := xs.length } := ⟨_, rfl⟩
    refine ⟨φ, setB β nx (some q), ⟨.refl _ _, ext_setB hl, fun m hm => by unfold setB; rw [if_neg (by intro e; subst e; exact hm ⟨Nat.le_refl _, by omega⟩)], Nat.le_refl _, fun _ _ _ => ⟨rfl, rfl⟩⟩, ?_, ?_⟩
    · simp only [V, hβ] at hV
      obtain ⟨cap, rfl, hcap, hroom'⟩ := hV
      simp only [V, setB, if_true]
      rw [hq]
      exact ⟨cap, rfl, hcap, hroom'⟩
    · have hx := ext_setB (x := some q) hl
      refine hK.change (.refl _ _) hx (Nat.le_refl _) nx _ (fun _ _ _ _ _ => ⟨rfl, rfl⟩) ?_ (fun m hm => by unfold setB; rw [if_neg hm]) ?_ (fun b hb => (hW.fresh b hb).2)
      · simp only [ObjRel, setB, if_true]
        rw [hq]
        simp only
        refine ⟨by rw [hszp, hsz], by simp, by simp [hlen], hLM, fun _ => hsz, hφ, hfree, by rw [hsz]; exact hroom, fun i x hi => ?_, fun i x hi => by simp at hi⟩
        obtain ⟨ds, h1, h2⟩ := hel i x hi
        exact ⟨ds, h1, by rw [hsz]; exact h2⟩
      · intro _ r hr
        simp only [setB, if_true, Option.some.injEq] at hr
        subst hr
        rw [hq]
        refine ⟨hm.1, hm.2, fun m hm' hd r hr => ?_⟩
        by_cases e : l = m
        · subst e; rw [upd_one] at hd; simp at hd
        · rw [upd_one, if_neg e] at hd
          exact hW.dist m l r p (Ne.symm e) hd hlive hr hβ

theorem adjK_sound {E : Env} {H : Hint} {o : Oper} {get : Nat → AObj} {nx : Nat} {v : AV} {K : AV → List (Nat × AObj) → List Nat → Nat → Option R} {r : R} (h : adjK E H o get nx v K = some r) :
    ∃ v' pat rd nx', K v' pat rd nx' = some r ∧ AdjGood P get nx v v' pat rd nx' := by
  unfold adjK at h
  split at h
  · exact ⟨_, _, _, _, h, .same⟩
  · rename_i d hd
    cases hvs : has H.vs d with
    | true =>
      rw [hvs] at h
      simp only [cond_true] at h
      split at h
      · split at h
        · obtain ⟨t, ht, h⟩ := bind_some h
          split at h
          · rename_i l
            obtain ⟨⟨xs, rd⟩, he, h⟩ := bind_some h
            exact ⟨_, _, _, _, h, adj_freeze he⟩
          · refine ⟨_, _, _, _, h, Nat.le_refl _, fun own get' φ β w u _ _ hV hW => ⟨φ, β, .refl, ?_, by rw [upd_nil]; exact hW⟩⟩
            simp only [V] at hV
            obtain ⟨A, rfl⟩ := hV
            simp only [V]
            exact Vt.nilSl _ _
          · exact ⟨_, _, _, _, h, .same⟩
        · cases h
      · cases h
    | false =>
      rw [hvs] at h
      simp only [cond_false] at h
      split at h
      · split at h
        · split at h
          · exact ⟨_, _, _, _, h, adj_thaw⟩
          · rename_i l
            split at h
            · rename_i sz t' xs' tail hg
              cases hc : (decide (t' = _) && tail.isEmpty) with
              | true => rw [hc] at h; exact ⟨_, _, _, _, h, .same⟩
              | false =>
                rw [hc] at h
                simp only [cond_false] at h
                obtain ⟨⟨ys, rd⟩, he, h⟩ := bind_some h
                refine ⟨_, _, _, _, h, adj_retype he hg ?_⟩
                simp only [elems, hg] at he
                exact Nat.eq_of_beq_eq_true (cond_none he).1
            · cases h
          · exact ⟨_, _, _, _, h, .same⟩
        · cases h
      · exact ⟨_, _, _, _, h, .same⟩
end
end Go.Sim
