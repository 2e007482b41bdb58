/-
  SimL: append, rows that are made.
-/
import Derived.Test.YtpkjlefincabiaaDoorSimK
namespace Go.Sim
set_option linter.unusedSectionVars false
set_option linter.unusedSimpArgs false
set_option linter.unusedVariables false
section
variable {P : Program} [Tabs P] {o : Oper} {get : Nat → AObj} {nx : Nat} {ρ : Operand → AV}
variable {own : Own P} {φ φ' : Nat → Nat} {β β' : Beta} {w w' : World}

/-- A row to be read: its elements and its cells. -/
structure Src (P : Program) (φ : Nat → Nat) (w : World) (t : Ty) (ys : List t.den) (u : Value) (news : List Value) : Prop where
  len : news.length = ys.length * t.sz
  lenOf : ∀ w', (Builtin.lenOf u).run P w' = .ok ys.length w'
  first : ∀ w', w'.heap = w.heap → (Builtin.firstCells t.sz ys.length u).run P w' = .ok news.toArray w'
  typed : ∀ i y, ys[i]? = some y → ∃ ds, Vt φ w t y ds ∧ ∀ j v, ds[j]? = some v → news[i * t.sz + j]? = some v
  one : ∀ v ∈ news, v.oneCell' = true

/-- Elements that lie one behind the other are one list of cells. -/
theorem gather {t : Ty} {b o : Nat} {ys : List t.den} (h : ∀ i y, ys[i]? = some y → ∃ ds, Vt φ w t y ds ∧ CellsAt w b (o + i * t.sz) ds) :
    ∃ news : List Value, news.length = ys.length * t.sz ∧ CellsAt w b o news ∧ (∀ i y, ys[i]? = some y → ∃ ds, Vt φ w t y ds ∧ ∀ j v, ds[j]? = some v → news[i * t.sz + j]? = some v) ∧ ∀ v ∈ news, v.oneCell' = true := by
  induction ys generalizing o with
  | nil => exact ⟨[], by simp, fun i v hv => by simp at hv, fun i y hy => by simp at hy, by simp⟩
  | cons y ys ih =>
    obtain ⟨d0, hd0, hc0⟩ := h 0 y (by simp)
    obtain ⟨news, hl, hc, ht, h1⟩ := ih (o := o + t.sz) (fun i z hz => by
      obtain ⟨ds, h1, h2⟩ := h (i + 1) z (by simpa using hz)
      refine ⟨ds, h1, ?_⟩
      rw [Nat.add_mul] at h2
      rwa [show o + t.sz + i * t.sz = o + (i * t.sz + 1 * t.sz) by omega])
    have hl0 := Vt.length _ _ _ hd0
    refine ⟨d0 ++ news, by simp [hl0, hl, Nat.add_mul]; omega, fun i v hv => ?_, fun i z hz => ?_, fun v hv => ?_⟩
    · rcases Nat.lt_or_ge i d0.length with hlt | hge
      · rw [List.getElem?_append_left hlt] at hv
        simpa using hc0 i v hv
      · rw [List.getElem?_append_right hge] at hv
        have := hc _ v hv
        rwa [show o + t.sz + (i - d0.length) = o + i by omega] at this
    · cases i with
      | zero =>
        simp at hz
        subst hz
        refine ⟨d0, hd0, fun j v hv => ?_⟩
        rw [List.getElem?_append_left (by have := (List.getElem?_eq_some_iff.1 hv).1; omega)]
        simpa using hv
      | succ i =>
        obtain ⟨ds, h1, h2⟩ := ht i z (by simpa using hz)
        refine ⟨ds, h1, fun j v hv => ?_⟩
        rw [List.getElem?_append_right (by rw [hl0, Nat.add_mul]; omega)]
        have := h2 j v hv
        rwa [show (i + 1) * t.sz + j - d0.length = i * t.sz + j by rw [hl0, Nat.add_mul]; omega]
    · rcases List.mem_append.1 hv with hv | hv
      · exact hd0.one v hv
      · exact h1 v hv

theorem bytesOf_in {s : List UInt8} {i : Nat} {y : Int} (h : (bytesOf s)[i]? = some y) : In .u8 y := by
  unfold bytesOf at h
  rw [List.getElem?_map] at h
  obtain ⟨b, _, rfl⟩ := Option.map_eq_some_iff.1 h
  exact In.u8 b

theorem src_cells {t : Ty} {b o cap : Nat} {ys : List t.den} (h : ∀ i y, ys[i]? = some y → ∃ ds, Vt φ w t y ds ∧ CellsAt w b (o + i * t.sz) ds) : ∃ news, Src P φ w t ys (.slice (some ⟨b, o, none⟩) ys.length cap) news ∧ CellsAt w b o news := by
  obtain ⟨news, h1, h2, h3, h4⟩ := gather h
  refine ⟨news, ⟨h1, fun w' => by simp [Builtin.lenOf], fun w' hw' => ?_, h3, h4⟩, h2⟩
  refine run_firstCells_some w' t.sz ys.length _ _ _ news h1 (fun j v hv => ?_)
  rw [addr_add, cell_of_heap (w := w) (by rw [hw'])]
  exact h2 j v hv

theorem src_empty {t : Ty} (A : Option Addr) : Src P φ w t [] (.slice A 0 0) [] :=
  ⟨by simp, fun w' => by simp [Builtin.lenOf], fun w' _ => by cases A <;> simp [Builtin.firstCells, loadCells, loadCellsFrom], fun i y hy => by simp at hy, by simp⟩

theorem src_vl {t : Ty} {ys : List t.den} {u : Value} (h : Vt φ w (.sl t) ys [u]) : ∃ news, Src P φ w t ys u news := by
  simp only [Vt] at h
  obtain ⟨_, A, cap, hu, hcap, hel⟩ := h
  simp at hu
  subst hu
  cases ys with
  | nil =>
    refine ⟨[], by simp, fun w' => by simp [Builtin.lenOf], fun w' _ => by cases A <;> simp [Builtin.firstCells, loadCells, loadCellsFrom], fun i y hy => by simp at hy, by simp⟩
  | cons y ys =>
    obtain ⟨a, ds, ha, hs, _⟩ := hel 0 y (by simp)
    subst ha
    obtain ⟨b, of, sp⟩ := a
    simp at hs
    subst hs
    obtain ⟨news, h1, _⟩ := src_cells (P := P) (φ := φ) (w := w) (t := t) (b := b) (o := of) (cap := cap) (ys := y :: ys) (fun i z hz => by
      obtain ⟨a', ds, ha, _, hd, hr⟩ := hel i z hz
      cases ha
      exact ⟨ds, hd, hr.cells⟩)
    exact ⟨news, h1⟩

theorem decAll_sound {t : Ty} : ∀ {l : List (List AV)} {ys : List t.den} {i : Nat} {y : t.den}, decAll t l = some ys → ys.length = l.length ∧ (ys[i]? = some y → ∃ c, l[i]? = some c ∧ dec t c = some y)
  | [], ys, i, y, h => by simp [decAll] at h; subst h; simp
  | c :: l, ys, i, y, h => by
    simp only [decAll] at h
    obtain ⟨x, hx, h⟩ := Option.bind_eq_some_iff.1 h
    obtain ⟨zs, hzs, h⟩ := Option.bind_eq_some_iff.1 h
    simp at h
    subst h
    refine ⟨by simp [(decAll_sound (i := 0) (y := y) hzs).1], fun hy => ?_⟩
    cases i with
    | zero => simp at hy; subst hy; exact ⟨c, rfl, hx⟩
    | succ i => simpa using (decAll_sound hzs).2 (by simpa using hy)

/-- All elements of an object, typed. -/
theorem obj_elems {l sz : Nat} {t : Ty} {xs : List t.den} {tail : List (List AV)} {ys : List t.den} (h : ObjRel φ β w l (.arr sz t xs tail)) {p : Place} (hp : β l = some (some p)) (hd : decAll t tail = some ys) (hsz : sz = t.sz) :
    ∀ i y, (xs ++ ys)[i]? = some y → ∃ ds, Vt φ w t y ds ∧ CellsAt w p.block (p.off + i * t.sz) ds := by
  simp only [ObjRel, hp] at h
  obtain ⟨h1, h2, h3, hM, h4, h5, h6, h7, h8, h9⟩ := h
  intro i y hy
  rcases Nat.lt_or_ge i xs.length with hlt | hge
  · rw [List.getElem?_append_left hlt] at hy
    rw [← hsz]
    exact h8 i y hy
  · rw [List.getElem?_append_right hge] at hy
    obtain ⟨c, hc, hdc⟩ := (decAll_sound hd).2 hy
    obtain ⟨_, ds, hv, hcell⟩ := h9 _ c hc
    refine ⟨ds, dec_sound t c y ds hdc hv, ?_⟩
    rw [← hsz]
    rwa [show xs.length + (i - xs.length) = i by omega] at hcell

theorem elems_sound {t : Ty} {c : AV} {ys : List t.den} {rd : List Nat} (he : elems get t c = some (ys, rd)) {get' : Nat → AObj} (hget : ∀ l, l ∈ rd → get' l = get l) (hW : WInv own φ β get' w) {u : Value} (hV : V φ β w c u) :
    ∃ news, Src P φ w t ys u news := by
  cases c with
  | nils =>
    simp [elems] at he
    obtain ⟨rfl, rfl⟩ := he
    simp only [V] at hV
    obtain ⟨A, rfl⟩ := hV
    exact ⟨[], src_empty A⟩
  | vl t' xs =>
    simp only [elems] at he
    split at he
    · rename_i h
      subst h
      simp at he
      obtain ⟨rfl, rfl⟩ := he
      simp only [V] at hV
      exact src_vl hV
    · cases he
  | str s =>
    simp only [elems] at he
    split at he
    · rename_i h
      subst h
      simp at he
      obtain ⟨rfl, rfl⟩ := he
      rw [hV.str_inv]
      have hs : (⟨s.toArray⟩ : ByteArray).size = s.length := by simp [ByteArray.size]
      have hb : (bytesOf s).length = s.length := by simp [bytesOf]
      refine ⟨(bytesOf s).map (Value.int .u8), by simp [Ty.sz], fun w' => by simp [Builtin.lenOf, hs, hb], fun w' _ => ?_, fun i y hy => ⟨[.int .u8 y], ⟨rfl, bytesOf_in hy⟩, fun j v hv => ?_⟩, by simp [Value.oneCell']⟩
      · have : (⟨s.toArray⟩ : ByteArray).extract 0 (bytesOf s).length = ⟨s.toArray⟩ := by
          apply ByteArray.ext
          rw [ByteArray.data_extract]
          apply Array.ext'
          simp [hb]
        simp [Builtin.firstCells, this, bytesOf]
      · cases j with
        | zero => simp at hv; subst hv; simp [Ty.sz, hy]
        | succ j => simp at hv
    · cases he
  | hw l =>
    simp only [elems] at he
    cases hg : get l with
    | arr sz t' xs tail =>
      rw [hg] at he
      simp only at he
      have hszt : sz = t.sz := by
        cases hb : Nat.beq sz t.sz with
        | true => exact Nat.eq_of_beq_eq_true hb
        | false => rw [hb] at he; cases he
      have hbt : Nat.beq sz t.sz = true := by rw [hszt]; exact Nat.beq_refl _
      rw [hbt, cond_true] at he
      have key : ∀ (xs' : List t.den) (ys' : List t.den), ObjRel φ β w l (.arr sz t xs' tail) → decAll t tail = some ys' → ys = xs' ++ ys' → (∃ news, Src P φ w t ys u news) := by
        intro xs' ys' hrel hd hys
        subst hys
        have hrel' := hrel
        rcases hb : β l with _ | (_ | p)
        · simp only [ObjRel, hb] at hrel
        · simp only [ObjRel, hb] at hrel
          obtain ⟨rfl, rfl⟩ := hrel
          simp [decAll] at hd
          subst hd
          simp only [V, hb] at hV
          obtain ⟨A, rfl⟩ := hV
          exact ⟨[], src_empty A⟩
        · simp only [ObjRel, hb] at hrel'
          simp only [V, hb] at hV
          obtain ⟨cap, rfl, hc, _⟩ := hV
          obtain ⟨news, h1, _⟩ := src_cells (P := P) (cap := cap) (obj_elems hrel hb hd hszt)
          have hlen : p.len = (xs' ++ ys').length := by rw [hrel'.2.2.1, List.length_append, (decAll_sound (i := 0) (y := t.zero) hd).1]
          rw [hlen]
          exact ⟨news, h1⟩
      split at he
      · rename_i h
        subst h
        have hmem : rd = [l] := by
          split at he
          · simp at he; exact he.2.symm
          · obtain ⟨_, _, he⟩ := Option.bind_eq_some_iff.1 he; simp at he; exact he.2.symm
        have hrel := hW.rel l
        rw [hget l (by simp [hmem]), hg] at hrel
        split at he
        · simp at he
          obtain ⟨rfl, _⟩ := he
          exact key xs [] hrel (by simp [decAll]) (by simp)
        · obtain ⟨zs, hz, he⟩ := Option.bind_eq_some_iff.1 he
          simp at he
          exact key xs zs hrel hz he.1.symm
      · split at he
        · obtain ⟨zs, hz, he⟩ := Option.bind_eq_some_iff.1 he
          simp at he
          obtain ⟨rfl, rfl⟩ := he
          have hrel := hW.rel l
          rw [hget l (by simp), hg] at hrel
          refine key [] zs ?_ hz (by simp)
          rcases hb : β l with _ | (_ | p)
          · simp only [ObjRel, hb] at hrel
          · simp only [ObjRel, hb] at hrel ⊢; exact ⟨trivial, hrel.2⟩
          · simp only [ObjRel, hb] at hrel ⊢
            obtain ⟨h1, h2, h3, hM, h4, h5, h6, h7, h8, h9⟩ := hrel
            exact ⟨h1, h2, h3, hM, fun h => absurd rfl h, h5, h6, h7, fun i x hi => by simp at hi, h9⟩
        · cases he
    | _ => rw [hg] at he; cases he
  | hs l a n =>
    simp only [elems] at he
    cases hg : get l with
    | arr sz t' xs tail =>
      rw [hg] at he
      simp only at he
      have hszt : sz = t.sz := by
        cases hb : Nat.beq sz t.sz with
        | true => exact Nat.eq_of_beq_eq_true hb
        | false => rw [hb] at he; cases he
      have hbt : Nat.beq sz t.sz = true := by rw [hszt]; exact Nat.beq_refl _
      rw [hbt, cond_true] at he
      split at he
      · rename_i h
        subst h
        split at he
        · simp at he
          obtain ⟨rfl, rfl⟩ := he
          have hrel := hW.rel l
          rw [hget l (by simp), hg] at hrel
          have hrel' := hrel
          rcases hb : β l with _ | (_ | p)
          · simp only [ObjRel, hb] at hrel
          · simp only [V, hb] at hV
            obtain ⟨_, rfl, A, rfl⟩ := hV
            simp only [ObjRel, hb] at hrel
            obtain ⟨rfl, _⟩ := hrel
            exact ⟨[], by simpa using src_empty A⟩
          · simp only [V, hb] at hV
            obtain ⟨_, A, cap, rfl, hc, hA⟩ := hV
            simp only [ObjRel, hb] at hrel'
            by_cases hn : n = 0
            · subst hn
              refine ⟨[], by simp, fun w' => by simp [Builtin.lenOf], fun w' _ => by cases A <;> simp [Builtin.firstCells, loadCells, loadCellsFrom], fun i y hy => by simp at hy, by simp⟩
            · obtain ⟨rfl, hle⟩ := hA hn
              have hl : ((xs.drop a).take n).length = n := by
                simp
                have := hrel'.2.2.1
                simp at this
                omega
              obtain ⟨news, h1, _⟩ := src_cells (P := P) (φ := φ) (w := w) (t := t') (b := p.block) (o := p.off + a * p.sz) (cap := cap) (ys := (xs.drop a).take n) (fun i y hy => by
                have hi : xs[a + i]? = some y := by
                  rw [List.getElem?_take] at hy
                  split at hy
                  · simpa using hy
                  · cases hy
                obtain ⟨ds, hd, hcell⟩ := obj_elems hrel hb (ys := []) (by simp [decAll]) hszt (a + i) y (by simpa using hi)
                refine ⟨ds, hd, ?_⟩
                rw [hrel'.1, hszt, Nat.add_assoc, ← Nat.add_mul]
                exact hcell)
              rw [hl] at h1
              exact ⟨news, h1⟩
        · cases he
      · cases he
    | _ => rw [hg] at he; cases he
  | _ => simp [elems] at he
theorem elems_max {t : Ty} {c : AV} {ys : List t.den} {rd : List Nat} (he : elems get t c = some (ys, rd)) {get' : Nat → AObj} (hget : ∀ l, l ∈ rd → get' l = get l) (hW : WInv own φ β get' w) {u : Value} (hV : V φ β w c u) : ys.length ≤ maxL := by
  cases c with
  | nils => simp [elems] at he; rw [he.1]; exact Nat.zero_le _
  | vl t' xs =>
    simp only [elems] at he
    split at he
    · rename_i h
      subst h
      simp at he
      obtain ⟨rfl, rfl⟩ := he
      simp only [V, Vt] at hV
      exact hV.1
    · cases he
  | str s =>
    simp only [elems] at he
    split at he
    · rename_i h
      subst h
      simp at he
      obtain ⟨rfl, rfl⟩ := he
      have := hV.2
      simpa [bytesOf] using this
    · cases he
  | hw l =>
    simp only [elems] at he
    cases hg : get l with
    | arr sz t' xs tail =>
      rw [hg] at he
      simp only at he
      have hlen : ys.length = xs.length + tail.length ∧ rd = [l] := by
        obtain ⟨_, he⟩ : Nat.beq sz t.sz = true ∧ _ := by
          cases hb : Nat.beq sz t.sz with
          | true => rw [hb] at he; exact ⟨rfl, he⟩
          | false => rw [hb] at he; cases he
        simp only [cond_true] at he
        split at he
        · rename_i h
          subst h
          split at he
          · simp at he; rw [← he.1, ← he.2]; simp
          · obtain ⟨zs, hz, he⟩ := Option.bind_eq_some_iff.1 he
            simp at he
            obtain ⟨rfl, rfl⟩ := he
            have := (decAll_sound (i := 0) (y := t'.zero) hz).1
            simp at this ⊢; omega
        · split at he
          · obtain ⟨zs, hz, he⟩ := Option.bind_eq_some_iff.1 he
            simp at he
            obtain ⟨rfl, rfl⟩ := he
            have := (decAll_sound (i := 0) (y := t.zero) hz).1
            simp at this ⊢; omega
          · cases he
      have hrel := hW.rel l
      rw [hget l (by simp [hlen.2]), hg] at hrel
      rcases hb : β l with _ | (_ | p)
      · simp only [ObjRel, hb] at hrel
      · simp only [ObjRel, hb] at hrel
        obtain ⟨rfl, rfl⟩ := hrel
        rw [hlen.1]; exact Nat.zero_le _
      · simp only [ObjRel, hb] at hrel
        rw [hlen.1, ← hrel.2.2.1]; exact hrel.2.2.2.1
    | _ => rw [hg] at he; cases he
  | hs l a n =>
    simp only [elems] at he
    cases hg : get l with
    | arr sz t' xs tail =>
      rw [hg] at he
      simp only at he
      cases hb : Nat.beq sz t.sz with
      | false => rw [hb] at he; cases he
      | true =>
        rw [hb] at he
        simp only [cond_true] at he
        split at he
        · rename_i h
          subst h
          split at he
          · simp at he
            rw [← he.1]
            simp only [V] at hV
            have := hV.1
            exact Nat.le_trans (List.length_take_le _ _) this
          · cases he
        · cases he
    | _ => rw [hg] at he; cases he
  | _ => simp [elems] at he
end
end Go.Sim
