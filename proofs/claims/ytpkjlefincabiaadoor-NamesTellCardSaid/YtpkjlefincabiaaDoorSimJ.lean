/-
  SimJ: how objects are made and changed.
-/
import Derived.Test.YtpkjlefincabiaaDoorSimI
import Derived.Laws.IdiomCopy
namespace Go.Sim
set_option linter.unusedSectionVars false
set_option linter.unusedSimpArgs false
set_option linter.unusedVariables false
section
variable {P : Program} [Tabs P] {o : Oper} {get : Nat → AObj} {nx : Nat} {ρ : Operand → AV}
variable {own : Own P} {φ φ' : Nat → Nat} {β β' : Beta} {w w' : World}

theorem cell_of_heap {b o : Nat} (h : w'.heap[b]? = w.heap[b]?) : w'.cell? ⟨b, o, none⟩ = w.cell? ⟨b, o, none⟩ := by simp [World.cell?, h]
theorem frozen_of_heap {b o : Nat} (h : w'.heap[b]? = w.heap[b]?) : w'.frozen? ⟨b, o, none⟩ = w.frozen? ⟨b, o, none⟩ := by simp [World.frozen?, h]
theorem CellsAt.of_heap {b o : Nat} {cs : List Value} (h : w'.heap[b]? = w.heap[b]?) (hc : CellsAt w b o cs) : CellsAt w' b o cs := fun i v hv => by rw [cell_of_heap h]; exact hc i v hv
theorem Room.of_heap {b n : Nat} (h : w'.heap[b]? = w.heap[b]?) (hc : Room w b n) : Room w' b n := by unfold Room; rw [h]; exact hc
theorem Free.of_heap {b : Nat} (h : w'.heap[b]? = w.heap[b]?) (hc : Free w b) : Free w' b := fun o => by rw [frozen_of_heap h]; exact hc o
theorem Entries.keep (hk : Keeps φ w φ' w') {kt vt : Ty} : ∀ {es : List (kt.den × vt.den)} {l : List MapEntry}, Entries φ w kt vt es l → Entries φ' w' kt vt es l
  | [], l, h => h
  | x :: xs, l, h => by
    simp only [Entries] at h ⊢
    obtain ⟨e, r, h1, h2, h3, h4, h5, h6⟩ := h
    exact ⟨e, r, h1, Vt.keep hk _ _ _ h2, Vt.keep hk _ _ _ h3, h4, h5, Entries.keep hk h6⟩

theorem ObjRel.keep {m : Nat} {ob : AObj} (hk : Keeps φ w φ' w') (hx : Ext β β') (hb : ∀ p, β m = some (some p) → w'.heap[p.block]? = w.heap[p.block]? ∧ φ' p.block = φ p.block) (h : ObjRel φ β w m ob) : ObjRel φ' β' w' m ob := by
  cases ob with
  | dead => trivial
  | arr sz t xs tail =>
    rcases hm : β m with _ | (_ | p)
    · simp only [ObjRel, hm] at h
    · simp only [ObjRel, hm] at h
      simp only [ObjRel, hx _ _ hm]
      exact h
    · simp only [ObjRel, hm] at h
      simp only [ObjRel, hx _ _ hm]
      obtain ⟨h1, h2, h3, hM, h4, h5, h6, h7, h8, h9⟩ := h
      obtain ⟨e1, e2⟩ := hb p hm
      refine ⟨h1, h2, h3, hM, h4, by rw [e2]; exact h5, h6.of_heap e1, h7.of_heap e1, fun i x hi => ?_, fun q e hq => ?_⟩
      · obtain ⟨ds, hd, hc⟩ := h8 i x hi
        exact ⟨ds, Vt.keep hk _ _ _ hd, hc.of_heap e1⟩
      · obtain ⟨hl, ds, hd, hc⟩ := h9 q e hq
        exact ⟨hl, ds, VL.keep hk hx _ _ hd, hc.of_heap e1⟩
  | map kt vt es =>
    simp only [ObjRel] at h ⊢
    obtain ⟨hM, p, ents, clock, h1, h2, h3, h4, h5⟩ := h
    obtain ⟨e1, e2⟩ := hb p h1
    exact ⟨hM, p, ents, clock, hx _ _ h1, by rw [e1]; exact h2, by rw [e2]; exact h3, h4, h5.keep hk⟩
  | siter s pos =>
    simp only [ObjRel] at h ⊢
    obtain ⟨hM, p, h1, h2, h3⟩ := h
    obtain ⟨e1, e2⟩ := hb p h1
    exact ⟨hM, p, hx _ _ h1, by rw [e1]; exact h2, by rw [e2]; exact h3⟩

theorem upd_one (l : Nat) (ob : AObj) (m : Nat) : upd [(l, ob)] get m = if l = m then ob else get m := by
  by_cases h : l = m
  · subst h; simp [upd, lk?]
  · have : Nat.beq l m = false := by
      cases hb : Nat.beq l m with
      | false => rfl
      | true => exact absurd (Nat.eq_of_beq_eq_true hb) h
    simp [upd, lk?, this, h]

/-- One object changes; what the others hold stays as it is. -/
theorem WInv.change (hW : WInv own φ β get w) (hk : Keeps φ w φ' w') (hx : Ext β β') (hgrow : w.heap.size ≤ w'.heap.size) (l : Nat) (ob : AObj)
    (hothers : ∀ m, m ≠ l → get m ≠ .dead → ∀ p, β m = some (some p) → w'.heap[p.block]? = w.heap[p.block]? ∧ φ' p.block = φ p.block) (hob : ObjRel φ' β' w' l ob)
    (hβ : ∀ m, m ≠ l → β' m = β m)
    (hblock : ob ≠ .dead → ∀ p, β' l = some (some p) → own p.block ∧ p.block < w'.heap.size ∧ ∀ m, m ≠ l → get m ≠ .dead → ∀ q, β m = some (some q) → q.block ≠ p.block)
    (hfresh : ∀ b, w'.heap.size ≤ b → φ' b = 0) : WInv own φ' β' (upd [(l, ob)] get) w' where
  rel m := by
    rw [upd_one]
    by_cases h : l = m
    · subst h; rw [if_pos rfl]; exact hob
    · rw [if_neg h]
      by_cases hd : get m = .dead
      · rw [hd]; trivial
      · exact (hW.rel m).keep hk hx (hothers m (Ne.symm h) hd)
  mine m p hm hp := by
    rw [upd_one] at hm
    by_cases h : l = m
    · subst h
      rw [if_pos rfl] at hm
      exact ⟨(hblock hm p hp).1, (hblock hm p hp).2.1⟩
    · rw [if_neg h] at hm
      rw [hβ m (Ne.symm h)] at hp
      exact ⟨(hW.mine m p hm hp).1, Nat.lt_of_lt_of_le (hW.mine m p hm hp).2 hgrow⟩
  dist m n p q hmn hm hn hp hq := by
    rw [upd_one] at hm hn
    by_cases h1 : l = m
    · subst h1
      rw [if_pos rfl] at hm
      rw [if_neg hmn] at hn
      rw [hβ n (Ne.symm hmn)] at hq
      exact fun e => (hblock hm p hp).2.2 n (Ne.symm hmn) hn q hq e.symm
    · rw [if_neg h1] at hm
      rw [hβ m (Ne.symm h1)] at hp
      by_cases h2 : l = n
      · subst h2
        rw [if_pos rfl] at hn
        exact (hblock hn q hq).2.2 m (Ne.symm h1) hm p hp
      · rw [if_neg h2] at hn
        rw [hβ n (Ne.symm h2)] at hq
        exact hW.dist m n p q hmn hm hn hp hq
  fresh b hb := ⟨(hW.fresh b (Nat.le_trans hgrow hb)).1, hfresh b hb⟩
  laid := hW.laid.keep hk

theorem WInv.kill (hW : WInv own φ β get w) (l : Nat) : WInv own φ β (upd [(l, .dead)] get) w :=
  hW.change (.refl _ _) (.refl _) (Nat.le_refl _) l .dead (fun _ _ _ _ _ => ⟨rfl, rfl⟩) trivial (fun _ _ => rfl) (fun h => absurd rfl h) (fun b hb => (hW.fresh b hb).2)

/-- A new block at the heap's end. -/
theorem keeps_push {ob : Obj} (hf : ∀ b, w.heap.size ≤ b → φ b = 0) (hh : w'.heap = w.heap.push ob) (ho : w'.os = w.os ∧ w'.output = w.output) : Keeps φ w φ w' where
  out := ho
  le _ := Nat.le_refl _
  cell b o v ho hv := by
    have hlt : b < w.heap.size := by
      rcases Nat.lt_or_ge b w.heap.size with h | h
      · exact h
      · rw [hf b h] at ho; omega
    rw [cell_of_heap (w := w)]
    · exact hv
    · rw [hh, Array.getElem?_push, if_neg (by omega)]
  room b n hr := by
    obtain ⟨c, t, fr, h1, h2⟩ := hr
    have hlt : b < w.heap.size := (Array.getElem?_eq_some_iff.1 h1).1
    exact ⟨c, t, fr, by rw [hh, Array.getElem?_push, if_neg (by omega)]; exact h1, h2⟩

def setB (β : Beta) (l : Nat) (x : Option Place) : Beta := fun m => if m = l then some x else β m
theorem ext_setB {l : Nat} {x : Option Place} (h : β l = none) : Ext β (setB β l x) := fun m y hy => by
  unfold setB
  by_cases e : m = l
  · subst e; rw [h] at hy; cases hy
  · rw [if_neg e]; exact hy

/-- A new object in a new block. -/
theorem WInv.push (hW : WInv own φ β get w) {ob : Obj} (hh : w'.heap = w.heap.push ob) (ho : w'.os = w.os ∧ w'.output = w.output) {l : Nat} (hl : β l = none) {p : Place} (hp : p.block = w.heap.size) {a : AObj}
    (hob : ObjRel φ (setB β l (some p)) w' l a) {new : Nat → Prop} (hn : new l) :
    Step own new φ β w φ (setB β l (some p)) w' ∧ WInv own φ (setB β l (some p)) (upd [(l, a)] get) w' := by
  have hf := fun b hb => (hW.fresh b hb).2
  have hk := keeps_push hf hh ho
  have hsz : w'.heap.size = w.heap.size + 1 := by rw [hh]; simp
  have hold : ∀ b, b < w.heap.size → w'.heap[b]? = w.heap[b]? := fun b hb => by rw [hh, Array.getElem?_push, if_neg (by omega)]
  refine ⟨⟨hk, ext_setB hl, fun m hm => ?_, by omega, fun b hb _ => ⟨hold b hb, rfl⟩⟩, ?_⟩
  · unfold setB; rw [if_neg (fun (e : m = l) => hm (by rw [e]; exact hn))]
  · refine hW.change hk (ext_setB hl) (by omega) l a (fun m _ hm q hq => ⟨hold _ (hW.mine m q hm hq).2, rfl⟩) hob (fun m hm => by unfold setB; rw [if_neg hm]) (fun _ q hq => ?_) (fun b hb => hf b (by omega))
    simp only [setB, if_true, Option.some.injEq] at hq
    subst hq
    exact ⟨by rw [hp]; exact (hW.fresh _ (Nat.le_refl _)).1, by omega, fun m _ hm r hr => by have := (hW.mine m r hm hr).2; omega⟩

/-- What a list of cells holds, as an object's content. -/
structure Holds (φ : Nat → Nat) (β : Beta) (w : World) (sz : Nat) (t : Ty) (xs : List t.den) (tail : List (List AV)) (cs : List Value) : Prop where
  max : xs.length + tail.length ≤ maxL
  size : xs ≠ [] → sz = t.sz
  room : (xs.length + tail.length) * sz ≤ cs.length
  typed : ∀ i x, xs[i]? = some x → ∃ ds, Vt φ w t x ds ∧ ∀ j v, ds[j]? = some v → cs[i * sz + j]? = some v
  out : ∀ q e, tail[q]? = some e → e.length = sz ∧ ∃ ds, VL φ β w e ds ∧ ∀ j v, ds[j]? = some v → cs[(xs.length + q) * sz + j]? = some v

theorem Holds.keep {sz : Nat} {t : Ty} {xs : List t.den} {tail : List (List AV)} {cs : List Value} (h : Holds φ β w sz t xs tail cs) (hk : Keeps φ w φ' w') (hx : Ext β β') : Holds φ' β' w' sz t xs tail cs :=
  ⟨h.max, h.size, h.room, fun i x hi => let ⟨ds, h1, h2⟩ := h.typed i x hi; ⟨ds, Vt.keep hk _ _ _ h1, h2⟩, fun q e hq => let ⟨h0, ds, h1, h2⟩ := h.out q e hq; ⟨h0, ds, VL.keep hk hx _ _ h1, h2⟩⟩

theorem Holds.obj {sz l : Nat} {t : Ty} {xs : List t.den} {tail : List (List AV)} {cs : List Value} (h : Holds φ β w sz t xs tail cs) {c : Array Value} {e : TypeId} {b : Nat} (hb : w.heap[b]? = some (.cells c e (0, 0))) (hc : ∀ (j : Nat) (v : Value), cs[j]? = some v → c[j]? = some v)
    (hβ : β l = some (some ⟨b, 0, sz, xs.length, xs.length + tail.length⟩)) (hφ : φ b = 0) : ObjRel φ β w l (.arr sz t xs tail) := by
  simp only [ObjRel, hβ]
  have hcell : ∀ j v, cs[j]? = some v → w.cell? ⟨b, j, none⟩ = some v := fun j v hv => by simp [World.cell?, hb, hc j v hv]
  have hlen : cs.length ≤ c.size := by
    rcases Nat.eq_zero_or_pos cs.length with h0 | h0
    · omega
    · have := hc (cs.length - 1) _ (List.getElem?_eq_getElem (by omega))
      have := (Array.getElem?_eq_some_iff.1 this).1
      omega
  refine ⟨trivial, trivial, trivial, h.max, h.size, hφ, fun o => by simp [World.frozen?, hb], ⟨c, e, _, hb, by have := h.room; omega⟩, fun i x hi => ?_, fun q e hq => ?_⟩
  · obtain ⟨ds, h1, h2⟩ := h.typed i x hi
    exact ⟨ds, h1, fun j v hv => by simpa using hcell _ v (h2 j v hv)⟩
  · obtain ⟨h0, ds, h1, h2⟩ := h.out q e hq
    exact ⟨h0, ds, h1, fun j v hv => by simpa using hcell _ v (h2 j v hv)⟩

theorem cells_one {u : Value} (hu : ∀ cs, u ≠ .agg cs) : u.cells = #[u] := by
  cases u <;> first | rfl | exact absurd rfl (hu _)
theorem V_cells {c : AV} {u : Value} (h : V φ β w c u) (hu : c ≠ .undef) : VL φ β w c.cells u.cells.toList := by
  cases c with
  | agg cs => simp only [V] at h; obtain ⟨vs, rfl, hv⟩ := h; simpa [AV.cells, Value.cells] using hv
  | undef => exact absurd rfl hu
  | tup vs => have h' := h; simp only [V] at h'; obtain ⟨us, rfl, _⟩ := h'; exact .cons h rfl
  | bool b => rw [h.bool_inv]; exact .cons (by simp [V]) rfl
  | int k n => rw [h.int_inv]; exact .cons ⟨rfl, h.int_in⟩ rfl
  | str s => rw [h.str_inv]; exact .cons ⟨rfl, h.2⟩ rfl
  | hw l =>
    have h' := h
    rcases hb : β l with _ | (_ | p) <;> simp only [V, hb] at h'
    · obtain ⟨A, rfl⟩ := h'; exact .cons h rfl
    · obtain ⟨cap, rfl, _⟩ := h'; exact .cons h rfl
  | hs l a n =>
    have h' := h
    rcases hb : β l with _ | (_ | p) <;> simp only [V, hb] at h'
    · exact h'.2.elim
    · obtain ⟨_, _, A, rfl⟩ := h'; exact .cons h rfl
    · obtain ⟨_, A, cap, rfl, _⟩ := h'; exact .cons h rfl
  | nilp => have h' := h; simp only [V] at h'; subst h'; exact .cons h rfl
  | nilif => have h' := h; simp only [V] at h'; subst h'; exact .cons h rfl
  | ptr l e j => have h' := h; simp only [V] at h'; obtain ⟨p, _, rfl, _⟩ := h'; exact .cons h rfl
  | eptr cs => have h' := h; simp only [V] at h'; obtain ⟨a, vs, rfl, _⟩ := h'; exact .cons h rfl
  | vl t xs => have h' := h; simp only [V, Vt] at h'; obtain ⟨_, A, cap, he, _⟩ := h'; simp at he; subst he; exact .cons h rfl
  | ap t xs => have h' := h; simp only [V] at h'; obtain ⟨a, cap, rfl, _⟩ := h'; exact .cons h rfl
  | nils => have h' := h; simp only [V] at h'; obtain ⟨A, rfl⟩ := h'; exact .cons h rfl
  | iface t v => have h' := h; simp only [V] at h'; obtain ⟨u', rfl, _⟩ := h'; exact .cons h rfl
  | fn f a b => have h' := h; simp only [V] at h'; obtain ⟨us, vs, rfl, _⟩ := h'; exact .cons h rfl
  | mp l => have h' := h; simp only [V] at h'; obtain ⟨p, _, rfl⟩ := h'; exact .cons h rfl
  | it l => have h' := h; simp only [V] at h'; obtain ⟨p, _, rfl⟩ := h'; exact .cons h rfl

theorem newPtr {p : Place} {l : Nat} (hβ : β l = some (some p)) (hp : p.nty = 0) (hl : 0 < p.len) (hoff : p.off = 0) : V φ β w (.ptr l (.tl 0) 0) (.pointer (some ⟨p.block, 0, none⟩)) := by
  simp only [V]
  exact ⟨p, hβ, by simp [Elt.num, hp, hoff], by simp [Elt.num, hp, hl], fun i hi => by cases hi⟩

/-- A new variable. -/
theorem new_var (hW : WInv own φ β get w) {l : Nat} (hl : β l = none) {new : Nat → Prop} (hn : new l) {cs : List AV} {vs : Array Value} (hv : VL φ β w cs vs.toList) (t : TypeId) :
    ∃ φ' β', Step own new φ β w φ' β' (w.alloc (.cells vs t)) ∧ V φ' β' (w.alloc (.cells vs t)) (.ptr l (.tl 0) 0) (.pointer (some ⟨w.heap.size, 0, none⟩)) ∧
      WInv own φ' β' (upd [(l, .arr cs.length .bool [] [cs])] get) (w.alloc (.cells vs t)) := by
  have hh : (w.alloc (.cells vs t)).heap = w.heap.push (.cells vs t) := rfl
  have hk := keeps_push (fun b hb => (hW.fresh b hb).2) hh ⟨rfl, rfl⟩
  have hH : Holds φ (setB β l (some ⟨w.heap.size, 0, cs.length, 0, 1⟩)) (w.alloc (.cells vs t)) cs.length .bool [] [cs] vs.toList := by
    refine ⟨by simp [maxL], fun h => absurd rfl h, by simp [hv.length], fun i x hi => by simp at hi, fun q e hq => ?_⟩
    cases q with
    | zero =>
      simp at hq
      subst hq
      exact ⟨rfl, vs.toList, VL.keep hk (ext_setB hl) _ _ hv, fun j v hj => by simpa using hj⟩
    | succ q => simp at hq
  have hobj := hH.obj (l := l) (c := vs) (e := t) (b := w.heap.size) (by rw [hh]; simp) (fun j v hj => by simpa using hj) (by simp [setB]) (hW.fresh _ (Nat.le_refl _)).2
  obtain ⟨h1, h2⟩ := hW.push hh ⟨rfl, rfl⟩ hl (p := ⟨w.heap.size, 0, cs.length, 0, 1⟩) rfl hobj hn
  exact ⟨φ, _, h1, newPtr (p := ⟨w.heap.size, 0, cs.length, 0, 1⟩) (by simp [setB]) rfl (by simp) rfl, h2⟩

theorem good_alloc {E : Env} (hE : EnvOK P E) {t : TypeId} {rw_ : TRow} (ho : o.op = .alloc t) (hr : E.row t = some rw_) : OpGood P o get nx ρ (.ptr nx (.tl 0) 0) [(nx, .arr rw_.size .bool [] [rw_.zero])] [] (nx + 1) := by
  refine ⟨Nat.le_succ _, fun own get' φ β w ρv _ hfr _ hW => ?_⟩
  obtain ⟨i, z, hi, _, _, hz, hlen, _, _, hV⟩ := (hE.row t rw_ hr).info
  have hlen2 : rw_.zero.length = rw_.size := by rw [← (hV φ β w).length]; exact hlen
  obtain ⟨φ', β', h1, h2, h3⟩ := new_var (get := get') hW (hfr nx (Nat.le_refl _) (by omega)).2 (new := fun l => nx ≤ l ∧ l < nx + 1) ⟨Nat.le_refl _, by omega⟩ (hV φ β w) t
  rw [hlen2] at h3
  refine .value (w' := w.alloc (.cells z.cells t)) (u := .pointer (some ⟨w.heap.size, 0, none⟩)) ?_ ⟨φ', β', h1, h2, h3⟩
  simp [execOp, ho, Instr.alloc, zeroValue, typeInfo, hi, hz, newVar, newRow]

theorem cells_undef {c : AV} {n : Nat} (h : c.cells.length = n) (h0 : n ≠ 0) : c ≠ .undef := by
  rintro rfl
  simp [AV.cells] at h
  omega

theorem good_box {t : TypeId} {x : Operand} (ho : o.op = .box t x) {n : Nat} (hn : (ρ x).cells.length = n) (h0 : n ≠ 0) : OpGood P o get nx ρ (.ptr nx (.tl 0) 0) [(nx, .arr n .bool [] [(ρ x).cells])] [] (nx + 1) := by
  refine ⟨Nat.le_succ _, fun own get' φ β w ρv _ hfr hv hW => ?_⟩
  have hX := V_cells (hv x (by simp [ho, Op.operands])) (cells_undef hn h0)
  obtain ⟨φ', β', h1, h2, h3⟩ := new_var (get := get') hW (hfr nx (Nat.le_refl _) (by omega)).2 (new := fun l => nx ≤ l ∧ l < nx + 1) ⟨Nat.le_refl _, by omega⟩ hX t
  rw [hn] at h3
  refine .value (w' := w.alloc (.cells (ρv x).cells t)) (u := .pointer (some ⟨w.heap.size, 0, none⟩)) ?_ ⟨φ', β', h1, h2, h3⟩
  simp [execOp, ho, Instr.box, newVar, newRow]

theorem solid_one {c : AV} {u : Value} (h : V φ β w c u) (hs : c.solid = true) : u.oneCell' = true := by
  have key : ∀ u : Value, (∀ cs, u ≠ .agg cs) → (∀ cs, u ≠ .tuple cs) → u.oneCell' = true := fun u h1 h2 => by
    cases u <;> first | rfl | exact absurd rfl (h1 _) | exact absurd rfl (h2 _)
  cases c with
  | agg cs => simp [AV.solid] at hs
  | undef => simp [AV.solid] at hs
  | tup vs => simp [AV.solid] at hs
  | bool b => rw [h.bool_inv]; rfl
  | int k n => rw [h.int_inv]; rfl
  | str s => rw [h.str_inv]; rfl
  | hw l =>
    rcases hb : β l with _ | (_ | p) <;> simp only [V, hb] at h
    · obtain ⟨A, rfl⟩ := h; rfl
    · obtain ⟨cap, rfl, _⟩ := h; rfl
  | hs l a n =>
    rcases hb : β l with _ | (_ | p) <;> simp only [V, hb] at h
    · exact h.2.elim
    · obtain ⟨_, _, A, rfl⟩ := h; rfl
    · obtain ⟨_, A, cap, rfl, _⟩ := h; rfl
  | nilp => simp only [V] at h; subst h; rfl
  | nilif => simp only [V] at h; subst h; rfl
  | ptr l e j => simp only [V] at h; obtain ⟨p, _, rfl, _⟩ := h; rfl
  | eptr cs => simp only [V] at h; obtain ⟨a, vs, rfl, _⟩ := h; rfl
  | vl t xs => simp only [V, Vt] at h; obtain ⟨_, A, cap, he, _⟩ := h; simp at he; subst he; rfl
  | ap t xs => simp only [V] at h; obtain ⟨a, cap, rfl, _⟩ := h; rfl
  | nils => simp only [V] at h; obtain ⟨A, rfl⟩ := h; rfl
  | iface t v => simp only [V] at h; obtain ⟨u', rfl, _⟩ := h; rfl
  | fn f a b => simp only [V] at h; obtain ⟨us, vs, rfl, _⟩ := h; rfl
  | mp l => simp only [V] at h; obtain ⟨p, _, rfl⟩ := h; rfl
  | it l => simp only [V] at h; obtain ⟨p, _, rfl⟩ := h; rfl

theorem solidL_one : ∀ {cs : List AV} {us : List Value}, VL φ β w cs us → solidL cs = true → ∀ u ∈ us, u.oneCell' = true
  | [], us, h, _, u, hu => by simp only [VL] at h; subst h; simp at hu
  | c :: cs, us, h, hs, u, hu => by
    simp only [VL] at h
    obtain ⟨v, vs, rfl, h1, h2⟩ := h
    simp only [solidL, Bool.and_eq_true] at hs
    rcases List.mem_cons.1 hu with rfl | hu
    · exact solid_one h1 hs.1
    · exact solidL_one h2 hs.2 u hu
theorem enc_solid : ∀ (t : Ty) (x : t.den), solidL (enc t x) = true
  | .bool, _ => rfl
  | .int _, _ => rfl
  | .str, _ => rfl
  | .sl _, _ => rfl
  | .pair a b, x => by
    have app : ∀ (l m : List AV), solidL l = true → solidL m = true → solidL (l ++ m) = true := by
      intro l m
      induction l with
      | nil => intro _ h; simpa using h
      | cons c r ih => intro h h'; simp only [solidL, Bool.and_eq_true, List.cons_append] at h ⊢; exact ⟨h.1, ih h.2 h'⟩
    exact app _ _ (enc_solid a _) (enc_solid b _)
theorem Vt.one {t : Ty} {x : t.den} {cs : List Value} (h : Vt φ w t x cs) : ∀ u ∈ cs, u.oneCell' = true :=
  solidL_one (β := fun _ => none) (Vt.enc t x cs h) (enc_solid t x)

/-- Some cells of a block are written. -/
theorem setCells_facts {b o : Nat} {vs : List Value} (hs : ∀ j, j < vs.length → (w.cell? ⟨b, o + j, none⟩).isSome = true) :
    (∀ k, k ≠ b → (w.setCells b o vs).heap[k]? = w.heap[k]?) ∧ (w.setCells b o vs).heap.size = w.heap.size ∧ (∀ n, Room w b n → Room (w.setCells b o vs) b n) ∧
    (∀ j v, vs[j]? = some v → (w.setCells b o vs).cell? ⟨b, o + j, none⟩ = some v) ∧ (∀ k, k < o ∨ o + vs.length ≤ k → (w.setCells b o vs).cell? ⟨b, k, none⟩ = w.cell? ⟨b, k, none⟩) ∧
    (∀ k, (w.setCells b o vs).frozen? ⟨b, k, none⟩ = w.frozen? ⟨b, k, none⟩) := by
  have hsize : ∀ (vs : List Value) (o : Nat) (w : World), (w.setCells b o vs).heap.size = w.heap.size := by
    intro vs
    induction vs with
    | nil => intro o w; rfl
    | cons v r ih => intro o w; rw [World.setCells, ih]; simp
  have hother : ∀ (vs : List Value) (o : Nat) (w : World) (k : Nat), k ≠ b → (w.setCells b o vs).heap[k]? = w.heap[k]? := by
    intro vs
    induction vs with
    | nil => intro o w k _; rfl
    | cons v r ih => intro o w k hk; rw [World.setCells, ih _ _ _ hk]; exact heap_setCell_other w _ k v hk
  have hroom : ∀ (vs : List Value) (o : Nat) (w : World) (n : Nat), Room w b n → Room (w.setCells b o vs) b n := by
    intro vs
    induction vs with
    | nil => intro o w n h; exact h
    | cons v r ih =>
      intro o w n h
      rw [World.setCells]
      refine ih _ _ _ ?_
      obtain ⟨c, t, fr, h1, h2⟩ := h
      refine ⟨c.setIfInBounds o v, t, fr, ?_, by simpa using h2⟩
      simp [World.setCell, Array.getElem?_modify, h1]
  refine ⟨fun k hk => hother vs o w k hk, hsize vs o w, fun n hn => hroom vs o w n hn, fun j v hv => ?_, fun k hk => ?_, fun k => World.frozen?_setCells b vs o w _⟩
  · have hj := (List.getElem?_eq_some_iff.1 hv).1
    rw [World.cell?_setCells_in b vs o w hs j hj]
    exact congrArg some (List.getElem?_eq_some_iff.1 hv).2
  · exact World.cell?_setCells_out b vs o w _ (fun _ _ => hk)
end
end Go.Sim
