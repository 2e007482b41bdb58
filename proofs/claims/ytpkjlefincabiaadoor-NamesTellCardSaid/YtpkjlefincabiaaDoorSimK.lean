/-
  SimK: stores, rows that are made, maps, strings that are ranged over.
-/
import Derived.Test.YtpkjlefincabiaaDoorSimJ
namespace Go.Sim
set_option linter.unusedSectionVars false
set_option linter.unusedSimpArgs false
set_option linter.unusedVariables false
section
variable {P : Program} [Tabs P] {o : Oper} {get : Nat → AObj} {nx : Nat} {ρ : Operand → AV}
variable {own : Own P} {φ φ' : Nat → Nat} {β β' : Beta} {w w' : World}

def spliceV (cs : List Value) (j : Nat) (vs : List Value) : List Value := cs.take j ++ vs ++ cs.drop (j + vs.length)
theorem VL.splice {cs ds : List AV} {us vs : List Value} {j : Nat} (h : VL φ β w cs us) (h' : VL φ β w ds vs) : VL φ β w (Sim.splice cs j ds) (spliceV us j vs) := by
  unfold Sim.splice spliceV
  rw [h'.length]
  exact ((h.take j).append h').append (h.drop _)
theorem spliceV_length {cs vs : List Value} {j : Nat} (h : j + vs.length ≤ cs.length) : (spliceV cs j vs).length = cs.length := by
  simp [spliceV]; omega

theorem far {i k sz a b : Nat} (hik : i ≠ k) (ha : a < sz) (hb : b < sz) : i * sz + a ≠ k * sz + b := by
  intro h
  rcases Nat.lt_or_gt_of_ne hik with hlt | hlt
  · have : (i + 1) * sz ≤ k * sz := Nat.mul_le_mul_right _ hlt
    rw [Nat.add_mul] at this
    omega
  · have : (k + 1) * sz ≤ i * sz := Nat.mul_le_mul_right _ hlt
    rw [Nat.add_mul] at this
    omega

/-- One element of an object is written anew. -/
theorem ObjRel.set {l sz k : Nat} {t : Ty} {xs : List t.den} {tail : List (List AV)} {p : Place} (h : ObjRel φ β w l (.arr sz t xs tail)) (hp : β l = some (some p)) (hk : Keeps φ w φ w') {ds : List Value} (hlen : ds.length = sz)
    (hsame : ∀ o, o < p.off + k * sz ∨ p.off + k * sz + sz ≤ o → w'.cell? ⟨p.block, o, none⟩ = w.cell? ⟨p.block, o, none⟩) (hfr : Free w' p.block) (hroom : ∀ n, Room w p.block n → Room w' p.block n) (hnew : CellsAt w' p.block (p.off + k * sz) ds) :
    (∀ v, k < xs.length → Vt φ w t v ds → ObjRel φ β w' l (.arr sz t (xs.set k v) tail)) ∧
    (∀ q e, k = xs.length + q → VL φ β w e ds → ObjRel φ β w' l (.arr sz t xs (tail.set q e))) := by
  simp only [ObjRel, hp] at h
  obtain ⟨h1, h2, h3, hM, h4, h5, h6, h7, h8, h9⟩ := h
  have keepCells : ∀ i (ds' : List Value), i ≠ k → ds'.length = sz → CellsAt w p.block (p.off + i * sz) ds' → CellsAt w' p.block (p.off + i * sz) ds' := fun i ds' hik hl hc j v hv => by
    have hj : j < sz := by rw [← hl]; exact (List.getElem?_eq_some_iff.1 hv).1
    rw [hsame]
    · exact hc j v hv
    · rcases Nat.lt_or_ge (p.off + i * sz + j) (p.off + k * sz) with hlt | hge
      · exact .inl hlt
      · refine .inr ?_
        rcases Nat.lt_or_ge (p.off + i * sz + j) (p.off + k * sz + sz) with hlt2 | hge2
        · exact absurd (show i * sz + j = k * sz + (i * sz + j - k * sz) by omega) (far hik hj (by omega))
        · exact hge2
  constructor
  · intro v hkx hv
    simp only [ObjRel, hp]
    refine ⟨h1, by simpa using h2, by simpa using h3, hM, fun hne => h4 (by intro e; subst e; simp at hkx), h5, hfr, hroom _ h7, fun i x hi => ?_, fun q e hq => ?_⟩
    · rw [List.getElem?_set] at hi
      by_cases hik : k = i
      · subst hik
        simp [hkx] at hi
        subst hi
        exact ⟨ds, Vt.keep hk _ _ _ hv, hnew⟩
      · rw [if_neg hik] at hi
        obtain ⟨ds', hd, hc⟩ := h8 i x hi
        have hl' : ds'.length = sz := by rw [Vt.length _ _ _ hd]; exact (h4 (by intro e; subst e; simp at hkx)).symm
        exact ⟨ds', Vt.keep hk _ _ _ hd, keepCells i ds' (Ne.symm hik) hl' hc⟩
    · obtain ⟨hl, ds', hd, hc⟩ := h9 q e hq
      refine ⟨hl, ds', VL.keep hk (.refl _) _ _ hd, ?_⟩
      rw [List.length_set]
      exact keepCells _ ds' (by omega) (by rw [hd.length]; exact hl) hc
  · intro q e hkq hv
    simp only [ObjRel, hp]
    refine ⟨h1, h2, by simpa using h3, hM, h4, h5, hfr, hroom _ h7, fun i x hi => ?_, fun q' e' hq => ?_⟩
    · obtain ⟨ds', hd, hc⟩ := h8 i x hi
      have hix : i < xs.length := (List.getElem?_eq_some_iff.1 hi).1
      have hl' : ds'.length = sz := by rw [Vt.length _ _ _ hd]; exact (h4 (by intro e; subst e; simp at hix)).symm
      exact ⟨ds', Vt.keep hk _ _ _ hd, keepCells i ds' (by omega) hl' hc⟩
    · rw [List.getElem?_set] at hq
      by_cases hqq : q = q'
      · subst hqq
        by_cases hlt : q < tail.length
        · simp [hlt] at hq
          subst hq
          exact ⟨by rw [← hv.length]; exact hlen, ds, VL.keep hk (.refl _) _ _ hv, by rw [← hkq]; exact hnew⟩
        · simp [hlt] at hq
      · rw [if_neg hqq] at hq
        obtain ⟨hl, ds', hd, hc⟩ := h9 q' e' hq
        exact ⟨hl, ds', VL.keep hk (.refl _) _ _ hd, keepCells _ ds' (by omega) (by rw [hd.length]; exact hl) hc⟩

theorem getElem?_spliceV {cs vs : List Value} {j i : Nat} (h : j + vs.length ≤ cs.length) : (spliceV cs j vs)[i]? = if i < j then cs[i]? else if i < j + vs.length then vs[i - j]? else cs[i]? := by
  unfold spliceV
  have hj : (cs.take j).length = j := by simp; omega
  by_cases h1 : i < j
  · rw [if_pos h1, List.append_assoc, List.getElem?_append_left (by omega), List.getElem?_take, if_pos h1]
  · rw [if_neg h1]
    by_cases h2 : i < j + vs.length
    · rw [if_pos h2, List.append_assoc, List.getElem?_append_right (by omega), hj, List.getElem?_append_left (by omega)]
    · rw [if_neg h2, List.getElem?_append_right (by simp; omega)]
      rw [List.getElem?_drop]
      congr 1
      simp
      omega

/-- A store through a pointer into an object. -/
theorem setCells_out {b : Nat} : ∀ {vs : List Value} {o : Nat} {w : World}, (w.setCells b o vs).os = w.os ∧ (w.setCells b o vs).output = w.output
  | [], _, _ => ⟨rfl, rfl⟩
  | v :: r, o, w => by
    rw [World.setCells]
    have h := setCells_out (b := b) (vs := r) (o := o + 1) (w := w.setCell ⟨b, o, none⟩ v)
    have e : (w.setCell ⟨b, o, none⟩ v).os = w.os ∧ (w.setCell ⟨b, o, none⟩ v).output = w.output := by
      unfold World.setCell
      split <;> exact ⟨rfl, rfl⟩
    exact ⟨h.1.trans e.1, h.2.trans e.2⟩

theorem good_store {E : Env} (hE : EnvOK P E) {t : TypeId} {x y : Operand} {rw_ : TRow} (ho : o.op = .store t x y) (hr : E.row t = some rw_) (hy : (ρ y).cells.length = rw_.size) (hsol : solidL (ρ y).cells = true) {l : Nat} {e : Elt} {j sz : Nat} {ty : Ty} {xs : List ty.den} {tail : List (List AV)}
    (hx : ρ x = .ptr l e j) (hg : get l = .arr sz ty xs tail) (hj : j + rw_.size ≤ (eltCells ty xs tail e).length) {ob : AObj}
    (hob : match e with | .tl p => ob = .arr sz ty xs (tail.set p (splice (tail.getD p []) j (ρ y).cells)) | .ty i => ∃ v, dec ty (splice (enc ty (xs.getD i ty.zero)) j (ρ y).cells) = some v ∧ ob = .arr sz ty (xs.set i v) tail) (h0 : rw_.size ≠ 0) :
    OpGood P o get nx ρ .undef [(l, ob)] [l] nx := by
  refine ⟨Nat.le_refl _, fun own get' φ β w ρv hget _ hv hW => ?_⟩
  have hX := hv x (by simp [ho, Op.operands])
  have hY := V_cells (hv y (by simp [ho, Op.operands])) (cells_undef hy h0)
  rw [hx] at hX
  simp only [V] at hX
  obtain ⟨p, hp, hv1, hn, ht⟩ := hX
  have hrel := hW.rel l
  rw [hget l (by simp), hg] at hrel
  obtain ⟨ds, hd, hc, hlen, hps⟩ := elt_cells hrel hp hn ht
  have hlive : get' l ≠ .dead := by rw [hget l (by simp), hg]; intro h; cases h
  obtain ⟨vs, hvs⟩ : ∃ vs, (ρv y).cells.toList = vs := ⟨_, rfl⟩
  rw [hvs] at hY
  have hvl : vs.length = rw_.size := by rw [hY.length, hy]
  have hdl : j + vs.length ≤ ds.length := by rw [hd.length, hvl]; exact hj
  have hrel' := hrel
  simp only [ObjRel, hp] at hrel'
  obtain ⟨h1, h2, h3, hM, h4, h5, h6, h7, h8, h9⟩ := hrel'
  -- the cells that are written
  have hthere : ∀ i, i < vs.length → (w.cell? ⟨p.block, p.off + e.num p.nty * p.sz + j + i, none⟩).isSome = true := fun i hi => by
    have : j + i < ds.length := by omega
    have := hc (j + i) ds[j + i] (List.getElem?_eq_getElem this)
    rw [← Nat.add_assoc] at this
    rw [this]; rfl
  have hrun := run_storeCells_cells (P := P) p.block (p.off + e.num p.nty * p.sz + j) vs 0 w (by simpa using hthere) (fun i _ => h6 _) (solidL_one hY hsol)
  simp only [Nat.add_zero] at hrun
  obtain ⟨f1, f2, f3, f4, f5, f6⟩ := setCells_facts (w := w) hthere
  obtain ⟨w1, hw1⟩ : ∃ w1, w1 = w.setCells p.block (p.off + e.num p.nty * p.sz + j) vs := ⟨_, rfl⟩
  rw [← hw1] at hrun f1 f2 f3 f4 f5 f6
  have hk : Keeps φ w φ w1 := ⟨fun _ => Nat.le_refl _, fun b o v hb hv => by
      have hne : b ≠ p.block := fun e => by rw [e, h5] at hb; omega
      rw [cell_of_heap (w := w) (f1 b hne)]; exact hv, fun b n hr => by
      by_cases hb : b = p.block
      · rw [hb] at hr ⊢; exact f3 n hr
      · exact hr.of_heap (f1 b hb), by rw [hw1]; exact setCells_out.1, by rw [hw1]; exact setCells_out.2⟩
  have hnew : CellsAt w1 p.block (p.off + e.num p.nty * sz) (spliceV ds j vs) := fun i v hi => by
    rw [← hps]
    rw [getElem?_spliceV hdl] at hi
    by_cases g1 : i < j
    · rw [if_pos g1] at hi
      rw [f5 _ (.inl (by omega))]
      exact hc i v hi
    · rw [if_neg g1] at hi
      by_cases g2 : i < j + vs.length
      · rw [if_pos g2] at hi
        have := f4 (i - j) v hi
        rwa [show p.off + e.num p.nty * p.sz + j + (i - j) = p.off + e.num p.nty * p.sz + i by omega] at this
      · rw [if_neg g2] at hi
        rw [f5 _ (.inr (by omega))]
        exact hc i v hi
  have hset := ObjRel.set (k := e.num p.nty) hrel hp hk (ds := spliceV ds j vs) (by rw [spliceV_length hdl, hlen, hps]) (fun o ho => f5 o (by rw [hps]; omega)) (fun o => by rw [f6]; exact h6 o) f3 hnew
  have hnewobj : ObjRel φ β w1 l ob := by
    cases e with
    | tl q =>
      simp only at hob
      subst hob
      have hsp := VL.splice (j := j) hd hY
      exact hset.2 q _ (by simp [Elt.num, h2]) hsp
    | ty i =>
      obtain ⟨v, hdec, rfl⟩ := hob
      have hsp := VL.splice (j := j) hd hY
      have hi : i < xs.length := by have := ht i rfl; omega
      exact hset.1 v hi (dec_sound ty _ v _ hdec hsp)
  have hm := hW.mine l p hlive hp
  have hWI := hW.change hk (.refl _) (by omega) l ob (fun m hm' hd' q hq => ⟨f1 _ (fun e => hW.dist l m p q (Ne.symm hm') hlive hd' hp hq e.symm), rfl⟩) hnewobj (fun _ _ => rfl)
    (fun _ q hq => by
      rw [hp] at hq; cases hq
      exact ⟨hm.1, by omega, fun m hm' hd' q hq => hW.dist m l q p hm' hd' hlive hq hp⟩) (fun b hb => (hW.fresh b (by omega)).2)
  refine .skip (w' := w1) ?_ ⟨φ, β, ⟨hk, .refl _, fun _ _ => rfl, by omega, fun b hb hnb => ⟨f1 b (fun e => hnb (by rw [e]; exact hm.1)), rfl⟩⟩, by simp [V], hWI⟩
  have hsz : (ρv y).cells.size = rw_.size := by rw [← hvl, ← hvs]; simp
  simp [execOp, ho, hv1, Instr.storeAt, Instr.sureAddr, storeVar, (hE.row t rw_ hr).size, hsz, hvs, hrun]

theorem good_makeMap {E : Env} (hE : EnvOK P E) {t k v : TypeId} {rw_ : TRow} (ho : o.op = .makeMap t none) {kt vt : Ty} (hk : okKey kt = true) : OpGood P o get nx ρ (.mp nx) [(nx, .map kt vt [])] [] (nx + 1) := by
  refine ⟨Nat.le_succ _, fun own get' φ β w ρv _ hfr _ hW => ?_⟩
  have hl := (hfr nx (Nat.le_refl _) (by omega)).2
  have hobj : ObjRel φ (setB β nx (some ⟨w.heap.size, 0, 0, 0, 0⟩)) (w.alloc (.map #[] 0)) nx (.map kt vt []) := by
    simp only [ObjRel]
    exact ⟨Nat.zero_le _, ⟨w.heap.size, 0, 0, 0, 0⟩, #[], 0, by simp [setB], by simp [World.alloc, -World.alloc_eq], (hW.fresh _ (Nat.le_refl _)).2, hk, rfl⟩
  obtain ⟨h1, h2⟩ := hW.push (w' := w.alloc (.map #[] 0)) rfl ⟨rfl, rfl⟩ hl rfl hobj (new := fun l => nx ≤ l ∧ l < nx + 1) ⟨Nat.le_refl _, by omega⟩
  refine .value (w' := w.alloc (.map #[] 0)) (u := .map (some w.heap.size)) ?_ ⟨φ, _, h1, by simp only [V]; exact ⟨_, by simp [setB]; rfl, rfl⟩, h2⟩
  simp [execOp, ho, Instr.makeMap]

theorem In.rune (s : ByteArray) (i : Nat) : In .i32 ((Utf8.decode s i).1 : Int) := by
  have e1 : IntKind.i32.min = -2147483648 := by decide
  have e2 : IntKind.i32.max = 2147483647 := by decide
  have hre : Utf8.runeError = 65533 := by decide
  have key : (Utf8.decode s i).1 ≤ 2147483647 := by
    unfold Utf8.decode
    simp only
    split
    · rename_i h; have : (0x80 : Nat) = 128 := rfl; show (s.get! (i + 0)).toNat ≤ _; omega
    · split
      · split
        · show (s.get! (i + 0)).toNat % 32 * 64 + (s.get! (i + 1)).toNat % 64 ≤ _; omega
        · show Utf8.runeError ≤ _; omega
      · split
        · split
          · show (s.get! (i + 0)).toNat % 16 * 4096 + (s.get! (i + 1)).toNat % 64 * 64 + (s.get! (i + 2)).toNat % 64 ≤ _; omega
          · show Utf8.runeError ≤ _; omega
        · split
          · split
            · show (s.get! (i + 0)).toNat % 8 * 262144 + (s.get! (i + 1)).toNat % 64 * 4096 + (s.get! (i + 2)).toNat % 64 * 64 + (s.get! (i + 3)).toNat % 64 ≤ _; omega
            · show Utf8.runeError ≤ _; omega
          · show Utf8.runeError ≤ _; omega
  unfold In
  rw [e1, e2]; omega

theorem good_range {E : Env} (hE : EnvOK P E) {t : TypeId} {x : Operand} {rw_ : TRow} (ho : o.op = .range t x) (hr : E.row t = some rw_) (hk : rw_.kind = .str) {s : List UInt8} (hx : ρ x = .str s) : OpGood P o get nx ρ (.it nx) [(nx, .siter s 0)] [] (nx + 1) := by
  refine ⟨Nat.le_succ _, fun own get' φ β w ρv _ hfr hv hW => ?_⟩
  have hX := hv x (by simp [ho, Op.operands])
  rw [hx] at hX
  have hXl := hX.2
  have hX := hX.str_inv
  have hu := (hE.row t rw_ hr).str_kind hk
  have hl := (hfr nx (Nat.le_refl _) (by omega)).2
  have hobj : ObjRel φ (setB β nx (some ⟨w.heap.size, 0, 0, 0, 0⟩)) (w.alloc (.stringIter ⟨s.toArray⟩ 0)) nx (.siter s 0) := by
    simp only [ObjRel]
    exact ⟨hXl, ⟨w.heap.size, 0, 0, 0, 0⟩, by simp [setB], by simp [World.alloc, -World.alloc_eq], (hW.fresh _ (Nat.le_refl _)).2⟩
  obtain ⟨h1, h2⟩ := hW.push (w' := w.alloc (.stringIter ⟨s.toArray⟩ 0)) rfl ⟨rfl, rfl⟩ hl rfl hobj (new := fun l => nx ≤ l ∧ l < nx + 1) ⟨Nat.le_refl _, by omega⟩
  refine .value (w' := w.alloc (.stringIter ⟨s.toArray⟩ 0)) (u := .pointer (some ⟨w.heap.size, 0, none⟩)) ?_ ⟨φ, _, h1, by simp only [V]; exact ⟨_, by simp [setB]; rfl, rfl⟩, h2⟩
  simp [execOp, ho, hX, Instr.range, run_underlying hu]

/-- A block that is no row of cells turns. -/
theorem WInv.setObj (hW : WInv own φ β get w) {l : Nat} {p : Place} {a : AObj} {ob ob' : Obj} (hlive : get l ≠ .dead) (hp : β l = some (some p)) (hheap : w.heap[p.block]? = some ob) (hno : ∀ c t fr, ob ≠ .cells c t fr) (hφ : φ p.block = 0) (hob : ∀ w' : World, w'.heap[p.block]? = some ob' → Keeps φ w φ w' → ObjRel φ β w' l a) {new : Nat → Prop} :
    ∃ w', w' = { w with heap := w.heap.setIfInBounds p.block ob' } ∧ Step own new φ β w φ β w' ∧ WInv own φ β (upd [(l, a)] get) w' := by
  obtain ⟨w', hw'⟩ : ∃ w' : World, w' = { w with heap := w.heap.setIfInBounds p.block ob' } := ⟨_, rfl⟩
  have hlt : p.block < w.heap.size := (Array.getElem?_eq_some_iff.1 hheap).1
  have hsz : w'.heap.size = w.heap.size := by rw [hw']; simp
  have hother : ∀ b, b ≠ p.block → w'.heap[b]? = w.heap[b]? := fun b hb => by rw [hw']; simp [Array.getElem?_setIfInBounds, Ne.symm hb]
  have hself : w'.heap[p.block]? = some ob' := by rw [hw']; simp [Array.getElem?_setIfInBounds, hlt]
  have hk : Keeps φ w φ w' := ⟨fun _ => Nat.le_refl _, fun b o v hb hv => by
      have hne : b ≠ p.block := fun e => by rw [e, hφ] at hb; omega
      rw [cell_of_heap (w := w) (hother b hne)]; exact hv, fun b n hr => by
      by_cases hb : b = p.block
      · obtain ⟨c, t, fr, h1, _⟩ := hr
        rw [hb, hheap] at h1
        cases h1
        exact absurd rfl (hno _ _ _)
      · exact hr.of_heap (hother b hb), by rw [hw'], by rw [hw']⟩
  have hm := hW.mine l p hlive hp
  refine ⟨w', hw', ⟨hk, .refl _, fun _ _ => rfl, by omega, fun b hb hnb => ⟨hother b (fun e => hnb (by rw [e]; exact hm.1)), rfl⟩⟩, ?_⟩
  exact hW.change hk (.refl _) (by omega) l a (fun m hm' hd' q hq => ⟨hother _ (fun e => hW.dist l m p q (Ne.symm hm') hlive hd' hp hq e.symm), rfl⟩) (hob w' hself hk) (fun _ _ => rfl)
    (fun _ q hq => by
      rw [hp] at hq; cases hq
      exact ⟨hm.1, by omega, fun m hm' hd' q hq => hW.dist m l q p hm' hd' hlive hq hp⟩) (fun b hb => (hW.fresh b (by omega)).2)

theorem good_next_more {x : Operand} {l : Nat} (ho : o.op = .next x true) (hx : ρ x = .it l) {s : List UInt8} {pos : Nat} (hg : get l = .siter s pos) (hp : pos < s.length) :
    OpGood P o get nx ρ (.tup [.bool true, .int .i64 (pos : Int), .int .i32 ((Utf8.decode ⟨s.toArray⟩ pos).1 : Int)]) [(l, .siter s (pos + (Utf8.decode ⟨s.toArray⟩ pos).2))] [l] nx := by
  refine ⟨Nat.le_refl _, fun own get' φ β w ρv hget _ hv hW => ?_⟩
  have hX := hv x (by simp [ho, Op.operands])
  rw [hx] at hX
  simp only [V] at hX
  obtain ⟨p, hβ, hv1⟩ := hX
  have hrel := hW.rel l
  have hgl := hget l (by simp)
  rw [hg] at hgl
  rw [hgl] at hrel
  simp only [ObjRel] at hrel
  obtain ⟨hM, q, hq, hheap, hφ⟩ := hrel
  rw [hβ] at hq; cases hq
  obtain ⟨w', hw', hstep, hWI⟩ := hW.setObj (a := .siter s (pos + (Utf8.decode ⟨s.toArray⟩ pos).2)) (ob' := .stringIter ⟨s.toArray⟩ (pos + (Utf8.decode ⟨s.toArray⟩ pos).2)) (new := fun l => nx ≤ l ∧ l < nx)
    (by rw [hgl]; intro h; cases h) hβ hheap (fun _ _ _ h => by cases h) hφ (fun w' h _ => by simp only [ObjRel]; exact ⟨hM, p, hβ, h, hφ⟩)
  have hsz : (⟨s.toArray⟩ : ByteArray).size = s.length := by simp [ByteArray.size]
  refine .value (w' := w') (u := .tuple #[.bool true, .int .i64 (pos : Int), .int .i32 ((Utf8.decode ⟨s.toArray⟩ pos).1 : Int)]) ?_ ⟨φ, β, hstep, ?_, hWI⟩
  · simp [execOp, ho, hv1, Instr.next, Go.getObj, Sem.run, hheap, hsz, hp, Go.setObj, hw', goInt]
  · simp only [V]
    exact ⟨[.bool true, .int .i64 (pos : Int), .int .i32 ((Utf8.decode ⟨s.toArray⟩ pos).1 : Int)], rfl, .cons rfl (.cons ⟨rfl, In.nat (by omega)⟩ (.cons ⟨rfl, In.rune _ _⟩ rfl))⟩

theorem good_next_over {x : Operand} {l : Nat} (ho : o.op = .next x true) (hx : ρ x = .it l) {s : List UInt8} {pos : Nat} (hg : get l = .siter s pos) (hp : ¬ pos < s.length) :
    OpGood P o get nx ρ (.tup [.bool false]) [] [l] nx :=
  .pure fun own get' φ β w ρv hget hv hW => by
    have hX := hv x (by simp [ho, Op.operands])
    rw [hx] at hX
    simp only [V] at hX
    obtain ⟨p, hβ, hv1⟩ := hX
    have hrel := hW.rel l
    rw [hget l (by simp), hg] at hrel
    simp only [ObjRel] at hrel
    obtain ⟨_, q, hq, hheap, hφ⟩ := hrel
    rw [hβ] at hq; cases hq
    have hsz : (⟨s.toArray⟩ : ByteArray).size = s.length := by simp [ByteArray.size]
    refine ⟨.tuple #[.bool false], ?_, by simp only [V]; exact ⟨[.bool false], rfl, .cons rfl rfl⟩⟩
    simp [execOp, ho, hv1, Instr.next, Go.getObj, Sem.run, hheap, hsz, hp]
end
end Go.Sim
