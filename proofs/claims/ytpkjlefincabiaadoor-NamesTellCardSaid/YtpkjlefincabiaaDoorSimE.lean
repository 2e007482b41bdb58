/-
  SimE: each operation does what the abstract machine says: those that leave the world alone.
-/
import Derived.Test.YtpkjlefincabiaaDoorSimD
namespace Go.Sim
set_option linter.unusedSectionVars false
set_option linter.unusedSimpArgs false
set_option linter.unusedVariables false
section
variable {P : Program} [Tabs P] {o : Oper} {get : Nat → AObj} {nx : Nat} {ρ : Operand → AV}

theorem V.bool_inv {φ : Nat → Nat} {β : Beta} {w : World} {b : Bool} {v : Value} (h : V φ β w (.bool b) v) : v = .bool b := h
theorem V.int_inv {φ : Nat → Nat} {β : Beta} {w : World} {k : IntKind} {n : Int} {v : Value} (h : V φ β w (.int k n) v) : v = .int k n := h.1
theorem V.int_in {φ : Nat → Nat} {β : Beta} {w : World} {k : IntKind} {n : Int} {v : Value} (h : V φ β w (.int k n) v) : In k n := h.2
theorem V.str_inv {φ : Nat → Nat} {β : Beta} {w : World} {s : List UInt8} {v : Value} (h : V φ β w (.str s) v) : v = .string ⟨s.toArray⟩ := h.1

theorem good_move {x : Operand} (ho : o.op = .move x ∨ o.op = .assign x) : OpGood P o get nx ρ (ρ x) [] [] nx :=
  .pure fun own get' φ β w ρv _ hv _ => by
    rcases ho with ho | ho <;> exact ⟨ρv x, by simp [execOp, ho], hv x (by simp [ho, Op.operands])⟩

theorem good_pick {c a b : Operand} {q : Bool} (ho : o.op = .pick c a b) (hc : ρ c = .bool q) : OpGood P o get nx ρ (cond q (ρ a) (ρ b)) [] [] nx :=
  .pure fun own get' φ β w ρv _ hv _ => by
    have h1 := hv c (by simp [ho, Op.operands])
    have h2 := hv a (by simp [ho, Op.operands])
    have h3 := hv b (by simp [ho, Op.operands])
    rw [hc] at h1
    have h1 := h1.bool_inv
    cases q
    · exact ⟨ρv b, by simp [execOp, ho, h1, Go.asBool], h3⟩
    · exact ⟨ρv a, by simp [execOp, ho, h1, Go.asBool], h2⟩

theorem toList_mk (s : List UInt8) : (⟨s.toArray⟩ : ByteArray).toList = s := by
  rw [ByteArray.toList_eq]
theorem bytesLess_eq : ∀ (a b : List UInt8), Op.bytesLess a b = strLess a b
  | _, [] => by simp [Op.bytesLess, strLess]
  | [], _ :: _ => by simp [Op.bytesLess, strLess]
  | a :: x, b :: y => by simp [Op.bytesLess, strLess, bytesLess_eq x y]

theorem run_intBits (op : BinOp) (k : IntKind) (x y n : Int) (h : intBits op k x y = some n) (w : World) : (Op.intBits op k x y).run P w = .ok (.int k n) w := by
  cases op <;> simp [intBits] at h <;> subst h <;> simp [Op.intBits]

theorem In.shr {k : IntKind} {a : Int} (h : In k a) (n : Nat) : In k (a.fdiv (2 ^ n)) := by
  have hp : (0 : Int) < 2 ^ n := Int.pow_pos (by decide)
  have h1 : (2 : Int) ^ n ≥ 1 := hp
  have hm : k.min ≤ 0 := (In.zero k).1
  have hM : 0 ≤ k.max := (In.zero k).2
  rw [Int.fdiv_eq_ediv_of_nonneg _ (Int.le_of_lt hp)]
  generalize (2 : Int) ^ n = d at hp h1
  unfold In at *
  refine ⟨?_, ?_⟩
  · rw [Int.le_ediv_iff_mul_le hp]
    have : k.min * d ≤ k.min * 1 := Int.mul_le_mul_of_nonpos_left hm h1
    omega
  · by_cases ha : 0 ≤ a
    · exact Int.le_trans (Int.ediv_le_self _ ha) h.2
    · have : a / d < 0 := Int.ediv_neg_of_neg_of_pos (by omega) hp
      omega
theorem In.rem {k : IntKind} {a : Int} (h : In k a) (b : Int) : In k (a.tmod b) := by
  have hm : k.min ≤ 0 := (In.zero k).1
  have hM : 0 ≤ k.max := (In.zero k).2
  have key : (0 ≤ a → 0 ≤ a.tmod b ∧ a.tmod b ≤ a) ∧ (a ≤ 0 → a ≤ a.tmod b ∧ a.tmod b ≤ 0) := by
    constructor
    · intro ha
      exact ⟨Int.tmod_nonneg b ha, by
        have := Int.natAbs_tmod a b
        have h1 := Int.tmod_nonneg b ha
        have h2 := Nat.mod_le a.natAbs b.natAbs
        omega⟩
    · intro ha
      have hn : (-a).tmod b = -(a.tmod b) := Int.neg_tmod a b
      have h1 := Int.tmod_nonneg b (show 0 ≤ -a by omega)
      have := Int.natAbs_tmod (-a) b
      have h2 := Nat.mod_le (-a).natAbs b.natAbs
      omega
  unfold In at *
  rcases Int.le_total 0 a with ha | ha
  · have := key.1 ha; omega
  · have := key.2 ha; omega
theorem In.bits {op : BinOp} {k : IntKind} {a b n : Int} (h : intBits op k a b = some n) : In k n := by
  unfold intBits at h
  split at h <;> first | (simp at h; subst h; exact In.wrap _ _) | cases h
theorem binK_sound {R : Type} {op : BinOp} {a b : AV} {K : AV → Option R} {r : R} (h : binK op a b K = some r) :
    ∃ v, K v = some r ∧ ∀ φ β (w : World) t x y u1 u2, V φ β w a u1 → V φ β w b u2 → ∃ u, (do eqGuard op t x y u1 u2; binOp op t u1 u2).run P w = .ok u w ∧ V φ β w v u := by
  unfold binK at h
  split at h
  · rename_i k a k' b
    have guard : ∀ (w : World) t x y, (eqGuard op t x y (.int k a) (.int k' b)).run P w = .ok () w := fun w t x y => by cases op <;> simp [eqGuard]
    split at h
    · by_cases hb : b < 0
      · simp [hb] at h
      · simp [hb] at h
        refine ⟨_, h, fun φ β w t x y u1 u2 h1 h2 => ?_⟩
        rw [h1.int_inv, h2.int_inv]
        exact ⟨_, by simp [guard, binOp, Op.shift, hb], rfl, In.wrap _ _⟩
    · by_cases hb : b < 0
      · simp [hb] at h
      · simp [hb] at h
        refine ⟨_, h, fun φ β w t x y u1 u2 h1 h2 => ?_⟩
        rw [h1.int_inv, h2.int_inv]
        exact ⟨_, by simp [guard, binOp, Op.shift, hb], rfl, In.shr h1.int_in _⟩
    · by_cases hk : k = k'
      · subst hk
        simp only [decide_true, cond_true] at h
        split at h
        case _ =>
          refine ⟨_, h, fun φ β w t x y u1 u2 h1 h2 => ?_⟩
          rw [h1.int_inv, h2.int_inv]
          exact ⟨_, by simp [guard, binOp, Op.intArith], rfl, In.wrap _ _⟩
        case _ =>
          refine ⟨_, h, fun φ β w t x y u1 u2 h1 h2 => ?_⟩
          rw [h1.int_inv, h2.int_inv]
          exact ⟨_, by simp [guard, binOp, Op.intArith], rfl, In.wrap _ _⟩
        case _ =>
          refine ⟨_, h, fun φ β w t x y u1 u2 h1 h2 => ?_⟩
          rw [h1.int_inv, h2.int_inv]
          exact ⟨_, by simp [guard, binOp, Op.intArith], rfl, In.wrap _ _⟩
        case _ =>
          by_cases hb : b = 0
          · simp [hb] at h
          · simp [hb] at h
            refine ⟨_, h, fun φ β w t x y u1 u2 h1 h2 => ?_⟩
            rw [h1.int_inv, h2.int_inv]
            exact ⟨_, by simp [guard, binOp, Op.intDiv, hb], rfl, In.wrap _ _⟩
        case _ =>
          by_cases hb : b = 0
          · simp [hb] at h
          · simp [hb] at h
            refine ⟨_, h, fun φ β w t x y u1 u2 h1 h2 => ?_⟩
            rw [h1.int_inv, h2.int_inv]
            exact ⟨_, by simp [guard, binOp, Op.intDiv, hb], rfl, In.rem h1.int_in _⟩
        all_goals first
          | (refine ⟨_, h, fun φ β w t x y u1 u2 h1 h2 => ?_⟩
             rw [h1.int_inv, h2.int_inv]
             exact ⟨_, by simp [guard, binOp, Op.intCmp], rfl⟩)
          | (obtain ⟨n, hn, h⟩ := Option.bind_eq_some_iff.1 h
             refine ⟨_, h, fun φ β w t x y u1 u2 h1 h2 => ?_⟩
             rw [h1.int_inv, h2.int_inv]
             refine ⟨.int k n, ?_, rfl, In.bits hn⟩
             have hr := run_intBits (P := P) op k a b n hn w
             cases op <;> simp_all [binOp, intBits])
      · simp [hk] at h
  · rename_i a b
    have guard : ∀ (w : World) t x y, (eqGuard op t x y (.string ⟨a.toArray⟩) (.string ⟨b.toArray⟩)).run P w = .ok () w := fun w t x y => by cases op <;> simp [eqGuard]
    have eqB : ((⟨a.toArray⟩ : ByteArray) ++ ⟨b.toArray⟩) = ⟨(a ++ b).toArray⟩ := by
      apply ByteArray.ext
      simp
    split at h
    · by_cases hb : a.length + b.length ≤ 9223372036854775807
      · simp [hb] at h
        refine ⟨_, h, fun φ β w t x y u1 u2 h1 h2 => ?_⟩
        rw [h1.str_inv, h2.str_inv]
        refine ⟨.string ⟨(a ++ b).toArray⟩, ?_, rfl, by simpa [maxL] using hb⟩
        have hm : ¬ ((9223372036854775807 : Int) < (a.length : Int) + (b.length : Int)) := by omega
        have hmax : IntKind.i64.max = 9223372036854775807 := by decide
        have hsz : ∀ s : List UInt8, (⟨s.toArray⟩ : ByteArray).size = s.length := fun s => by simp [ByteArray.size]
        simp [guard, binOp, Op.stringOp, hmax, hsz, hm, eqB]
      · simp [hb] at h
    all_goals first
      | (refine ⟨_, h, fun φ β w t x y u1 u2 h1 h2 => ?_⟩
         rw [h1.str_inv, h2.str_inv]
         exact ⟨_, by (simp [guard, binOp, Op.stringOp, toList_mk, bytesLess_eq]; try rfl), rfl⟩)
      | (cases h)
  · simp at h

theorem unK_sound {R : Type} {op : UnOp} {a : AV} {K : AV → Option R} {r : R} (h : unK op a K = some r) :
    ∃ v, K v = some r ∧ ∀ φ β (w : World) u1, V φ β w a u1 → ∃ u, (Op.unary op u1).run P w = .ok u w ∧ V φ β w v u := by
  unfold unK at h
  split at h
  · refine ⟨_, h, fun φ β w u1 h1 => ?_⟩
    rw [h1.int_inv]
    exact ⟨_, by simp [Op.unary, Op.intArith]; rfl, by rw [show (0 : Int) - _ = -_ from Int.zero_sub _]; exact ⟨rfl, In.wrap _ _⟩⟩
  · refine ⟨_, h, fun φ β w u1 h1 => ?_⟩
    rw [h1.int_inv]
    exact ⟨.int _ _, by simp only [Op.unary, Op.intBits]; rfl, rfl, In.wrap _ _⟩
  · refine ⟨_, h, fun φ β w u1 h1 => ?_⟩
    rw [h1.bool_inv]
    exact ⟨_, by simp [Op.unary], rfl⟩
  · cases h

/-! ### Equality -/
theorem RowOK.bool_kind {t : TypeId} {r : TRow} (h : RowOK P t r) (hk : r.kind = .bool) : P.underlying t = some .bool := by have := h.kind; rw [hk] at this; exact this
theorem RowOK.str_kind {t : TypeId} {r : TRow} (h : RowOK P t r) (hk : r.kind = .str) : P.underlying t = some .string := by have := h.kind; rw [hk] at this; exact this
theorem RowOK.int_kind {t : TypeId} {r : TRow} {k : IntKind} (h : RowOK P t r) (hk : r.kind = .int k) : P.underlying t = some (.int k) := by have := h.kind; rw [hk] at this; exact this
theorem RowOK.slice_kind {t e : TypeId} {r : TRow} (h : RowOK P t r) (hk : r.kind = .slice e) : P.underlying t = some (.slice e) := by have := h.kind; rw [hk] at this; exact this
theorem RowOK.ptr_kind {t e : TypeId} {r : TRow} (h : RowOK P t r) (hk : r.kind = .ptr e) : P.underlying t = some (.pointer e) := by have := h.kind; rw [hk] at this; exact this
theorem RowOK.map_kind {t k e : TypeId} {r : TRow} (h : RowOK P t r) (hk : r.kind = .map k e) : P.underlying t = some (.map k e) := by have := h.kind; rw [hk] at this; exact this
theorem RowOK.array_kind {t e : TypeId} {n : Nat} {r : TRow} (h : RowOK P t r) (hk : r.kind = .array n e) : P.underlying t = some (.array n e) := by have := h.kind; rw [hk] at this; exact this

theorem RowOK.size {t : TypeId} {r : TRow} (h : RowOK P t r) (w : World) : (sizeOf t).run P w = .ok r.size w := by
  obtain ⟨i, z, hi, hs, _⟩ := h.info
  simp [sizeOf, typeInfo, hi, hs]
theorem RowOK.isAgg {t : TypeId} {r : TRow} (h : RowOK P t r) (w : World) : (isAgg t).run P w = .ok r.kind.isAgg w := by
  have hk := h.kind
  unfold Go.isAgg
  cases hr : r.kind with
  | flat =>
    rw [hr] at hk
    obtain ⟨d, hd, hm⟩ := hk
    cases d <;> simp_all [run_underlying hd, Row.isAgg]
  | iface =>
    rw [hr] at hk
    obtain ⟨ms, hd⟩ := hk
    simp [run_underlying hd, Row.isAgg]
  | struct fs eq =>
    rw [hr] at hk
    obtain ⟨fields, hd, _⟩ := hk
    simp [run_underlying hd, Row.isAgg]
  | _ => rw [hr] at hk; simp [run_underlying hk, Row.isAgg]

theorem addr_add (b o n : Nat) : (⟨b, o, none⟩ : Addr).add n = ⟨b, o + n, none⟩ := by
  cases n <;> simp [Addr.add]
theorem addr_add' {a : Addr} (h : a.spot = none) (n : Nat) : a.add n = ⟨a.block, a.off + n, none⟩ := by
  obtain ⟨b, o, s⟩ := a
  simp at h
  subst h
  exact addr_add b o n

/-- A load, where the cells are known. -/
theorem run_loadVar_cells {t : TypeId} {r : TRow} (h : RowOK P t r) (w : World) (b o : Nat) (cs : List Value) (hl : cs.length = r.size)
    (hc : CellsAt w b o cs) (h1 : r.kind.isAgg = false → r.size = 1) :
    (loadVar t ⟨b, o, none⟩).run P w = .ok (if r.kind.isAgg then .agg cs.toArray else cs.getD 0 undef) w := by
  have hcells : ∀ j v, cs[j]? = some v → w.cell? ((⟨b, o, none⟩ : Addr).add j) = some v := fun j v hv => by rw [addr_add]; exact hc j v hv
  simp only [loadVar, Sem.run_bind, h.isAgg w, Result.andThen_ok]
  cases hk : r.kind.isAgg with
  | true =>
    have hload := run_loadCells_list (P := P) w ⟨b, o, none⟩ cs hcells
    rw [hl] at hload
    simp [h.size w, hload]
  | false =>
    have hs := h1 hk
    rw [hs] at hl
    match cs, hl with
    | [c], _ =>
      have := hcells 0 c rfl
      rw [addr_add] at this
      simp at this
      simp [Go.load, Sem.run, this]

theorem whole_sound {φ : Nat → Nat} {β : Beta} {w : World} {q : Bool} {cs : List AV} {vs : List Value} {v : AV} (h : whole q cs = some v) (hv : VL φ β w cs vs) :
    V φ β w v (if q then .agg vs.toArray else vs.getD 0 undef) ∧ (q = false → vs.length = 1) := by
  cases q with
  | true => simp [whole] at h; subst h; simp only [V, if_true]; exact ⟨⟨vs, rfl, hv⟩, by simp⟩
  | false =>
    simp only [whole, cond_false] at h
    match cs, h with
    | [c], h =>
      simp at h
      subst h
      simp only [VL] at hv
      obtain ⟨u, us, rfl, hu, rfl⟩ := hv
      simpa using hu

/-- An element's cells. -/
theorem elt_cells {φ : Nat → Nat} {β : Beta} {w : World} {l sz : Nat} {t : Ty} {xs : List t.den} {tail : List (List AV)} {p : Place} (h : ObjRel φ β w l (.arr sz t xs tail)) (hp : β l = some (some p)) {e : Elt}
    (hn : e.num p.nty < p.len) (ht : ∀ i, e = .ty i → i < p.nty) :
    ∃ ds, VL φ β w (eltCells t xs tail e) ds ∧ CellsAt w p.block (p.off + e.num p.nty * p.sz) ds ∧ ds.length = p.sz ∧ p.sz = sz := by
  simp only [ObjRel, hp] at h
  obtain ⟨h1, h2, h3, hM, h4, h5, h6, h7, h8, h9⟩ := h
  cases e with
  | ty i =>
    have hi : i < xs.length := by have := ht i rfl; omega
    obtain ⟨ds, hd, hc⟩ := h8 i xs[i] (by simp [hi])
    refine ⟨ds, ?_, ?_, ?_, h1⟩
    · simp only [eltCells]
      rw [List.getD_eq_getElem?_getD, List.getElem?_eq_getElem hi]
      exact Vt.enc t _ _ hd
    · simpa [Elt.num, h1] using hc
    · rw [Vt.length t _ _ hd, h1]
      exact (h4 (by intro e; simp [e] at hi)).symm
  | tl q =>
    simp only [Elt.num] at hn
    have hq : q < tail.length := by omega
    obtain ⟨hl, ds, hd, hc⟩ := h9 q tail[q] (by simp [hq])
    refine ⟨ds, ?_, ?_, ?_, h1⟩
    · simp only [eltCells]
      rw [List.getD_eq_getElem?_getD, List.getElem?_eq_getElem hq]
      exact hd
    · simpa [Elt.num, h1, h2] using hc
    · rw [hd.length, hl, h1]

theorem CellsAt.take {w : World} {b o n : Nat} {cs : List Value} (h : CellsAt w b o cs) : CellsAt w b o (cs.take n) := fun i v hv => by
  rw [List.getElem?_take] at hv
  split at hv
  · exact h i v hv
  · cases hv
theorem CellsAt.drop {w : World} {b o n : Nat} {cs : List Value} (h : CellsAt w b o cs) : CellsAt w b (o + n) (cs.drop n) := fun i v hv => by
  rw [List.getElem?_drop] at hv
  have := h (n + i) v hv
  rwa [← Nat.add_assoc] at this
theorem RowAt.cells {φ : Nat → Nat} {w : World} {b o : Nat} {cs : List Value} (h : RowAt φ w b o cs) : CellsAt w b o cs := fun i v hv => (h i v hv).1
theorem RowAt.take {φ : Nat → Nat} {w : World} {b o n : Nat} {cs : List Value} (h : RowAt φ w b o cs) : RowAt φ w b o (cs.take n) := fun i v hv => by
  rw [List.getElem?_take] at hv
  split at hv
  · exact h i v hv
  · cases hv
theorem RowAt.drop {φ : Nat → Nat} {w : World} {b o n : Nat} {cs : List Value} (h : RowAt φ w b o cs) : RowAt φ w b (o + n) (cs.drop n) := fun i v hv => by
  rw [List.getElem?_drop] at hv
  have := h (n + i) v hv
  rwa [← Nat.add_assoc] at this

theorem good_load_ptr {E : Env} (hE : EnvOK P E) {t : TypeId} {x : Operand} {rw_ : TRow} (ho : o.op = .load t x) (hr : E.row t = some rw_) {l : Nat} {e : Elt} {j sz : Nat} {ty : Ty} {xs : List ty.den} {tail : List (List AV)}
    (hx : ρ x = .ptr l e j) (hg : get l = .arr sz ty xs tail) (hl : (((eltCells ty xs tail e).drop j).take rw_.size).length = rw_.size) {v : AV}
    (hw : whole rw_.kind.isAgg (((eltCells ty xs tail e).drop j).take rw_.size) = some v) : OpGood P o get nx ρ v [] [l] nx :=
  .pure fun own get' φ β w ρv hget hv hW => by
    have h1 := hv x (by simp [ho, Op.operands])
    rw [hx] at h1
    simp only [V] at h1
    obtain ⟨p, hp, hv1, hn, ht⟩ := h1
    have hrel := hW.rel l
    rw [hget l (by simp), hg] at hrel
    obtain ⟨ds, hd, hc, hlen, _⟩ := elt_cells hrel hp hn ht
    have hcut : VL φ β w (((eltCells ty xs tail e).drop j).take rw_.size) ((ds.drop j).take rw_.size) := (hd.drop j).take _
    obtain ⟨hV, h1c⟩ := whole_sound hw hcut
    have hlen2 : ((ds.drop j).take rw_.size).length = rw_.size := by rw [hcut.length]; exact hl
    have hload := run_loadVar_cells (hE.row t rw_ hr) w p.block (p.off + e.num p.nty * p.sz + j) ((ds.drop j).take rw_.size) hlen2 (hc.drop.take) (fun hk => by rw [← hlen2]; exact h1c hk)
    refine ⟨_, ?_, hV⟩
    simp [execOp, ho, hv1, Instr.loadAt, Instr.sureAddr, hload]

theorem good_load_eptr {E : Env} (hE : EnvOK P E) {t : TypeId} {x : Operand} {rw_ : TRow} (ho : o.op = .load t x) (hr : E.row t = some rw_) {cs : List AV}
    (hx : ρ x = .eptr cs) (hl : (cs.take rw_.size).length = rw_.size) {v : AV}
    (hw : whole rw_.kind.isAgg (cs.take rw_.size) = some v) : OpGood P o get nx ρ v [] [] nx :=
  .pure fun own get' φ β w ρv hget hv hW => by
    have h1 := hv x (by simp [ho, Op.operands])
    rw [hx] at h1
    simp only [V] at h1
    obtain ⟨a, vs, hv1, hs, hd, hrow⟩ := h1
    have hcut : VL φ β w (cs.take rw_.size) (vs.take rw_.size) := hd.take _
    obtain ⟨hV, h1c⟩ := whole_sound hw hcut
    have hlen2 : (vs.take rw_.size).length = rw_.size := by rw [hcut.length]; exact hl
    have hload := run_loadVar_cells (hE.row t rw_ hr) w a.block a.off (vs.take rw_.size) hlen2 (hrow.cells.take) (fun hk => by rw [← hlen2]; exact h1c hk)
    refine ⟨_, ?_, hV⟩
    obtain ⟨b, of, sp⟩ := a
    simp at hs
    subst hs
    simp [execOp, ho, hv1, Instr.loadAt, Instr.sureAddr, hload]
end
end Go.Sim
