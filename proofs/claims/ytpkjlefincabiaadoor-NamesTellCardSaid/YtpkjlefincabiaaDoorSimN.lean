/-
  SimN: rows that are made or written out, structs that are built, conversions with bytes, calls.
-/
import Derived.Test.YtpkjlefincabiaaDoorSimM
namespace Go.Sim
set_option linter.unusedSectionVars false
set_option linter.unusedSimpArgs false
set_option linter.unusedVariables false
section
variable {P : Program} [Tabs P] {o : Oper} {get : Nat → AObj} {nx : Nat} {ρ : Operand → AV}
variable {own : Own P} {φ φ' : Nat → Nat} {β β' : Beta} {w w' : World}

theorem tyZero {E : Env} (hE : EnvOK P E) {e : TypeId} {t : Ty} (ht : E.tyOf e = some t) : ∃ i z, P.info? e = some i ∧ i.size = t.sz ∧ i.zero = some z ∧ z.cells.size = t.sz ∧ ∀ φ w, Vt φ w t t.zero z.cells.toList := by
  have h := hE.ty e t ht
  cases t with
  | bool => obtain ⟨_, i, h1, h2, h3⟩ := h; exact ⟨i, _, h1, h2, h3, rfl, fun φ w => rfl⟩
  | int k => obtain ⟨_, i, h1, h2, h3⟩ := h; exact ⟨i, _, h1, h2, h3, rfl, fun φ w => ⟨rfl, In.zero k⟩⟩
  | str => obtain ⟨_, i, h1, h2, h3⟩ := h; exact ⟨i, _, h1, h2, h3, rfl, fun φ w => ⟨rfl, Nat.zero_le _⟩⟩
  | sl y => obtain ⟨i, z, h1, h2, h3, h4, _, h5⟩ := h; exact ⟨i, z, h1, h2, h3, by rw [h5 rfl]; rfl, h4⟩
  | pair a b =>
    obtain ⟨i, z, h1, h2, h3, h4, _, _⟩ := h
    exact ⟨i, z, h1, h2, h3, by have := Vt.length _ _ _ (h4 (fun _ => 0) default); simpa using this, h4⟩

theorem madeCells_get {z : Array Value} {n i j : Nat} {v : Value} (hi : i < n) (hv : z.toList[j]? = some v) : (madeCells z (n * z.size)).toList[i * z.size + j]? = some v := by
  have hj : j < z.size := by have := (List.getElem?_eq_some_iff.1 hv).1; simpa using this
  have hle : (i + 1) * z.size ≤ n * z.size := Nat.mul_le_mul_right _ hi
  rw [Nat.add_mul] at hle
  have hlt : i * z.size + j < n * z.size := by omega
  simp [madeCells, hlt]
  rw [Nat.mod_eq_of_lt hj]
  have hv' : z[j]? = some v := by simpa using hv
  rw [Array.getElem?_eq_getElem hj] at hv'
  simp only [Option.some.injEq] at hv'
  rw [← hv']
  exact getElem!_pos z j hj

theorem good_makeSlice {E : Env} (hE : EnvOK P E) {t e : TypeId} {x y : Operand} {rw_ re : TRow} {te : Ty} (ho : o.op = .makeSlice t x y) (hr : E.row t = some rw_) (hk : rw_.kind = .slice e) (hre : E.row e = some re) (hty : E.tyOf e = some te) {n : Int}
    (hx : ρ x = .int .i64 n) (hy : ρ y = .int .i64 n) (h0 : 0 ≤ n) (hb : n.toNat * re.bytes ≤ 140737488355328) (h63 : n ≤ 9223372036854775807) : OpGood P o get nx ρ (.hw nx) [(nx, .arr re.size te (List.replicate n.toNat te.zero) [])] [] (nx + 1) := by
  refine ⟨Nat.le_succ _, fun own get' φ β w ρv _ hfr hv hW => ?_⟩
  have hX := hv x (by simp [ho, Op.operands])
  have hY := hv y (by simp [ho, Op.operands])
  rw [hx] at hX
  rw [hy] at hY
  have hX := hX.int_inv
  have hY := hY.int_inv
  have hut := (hE.row t rw_ hr).slice_kind hk
  obtain ⟨i, z, hi, his, hiz, hzs, hV⟩ := tyZero hE hty
  obtain ⟨i', z', hi', his', hib', _⟩ := (hE.row e re hre).info
  rw [hi] at hi'; cases hi'
  have hsz := ty_size hE hre hty
  have hbytes : (i.bytes : Int) * n ≤ 281474976710656 := by
    rw [hib']
    have h1 : ((n.toNat * re.bytes : Nat) : Int) ≤ 140737488355328 := by omega
    rw [Int.natCast_mul, Int.toNat_of_nonneg h0, Int.mul_comm] at h1
    omega
  have hrun := run_make (P := P) w t e i z hut hi hiz .i64 .i64 n n h0 (Int.le_refl _) hbytes h63
  have hsize : n.toNat * i.size = n.toNat * z.cells.size := by rw [his, hzs]
  rw [hsize] at hrun
  obtain ⟨φ', β', g1, g2, g3⟩ := append_new (nx := nx) (xs := List.replicate n.toNat te.zero) (cells := (madeCells z.cells (n.toNat * z.cells.size)).toList) (cap := n.toNat) (c := madeCells z.cells (n.toNat * z.cells.size)) (e := e) (t := te) hW (hfr nx (Nat.le_refl _) (by omega)).2
    (new := fun l => nx ≤ l ∧ l < nx + 1) ⟨Nat.le_refl _, by omega⟩ (by simp [size_madeCells, hzs]) (fun k y hk => by
      rw [List.getElem?_replicate] at hk
      split at hk
      · rename_i hlt
        simp at hk
        subst hk
        exact ⟨z.cells.toList, hV φ w, fun j v hj => by rw [← hzs]; exact madeCells_get hlt hj⟩
      · cases hk) (by simp [maxL]; omega) (by simp) (by simp [size_madeCells]) (fun j v hj => by simpa using hj) (.inr rfl)
  simp only [List.length_replicate] at g2
  rw [hsz]
  refine .value (w' := w.alloc (.cells (madeCells z.cells (n.toNat * z.cells.size)) e)) (u := .slice (some ⟨w.heap.size, 0, none⟩) n.toNat n.toNat) ?_ ⟨φ', β', g1, g2, g3⟩
  simp [execOp, ho, hX, hY, hrun]

theorem fold_set (off : Nat) : ∀ (vs : List Value) (k : Nat) (cs : Array Value), off + k + vs.length ≤ cs.size →
    ((vs.zipIdx k).foldl (fun cs (c, j) => cs.setIfInBounds (off + j) c) cs).toList = spliceV cs.toList (off + k) vs
  | [], k, cs, h => by simp [spliceV]
  | v :: vs, k, cs, h => by
    simp at h
    rw [List.zipIdx_cons, List.foldl_cons, fold_set off vs (k + 1) _ (by simp; omega)]
    rw [Array.toList_setIfInBounds, ← Nat.add_assoc]
    have hk : off + k < cs.toList.length := by simp; omega
    apply List.ext_getElem?
    intro i
    rw [getElem?_spliceV (by simp; omega), getElem?_spliceV (by simp; omega)]
    rcases Nat.lt_trichotomy i (off + k) with hi | hi | hi
    · rw [if_pos (by omega), if_pos hi, List.getElem?_set_ne (by omega)]
    · subst hi
      rw [if_pos (by omega), if_neg (by omega), if_pos (by simp), List.getElem?_set_self hk]
      simp
    · rw [if_neg (show ¬ i < off + k + 1 by omega), if_neg (show ¬ i < off + k by omega)]
      by_cases h2 : i < off + k + 1 + vs.length
      · rw [if_pos h2, if_pos (by simp; omega)]
        obtain ⟨m, rfl⟩ : ∃ m, i = off + k + 1 + m := ⟨i - (off + k + 1), by omega⟩
        rw [show off + k + 1 + m - (off + k + 1) = m by omega, show off + k + 1 + m - (off + k) = m + 1 by omega, List.getElem?_cons_succ]
      · rw [if_neg h2, if_neg (by simp; omega), List.getElem?_set_ne (by omega)]

theorem fill_sound {place : Nat → Option (Nat × Nat)} {ρv : Operand → Value} : ∀ (parts : List (Nat × Operand)) (cs cs' : List AV) (us : Array Value), (∀ p ∈ parts, V φ β w (ρ p.2) (ρv p.2)) → VL φ β w cs us.toList → fillC place cs (parts.map fun p => (p.1, ρ p.2)) = some cs' →
    ∃ us', Instr.fill place us (parts.map fun p => (p.1, ρv p.2)) = some us' ∧ VL φ β w cs' us'.toList
  | [], cs, cs', us, _, hv, h => by simp [fillC] at h; subst h; exact ⟨us, rfl, hv⟩
  | (i, x) :: parts, cs, cs', us, hp, hv, h => by
    simp only [List.map_cons, fillC] at h
    cases hpl : place i with
    | none => rw [hpl] at h; cases h
    | some os =>
      obtain ⟨off, size⟩ := os
      rw [hpl] at h
      simp only at h
      by_cases hc : 0 < size ∧ (ρ x).cells.length = size ∧ off + size ≤ cs.length
      · obtain ⟨h0, h1, h2⟩ := hc
        have e1 : (Nat.blt 0 size && Nat.beq (ρ x).cells.length size && Nat.ble (off + size) cs.length) = true := by
          rw [show Nat.blt 0 size = true from Nat.ble_eq_true_of_le h0, h1, Nat.beq_refl, Nat.ble_eq_true_of_le h2]; rfl
        rw [e1, cond_true] at h
        have hx := V_cells (hp (i, x) (by simp)) (cells_undef h1 (by omega))
        have hxl : (ρv x).cells.toList.length = size := by rw [hx.length, h1]
        have hul : us.toList.length = cs.length := hv.length
        have hf := fold_set off (ρv x).cells.toList 0 us (by simp at hxl hul ⊢; omega)
        obtain ⟨us', g1, g2⟩ := fill_sound parts _ cs' ((ρv x).cells.zipIdx.foldl (fun cs (c, j) => cs.setIfInBounds (off + j) c) us) (fun p hp' => hp p (by simp [hp'])) (by
          rw [← Array.foldl_toList, Array.toList_zipIdx, hf]
          exact VL.splice hv hx) h
        refine ⟨us', ?_, g2⟩
        simp only [List.map_cons, Instr.fill, hpl]
        rw [if_neg (by simp at hxl hul ⊢; omega)]
        exact g1
      · have e1 : (Nat.blt 0 size && Nat.beq (ρ x).cells.length size && Nat.ble (off + size) cs.length) = false := by
          cases hb : (Nat.blt 0 size && Nat.beq (ρ x).cells.length size && Nat.ble (off + size) cs.length) with
          | false => rfl
          | true =>
            simp only [Bool.and_eq_true] at hb
            exact absurd ⟨Nat.le_of_ble_eq_true hb.1.1, Nat.eq_of_beq_eq_true hb.1.2, Nat.le_of_ble_eq_true hb.2⟩ hc
        rw [e1] at h
        cases h

theorem good_build {E : Env} (hE : EnvOK P E) {t : TypeId} {parts : Array (Nat × Operand)} {rw_ : TRow} (ho : o.op = .build t parts) (hr : E.row t = some rw_) {fs : List (Nat × Nat)} {eq : List Ty} (hk : rw_.kind = .struct fs eq) {cs : List AV}
    (hf : fillC (fun i => fs[i]?) rw_.zero (parts.toList.map fun p => (p.1, ρ p.2)) = some cs) : OpGood P o get nx ρ (.agg cs) [] [] nx :=
  .pure fun own get' φ β w ρv _ hvs _ => by
    obtain ⟨i, z, hi, _, _, hz, _, _, _, hV⟩ := (hE.row t rw_ hr).info
    have hR := (hE.row t rw_ hr).kind
    rw [hk] at hR
    obtain ⟨fields, hu, hm, _, _⟩ := hR
    obtain ⟨us, h1, h2⟩ := fill_sound (ρv := ρv) parts.toList rw_.zero cs z.cells (fun p hp => hvs p.2 (by simp [ho, Op.operands]; exact ⟨p.1, by simpa using hp⟩)) (hV φ β w) hf
    have hb : P.built t ((parts.map fun (i, x) => (i, ρv x)).toList) = some us := by
      simp only [Program.built, hi, hu, hz, hm]
      rw [← h1]
      congr 1
      · funext i; simp
      · simp
    have hrun := run_build (P := P) w t _ us hb
    refine ⟨.agg us, by simp [execOp, ho, hrun], by simp only [V]; exact ⟨us.toList, by simp, h2⟩⟩

theorem VL_replicate {cs : List AV} {us : List Value} (h : VL φ β w cs us) : ∀ n, VL φ β w (List.replicate n cs).flatten (List.replicate n us).flatten
  | 0 => rfl
  | n + 1 => by simp only [List.replicate_succ, List.flatten_cons]; exact h.append (VL_replicate h n)

theorem madeCells_flat (z : Array Value) : ∀ n, (madeCells z (n * z.size)).toList = (List.replicate n z.toList).flatten := by
  intro n
  apply List.ext_getElem?
  intro i
  have hfl : ∀ n, ((List.replicate n z.toList).flatten).length = n * z.size := by
    intro n
    induction n with
    | zero => simp
    | succ n ih => simp [List.replicate_succ, ih, Nat.add_mul]; omega
  have hget : ∀ (n i j : Nat) (v : Value), i < n → z.toList[j]? = some v → ((List.replicate n z.toList).flatten)[i * z.size + j]? = some v := by
    intro n
    induction n with
    | zero => intro i j v hi; omega
    | succ n ih =>
      intro i j v hi hv
      have hj : j < z.size := by have := (List.getElem?_eq_some_iff.1 hv).1; simpa using this
      simp only [List.replicate_succ, List.flatten_cons]
      cases i with
      | zero => rw [List.getElem?_append_left (by simp; omega)]; simpa using hv
      | succ i =>
        rw [List.getElem?_append_right (by simp [Nat.add_mul]; omega)]
        have := ih i j v (by omega) hv
        rwa [show (i + 1) * z.size + j - z.toList.length = i * z.size + j by simp [Nat.add_mul]; omega]
  rcases Nat.lt_or_ge i (n * z.size) with hlt | hge
  · have hz : 0 < z.size := by
      rcases Nat.eq_zero_or_pos z.size with h | h
      · rw [h] at hlt; omega
      · exact h
    have hj : i % z.size < z.size := Nat.mod_lt _ hz
    have hi : i / z.size < n := Nat.div_lt_of_lt_mul (by rw [Nat.mul_comm]; exact hlt)
    have hv : z.toList[i % z.size]? = some z[i % z.size] := by simp [hj]
    have e : i / z.size * z.size + i % z.size = i := by rw [Nat.mul_comm]; exact Nat.div_add_mod i z.size
    have a1 := madeCells_get (n := n) hi hv
    have a2 := hget n _ _ _ hi hv
    rw [e] at a1 a2
    rw [a1, a2]
  · rw [List.getElem?_eq_none (by simp [size_madeCells]; exact hge), List.getElem?_eq_none (by rw [hfl]; exact hge)]

/-- Cells that are told as elements, each written out. -/
theorem holds_chunks {cs : List AV} {us : List Value} {len sz : Nat} (hlm : len ≤ 16777216) (h : VL φ β w cs us) (hl : cs.length = len * sz) :
    Holds φ β w sz .bool [] ((List.range len).map fun i => (cs.drop (i * sz)).take sz) us := by
  refine ⟨by simp [maxL]; omega, fun h => absurd rfl h, by simp [h.length, hl], fun i x hi => by simp at hi, fun q e hq => ?_⟩
  rw [List.getElem?_map] at hq
  rcases Nat.lt_or_ge q len with hlt | hge
  · rw [List.getElem?_range hlt] at hq
    simp at hq
    subst hq
    have hle : (q + 1) * sz ≤ len * sz := Nat.mul_le_mul_right _ hlt
    rw [Nat.add_mul] at hle
    refine ⟨by simp; omega, (us.drop (q * sz)).take sz, (h.drop _).take _, fun j v hj => ?_⟩
    rw [List.getElem?_take] at hj
    split at hj
    · rw [List.getElem?_drop] at hj
      simpa using hj
    · cases hj
  · rw [List.getElem?_eq_none (by simpa using hge)] at hq
    simp at hq

theorem fillC_length {place : Nat → Option (Nat × Nat)} : ∀ (parts : List (Nat × AV)) (cs cs' : List AV), fillC place cs parts = some cs' → cs'.length = cs.length
  | [], cs, cs', h => by simp [fillC] at h; rw [h]
  | (i, v) :: parts, cs, cs', h => by
    simp only [fillC] at h
    cases hpl : place i with
    | none => rw [hpl] at h; cases h
    | some os =>
      obtain ⟨off, size⟩ := os
      rw [hpl] at h
      simp only at h
      cases hb : (Nat.blt 0 size && Nat.beq v.cells.length size && Nat.ble (off + size) cs.length) with
      | false => rw [hb] at h; cases h
      | true =>
        rw [hb, cond_true] at h
        simp only [Bool.and_eq_true] at hb
        have h1 := Nat.eq_of_beq_eq_true hb.1.2
        have h2 := Nat.le_of_ble_eq_true hb.2
        rw [fillC_length parts _ _ h]
        simp [splice]
        omega

theorem good_buildSlice {E : Env} (hE : EnvOK P E) {t e : TypeId} {len : Nat} {parts : Array (Nat × Operand)} {rw_ re : TRow} (ho : o.op = .buildSlice t len parts) (hr : E.row t = some rw_) (hk : rw_.kind = .slice e) (hre : E.row e = some re) {cs : List AV}
    (hf : fillC (fun i => some (i * re.size, re.size)) (List.replicate len re.zero).flatten (parts.toList.map fun p => (p.1, ρ p.2)) = some cs) (hlim : len * re.size ≤ 16777216) (hlm : len ≤ 16777216) :
    OpGood P o get nx ρ (.hw nx) [(nx, .arr re.size .bool [] ((List.range len).map fun i => (cs.drop (i * re.size)).take re.size))] [] (nx + 1) := by
  refine ⟨Nat.le_succ _, fun own get' φ β w ρv _ hfr hvs hW => ?_⟩
  obtain ⟨i, z, hi, his, _, hz, hzl, _, _, hV⟩ := (hE.row e re hre).info
  have hzs : z.cells.size = re.size := by simpa using hzl
  have hut := (hE.row t rw_ hr).slice_kind hk
  have hnone := (hfr nx (Nat.le_refl _) (by omega)).2
  have hflat : VL φ β w (List.replicate len re.zero).flatten (madeCells z.cells (len * re.size)).toList := by
    rw [← hzs, madeCells_flat]
    exact VL_replicate (hV φ β w) len
  obtain ⟨us, h1, h2⟩ := fill_sound (ρv := ρv) parts.toList _ cs (madeCells z.cells (len * re.size)) (fun p hp => hvs p.2 (by simp [ho, Op.operands]; exact ⟨p.1, by simpa using hp⟩)) hflat hf
  have hcl : cs.length = len * re.size := by
    rw [fillC_length _ _ _ hf, ← hflat.length]
    simp [size_madeCells]
  have hrun : (execOp ρv o).run P w = .ok (.value (.slice (some ⟨w.heap.size, 0, none⟩) len len)) (w.alloc (.cells us e)) := by
    have h16 : ¬ (16777216 < len * re.size) := by omega
    have hfill : Instr.fill (fun i => some (i * re.size, re.size)) (madeCells z.cells (len * re.size)) (parts.toList.map fun p => (p.1, ρv p.2)) = some us := h1
    by_cases h0 : len * re.size = 0
    · have hm : madeCells z.cells (len * re.size) = (Array.range (len * re.size)).map (#[][· % (#[] : Array Value).size]!) := by rw [h0]; simp [madeCells]
      rw [hm] at hfill
      simp [execOp, ho, Instr.buildSlice, run_underlying hut, sizeOf, typeInfo, hi, his, h16, h0, newRow]
      rw [h0] at hfill
      simp at hfill
      simp [hfill]
    · simp [execOp, ho, Instr.buildSlice, run_underlying hut, sizeOf, typeInfo, zeroValue, hi, his, hz, h16, h0, newRow]
      unfold madeCells at hfill
      (try simp at hfill)
      simp [hfill]
  have hh : (w.alloc (.cells us e)).heap = w.heap.push (.cells us e) := rfl
  have hk' := keeps_push (fun b hb => (hW.fresh b hb).2) hh ⟨rfl, rfl⟩
  have hH := (holds_chunks hlm (len := len) h2 hcl).keep hk' (ext_setB (x := some ⟨w.heap.size, 0, re.size, ([] : List (Ty.den .bool)).length, ([] : List (Ty.den .bool)).length + ((List.range len).map fun i => (cs.drop (i * re.size)).take re.size).length⟩) hnone)
  have hself : (w.alloc (.cells us e)).heap[w.heap.size]? = some (.cells us e (0, 0)) := by rw [hh]; simp
  have hobj := hH.obj (l := nx) (c := us) (e := e) (b := w.heap.size) hself (fun j v hj => by simpa using hj) (by simp [setB]) (hW.fresh _ (Nat.le_refl _)).2
  obtain ⟨g1, g2⟩ := hW.push hh ⟨rfl, rfl⟩ hnone (p := ⟨w.heap.size, 0, re.size, ([] : List (Ty.den .bool)).length, ([] : List (Ty.den .bool)).length + ((List.range len).map fun i => (cs.drop (i * re.size)).take re.size).length⟩) rfl hobj (new := fun l => nx ≤ l ∧ l < nx + 1) ⟨Nat.le_refl _, by omega⟩
  refine .value (w' := w.alloc (.cells us e)) hrun ⟨φ, _, g1, ?_, g2⟩
  simp only [V, setB, if_true]
  refine ⟨len, by simp, by simp, us, e, _, hself, ?_⟩
  have := h2.length
  simp at this
  omega
end
end Go.Sim
