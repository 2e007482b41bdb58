/-
  SimEntry: from a row's arguments, which read as data, to the abstract machine's data; and back.
-/
import Derived.Test.YtpkjlefincabiaaDoorSimRow
import Derived.ProofKit
namespace Go.Sim
set_option linter.unusedSectionVars false
open Go.ChangeShapes Go.WideShapes Go.ChangeAt Go.RowKit
set_option linter.unusedSimpArgs false
set_option linter.unusedVariables false

mutual
/-- Which program's type is which type of data. -/
def tyRelB (P : Program) : Nat → TypeId → Ty → Bool
  | 0, _, _ => false
  | n + 1, t, y => match y, P.underlying t with
    | .bool, some .bool => true
    | .int k, some (.int k') => k' == k
    | .str, some .string => true
    | .sl e, some (.slice t') => tyRelB P n t' e && P.cellsOf t' == e.sz
    | .pair a b, some (.struct fs) => P.cellsOf t == a.sz + b.sz && fldRelB P n 0 fs.toList (.pair a b)
    | _, _ => false
def fldRelB (P : Program) : Nat → Nat → List Field → Ty → Bool
  | 0, _, _, _ => false
  | n + 1, off, [f], y => f.offset == off && P.cellsOf f.type == y.sz && tyRelB P n f.type y
  | n + 1, off, f :: g :: r, y => match y with
    | .pair a b => f.offset == off && P.cellsOf f.type == a.sz && tyRelB P n f.type a && fldRelB P n (off + a.sz) (g :: r) b
    | _ => false
  | _, _, [], _ => false
end
def tysRelB (P : Program) : List TypeId → List Ty → Bool
  | [], [] => true
  | t :: ts, y :: ys => tyRelB P 100 t y && tysRelB P ts ys
  | _, _ => false

/-- How much data there is. -/
def bulkT : (t : Ty) → t.den → Nat
  | .bool, _ => 1
  | .int _, _ => 1
  | .str, s => s.length + 1
  | .sl e, xs => (xs.map (bulkT e)).sum + 1
  | .pair a b, x => bulkT a x.1 + bulkT b x.2
def bulkTs : (ts : List Ty) → tysDen ts → Nat
  | [], _ => 0
  | t :: r, x => bulkT t x.1 + bulkTs r x.2

section
variable {P : Program} [Tabs P] {H : Type} {enc : TypeId × Value → H} {W : World} {sp : Nat → Bool}

/-- All that was there before is settled. -/
def phi0 (W : World) : Nat → Nat := fun b => match W.heap[b]? with
  | some (.cells c _ _) => c.size
  | _ => 0
theorem cell_phi0 {b o : Nat} {v : Value} {s : Option _} (h : W.cell? ⟨b, o, s⟩ = some v) : W.cell? ⟨b, o, none⟩ = some v ∧ o < phi0 W b ∧ s = none := by
  unfold World.cell? at h ⊢
  unfold phi0
  cases hb : W.heap[b]? with
  | none => simp [hb] at h
  | some ob =>
    cases ob with
    | cells c t fr =>
      simp only [hb] at h ⊢
      split at h
      · cases h
      · rename_i hs
        have : s = none := by simpa using hs
        subst this
        exact ⟨by simpa using h, (Array.getElem?_eq_some_iff.1 h).1, rfl⟩
    | _ => simp [hb] at h

/-- What is asked of a count of readings. -/
structure BulkOK (B : DataW H → Nat) : Prop where
  one : ∀ d, 1 ≤ B d
  str : ∀ b, b.length + 1 ≤ B (.lit (.string b))
  sl : ∀ es s, (es.map B).sum + 1 ≤ B (.slice es s)
  agg : ∀ ps, (ps.map B).sum ≤ B (.agg ps)

theorem pick_list {α γ : Type} {R : Nat → γ → Prop} {bk : γ → Nat} {B : α → Nat} : ∀ (es : List α) (o : Nat), (∀ (k : Nat) (e : α), es[k]? = some e → ∃ x, R (o + k) x ∧ bk x ≤ B e) →
    ∃ xs : List γ, xs.length = es.length ∧ (∀ (k : Nat) x, xs[k]? = some x → R (o + k) x) ∧ (xs.map bk).sum ≤ (es.map B).sum
  | [], o, _ => ⟨[], rfl, fun k x hk => by simp at hk, by simp⟩
  | e :: es, o, h => by
    obtain ⟨x, h1, h2⟩ := h 0 e rfl
    obtain ⟨xs, g1, g2, g3⟩ := pick_list (R := R) (bk := bk) (B := B) es (o + 1) fun k e' hk => by
      have := h (k + 1) e' (by simpa using hk)
      rw [show o + (k + 1) = o + 1 + k from by omega] at this
      exact this
    refine ⟨x :: xs, by simp [g1], fun k y hy => ?_, by simp; omega⟩
    cases k with
    | zero => simp at hy; subst hy; exact h1
    | succ k =>
      have := g2 k y (by simpa using hy)
      rw [show o + (k + 1) = o + 1 + k from by omega]
      exact this

theorem cells_row {a : Addr} {n : Nat} {ds : List Value} (h : W.cells? 0 a n = some ds) : ds.length = n ∧ ∀ i v, ds[i]? = some v → W.cell? (a.add i) = some v := by
  unfold World.cells? at h
  rw [if_pos (Nat.zero_le _)] at h
  have hl : ds.length = n := by simpa using mapM_some_length h
  refine ⟨hl, fun i v hi => ?_⟩
  have hlt : i < n := by have := (List.getElem?_eq_some_iff.1 hi).1; omega
  have := mapM_some_get h i i (by rw [List.getElem?_range hlt])
  rw [this]; exact hi

theorem wf_In {k : IntKind} {n : Int} (h : (Lit.int k n).wf = true) : In k n := by
  simp only [Lit.wf, Bool.and_eq_true, decide_eq_true_eq] at h
  exact h

mutual
theorem trod_Vt {B : DataW H → Nat} (hB : BulkOK B) : ∀ (n : Nat) (t : TypeId) (y : Ty), tyRelB P n t y = true → ∀ (fuel : Nat) (cs : List Value) (d : DataW H × List MemPlace),
    DataW.trod enc P W 0 sp true fuel t cs = some d → ∃ x : y.den, Vt (phi0 W) W y x cs ∧ bulkT y x ≤ B d.1
  | 0, t, y, h, _, _, _, _ => by simp [tyRelB] at h
  | n + 1, t, .bool, h, fuel, cs, d, hd => by
    have hu : P.underlying t = some .bool := by
      unfold tyRelB at h
      cases hu : P.underlying t with
      | none => rw [hu] at h; simp at h
      | some q => rw [hu] at h; cases q <;> simp at h; rfl
    obtain ⟨b, rfl, rfl⟩ := DataW.trod_bool hu hd
    exact ⟨b, rfl, hB.one _⟩
  | n + 1, t, .int k, h, fuel, cs, d, hd => by
    have hu : P.underlying t = some (.int k) := by
      unfold tyRelB at h
      cases hu : P.underlying t with
      | none => rw [hu] at h; simp at h
      | some q => rw [hu] at h; cases q <;> simp at h; rw [h]
    obtain ⟨b, rfl, rfl, hw⟩ := DataW.trod_int hu hd
    exact ⟨b, ⟨rfl, wf_In hw⟩, hB.one _⟩
  | n + 1, t, .str, h, fuel, cs, d, hd => by
    have hu : P.underlying t = some .string := by
      unfold tyRelB at h
      cases hu : P.underlying t with
      | none => rw [hu] at h; simp at h
      | some q => rw [hu] at h; cases q <;> simp at h; rfl
    obtain ⟨s, rfl, rfl, hw⟩ := DataW.trod_string hu hd
    refine ⟨s.data.toList, ⟨by cases s; rfl, ?_⟩, hB.str _⟩
    have e : s.data.toList.length = s.size := by rw [Array.length_toList]; rfl
    unfold maxLen at hw
    unfold maxL
    omega
  | n + 1, t, .sl e, h, fuel, cs, d, hd => by
    obtain ⟨t', hu, h1, h2⟩ : ∃ t', P.underlying t = some (.slice t') ∧ tyRelB P n t' e = true ∧ P.cellsOf t' = e.sz := by
      unfold tyRelB at h
      cases hu : P.underlying t with
      | none => rw [hu] at h; simp at h
      | some q => rw [hu] at h; cases q <;> simp at h; exact ⟨_, rfl, h⟩
    rcases DataW.trod_slice hu hd with ⟨rfl, rfl⟩ | ⟨a, len, cap, elems, rest, m, rfl, rfl, rfl, _, hlc, hcm, hel, hat, _, _⟩
    · exact ⟨[], Vt.nilSl e none, by simpa [bulkT] using hB.one _⟩
    · rw [h2] at hat
      obtain ⟨xs, g1, g2, g3⟩ := pick_list (R := fun i x => ∃ ds, Vt (phi0 W) W e x ds ∧ W.cells? 0 (a.add (i * e.sz)) e.sz = some ds) (bk := bulkT e) (B := fun x : DataW H × List MemPlace => B x.1) elems 0 fun k el hk => by
        have hlt : k < len := by rw [← hel]; exact (List.getElem?_eq_some_iff.1 hk).1
        have := hat k hlt
        rw [hk] at this
        obtain ⟨ds, hc, ht⟩ := Option.bind_eq_some_iff.1 this
        obtain ⟨x, hx, hb⟩ := trod_Vt hB n t' e h1 m ds el ht
        rw [Nat.zero_add]
        exact ⟨x, ⟨ds, hx, hc⟩, hb⟩
      refine ⟨xs, ⟨by unfold maxLen at hcm; unfold maxL; omega, some a, cap, by rw [g1, hel], by omega, fun i x hx => ?_⟩, ?_⟩
      · obtain ⟨ds, hx1, hx2⟩ := g2 i x hx
        rw [Nat.zero_add] at hx2
        obtain ⟨hl, hc⟩ := cells_row hx2
        have hpos := sz_pos e
        have hspot : a.spot = none := by
          have hxl : 0 < xs.length := by have := (List.getElem?_eq_some_iff.1 hx).1; omega
          obtain ⟨d0, _, e2⟩ := g2 0 xs[0] (List.getElem?_eq_getElem hxl)
          obtain ⟨hl0, hc0⟩ := cells_row e2
          have h0 : 0 < d0.length := by omega
          have := hc0 0 _ (List.getElem?_eq_getElem h0)
          have e0 : (a.add ((0 + 0) * e.sz)).add 0 = a := by simp [Addr.add]
          rw [e0] at this
          exact (cell_phi0 this).2.2
        refine ⟨a, ds, rfl, hspot, hx1, fun j v hj => ?_⟩
        have := hc j v hj
        rw [addr_add' hspot, addr_add' rfl] at this
        have h3 := cell_phi0 this
        exact ⟨h3.1, h3.2.1⟩
      · simp only [bulkT]
        have := hB.sl (elems.map (·.1)) (rest.map (·.1))
        rw [List.map_map] at this
        exact Nat.le_trans (Nat.add_le_add_right g3 1) this
  | n + 1, t, .pair a b, h, fuel, cs, d, hd => by
    obtain ⟨fs, hu, h1, h2⟩ : ∃ fs, P.underlying t = some (.struct fs) ∧ P.cellsOf t = a.sz + b.sz ∧ fldRelB P n 0 fs.toList (.pair a b) = true := by
      unfold tyRelB at h
      cases hu : P.underlying t with
      | none => rw [hu] at h; simp at h
      | some q => rw [hu] at h; cases q <;> simp at h; exact ⟨_, rfl, h⟩
    obtain ⟨xs, m, rfl, rfl, hl, hxl, hf⟩ := DataW.trod_struct hu hd
    obtain ⟨x, hx, hb⟩ := fld_Vt hB n 0 fs.toList (.pair a b) h2 m cs xs (by rw [hl, h1]; simp [Ty.sz]) (by simpa using hxl) (fun i f hi => hf i f (by simpa using hi))
    refine ⟨x, by simpa using hx, Nat.le_trans hb ?_⟩
    have := hB.agg (xs.map (·.1))
    rw [List.map_map] at this
    exact this
theorem fld_Vt {B : DataW H → Nat} (hB : BulkOK B) : ∀ (n : Nat) (off : Nat) (fs : List Field) (y : Ty), fldRelB P n off fs y = true → ∀ (fuel : Nat) (cs : List Value) (xs : List (DataW H × List MemPlace)), cs.length = off + y.sz → xs.length = fs.length →
    (∀ (i : Nat) (f : Field), fs[i]? = some f → DataW.trod enc P W 0 sp true fuel f.type ((cs.drop f.offset).take (P.cellsOf f.type)) = xs[i]?) → ∃ x : y.den, Vt (phi0 W) W y x (cs.drop off) ∧ bulkT y x ≤ (xs.map (B ·.1)).sum
  | 0, off, fs, y, h, _, _, _, _, _, _ => by simp [fldRelB] at h
  | n + 1, off, [], y, h, _, _, _, _, _, _ => by simp [fldRelB] at h
  | n + 1, off, [f], y, h, fuel, cs, xs, hl, hx, hf => by
    simp only [fldRelB, Bool.and_eq_true, beq_iff_eq] at h
    obtain ⟨⟨h1, h2⟩, h3⟩ := h
    match xs, hx with
    | [d], _ =>
      have := hf 0 f rfl
      rw [h1, h2, List.take_of_length_le (by simp; omega)] at this
      obtain ⟨x, hx, hb⟩ := trod_Vt hB n f.type y h3 fuel _ d this
      exact ⟨x, hx, by simpa using hb⟩
  | n + 1, off, f :: g :: r, y, h, fuel, cs, xs, hl, hx, hf => by
    cases y with
    | pair a b =>
      simp only [fldRelB, Bool.and_eq_true, beq_iff_eq] at h
      obtain ⟨⟨⟨h1, h2⟩, h3⟩, h4⟩ := h
      match xs, hx with
      | d :: xs', hx =>
        have h0 := hf 0 f rfl
        rw [h1, h2] at h0
        obtain ⟨x1, hx1, hb1⟩ := trod_Vt hB n f.type a h3 fuel _ d h0
        obtain ⟨x2, hx2, hb2⟩ := fld_Vt hB n (off + a.sz) (g :: r) b h4 fuel cs xs' (by rw [hl]; simp [Ty.sz]; omega) (by simpa using hx) (fun i f' hi => by simpa using hf (i + 1) f' (by simpa using hi))
        refine ⟨(x1, x2), ⟨(cs.drop off).take a.sz, cs.drop (off + a.sz), ?_, hx1, hx2⟩, by simp [bulkT]; omega⟩
        rw [← List.drop_drop, List.take_append_drop]
    | _ => simp [fldRelB] at h
end

theorem rel_agg : ∀ {n : Nat} {t : TypeId} {y : Ty}, tyRelB P n t y = true → (1 < y.sz → ∃ fs, P.underlying t = some (.struct fs)) ∧ (y.sz = 1 → ∃ d, P.underlying t = some d ∧ aggB d = false)
  | 0, t, y, h => by simp [tyRelB] at h
  | n + 1, t, y, h => by
    unfold tyRelB at h
    cases hu : P.underlying t with
    | none => rw [hu] at h; cases y <;> simp at h
    | some q =>
      rw [hu] at h
      cases y with
      | pair a b =>
        cases q <;> simp at h
        have h1 := sz_pos a
        have h2 := sz_pos b
        exact ⟨fun _ => ⟨_, rfl⟩, fun e => by simp [Ty.sz] at e; omega⟩
      | _ => cases q <;> simp [Ty.sz] at h ⊢ <;> simp [aggB]

/-- One argument. -/
theorem arg_V {B : DataW H → Nat} (hB : BulkOK B) {t : TypeId} {y : Ty} (hr : tyRelB P 100 t y = true) {v : Value} {r : Reach} {b0 : Nat} (hval : Value.okWide P W r b0 t v) {d : DataW H} {ps : List MemPlace} (hd : DataW.Trod enc P W 0 sp true t v d ps) :
    ∃ x : y.den, V (phi0 W) (fun _ => none) W (valOf y x) v ∧ bulkT y x ≤ B d := by
  obtain ⟨fuel, hf⟩ := hd
  obtain ⟨x, hx, hb⟩ := trod_Vt hB 100 t y hr fuel _ _ hf
  refine ⟨x, ?_, hb⟩
  have hl := enc_length y x
  have hlen := Vt.length _ _ _ hx
  have hE := Vt.enc (β := fun _ => none) _ _ _ hx
  by_cases h1 : 1 < y.sz
  · obtain ⟨fs, hu⟩ := (rel_agg hr).1 h1
    unfold Value.okWide at hval
    rw [hu] at hval
    obtain ⟨cs, rfl, _⟩ := hval
    unfold valOf
    match he : Sim.enc y x with
    | [] => rw [he] at hl; simp at hl; omega
    | [c] => rw [he] at hl; simp at hl; omega
    | c :: c2 :: r =>
      simp only [V]
      rw [he] at hE
      exact ⟨cs.toList, by simp, by simpa [Value.cells] using hE⟩
  · have h0 := sz_pos y
    obtain ⟨q, hu, hq⟩ := (rel_agg hr).2 (by omega)
    have hone : v.cells = #[v] := by
      unfold Value.okWide at hval
      rw [hu] at hval
      cases v with
      | agg cs =>
        exfalso
        revert hval
        cases q <;> simp [aggB] at hq <;> simp [Cell.okWide, Cell.ok, hu]
      | _ => rfl
    unfold valOf
    match he : Sim.enc y x with
    | [] => rw [he] at hl; simp at hl; omega
    | [c] =>
      rw [he, hone] at hE
      simp only [VL] at hE
      obtain ⟨u, us, e1, hV, _⟩ := hE
      simp at e1
      rw [e1.1]; exact hV
    | c :: c2 :: r => rw [he] at hl; simp at hl; omega

theorem args_V {B : DataW H → Nat} (hB : BulkOK B) : ∀ {tids : List TypeId} {ts : List Ty}, tysRelB P tids ts = true → ∀ {vs : List Value} {ds : List (DataW H)} {ps : List MemPlace}, (∀ (j : Nat) t v, tids[j]? = some t → vs[j]? = some v → ∃ r b0, Value.okWide P W r b0 t v) →
    DataW.TrodAll enc P W 0 sp true tids vs ds ps → ∃ x : tysDen ts, VL (phi0 W) (fun _ => none) W (valsOf ts x) vs ∧ bulkTs ts x ≤ (ds.map B).sum
  | [], [], _, [], [], ps, _, _ => ⟨(), rfl, Nat.le_refl _⟩
  | [], [], _, _ :: _, _, ps, _, h => by simp [DataW.TrodAll] at h
  | [], [], _, [], _ :: _, ps, _, h => by simp [DataW.TrodAll] at h
  | [], _ :: _, hr, _, _, _, _, _ => by simp [tysRelB] at hr
  | _ :: _, [], hr, _, _, _, _, _ => by simp [tysRelB] at hr
  | t :: tids, y :: ts, hr, [], _, ps, _, h => by simp [DataW.TrodAll] at h
  | t :: tids, y :: ts, hr, _ :: _, [], ps, _, h => by simp [DataW.TrodAll] at h
  | t :: tids, y :: ts, hr, v :: vs, d :: ds, ps, hval, h => by
    simp only [tysRelB, Bool.and_eq_true] at hr
    obtain ⟨p, q, h1, h2, _⟩ := h
    obtain ⟨r, b0, hv⟩ := hval 0 t v rfl rfl
    obtain ⟨x, hx, hb⟩ := arg_V hB hr.1 hv h1
    obtain ⟨xs, hxs, hbs⟩ := args_V hB hr.2 (fun j t' v' ht hv' => hval (j + 1) t' v' (by simpa using ht) (by simpa using hv')) h2
    exact ⟨(x, xs), .cons hx hxs, by simp [bulkTs]; omega⟩

theorem trodAll_stays (hl : laidOutB P = true) {W' : World} (hsame : ∀ b, b < W.heap.size → W'.heap[b]? = W.heap[b]?) : ∀ {tids : List TypeId}, (∀ t ∈ tids, P.readableRec t = true ∧ t < P.types.size) → ∀ {vs : List Value} {ds : List (DataW H)} {ps : List MemPlace},
    (∀ p ∈ ps, p.block < W.heap.size) → DataW.TrodAll enc P W 0 (fun _ => true) true tids vs ds ps → DataW.TrodAll enc P W' 0 (fun b => decide (b < W.heap.size)) true tids vs ds ps
  | [], _, [], [], ps, _, h => h
  | [], _, _ :: _, _, ps, _, h => by simp [DataW.TrodAll] at h
  | [], _, [], _ :: _, ps, _, h => by simp [DataW.TrodAll] at h
  | t :: tids, _, [], _, ps, _, h => by simp [DataW.TrodAll] at h
  | t :: tids, _, _ :: _, [], ps, _, h => by simp [DataW.TrodAll] at h
  | t :: tids, hr, v :: vs, d :: ds, ps, hlt, h => by
    obtain ⟨p, q, h1, h2, rfl⟩ := h
    refine ⟨p, q, ?_, trodAll_stays hl hsame (fun t' ht' => hr t' (List.mem_cons_of_mem _ ht')) (fun x hx => hlt x (List.mem_append_right _ hx)) h2, rfl⟩
    refine WideElems.Trod_stays hl (hr t (by simp)).1 (hr t (by simp)).2 h1 (fun x hx => ?_) (fun x hx => by simpa using hlt x (List.mem_append_left _ hx))
    have := hlt x (List.mem_append_left _ hx)
    cases x with
    | cell b o => exact World.cell?_of_block (w := W) (hsame b this)
    | map b => exact hsame b this

theorem keptBut_of {W' : World} (ho : W'.os = W.os ∧ W'.output = W.output) (hsame : ∀ b, b < W.heap.size → W'.heap[b]? = W.heap[b]?) (may : MemPlace → Prop) : W.keptBut W' may := by
  refine ⟨ho.1, ho.2, fun i hi => ?_⟩
  rw [hsame i hi]
  split
  · rename_i c t fr c' t' fr' h1 h2
    rw [h1] at h2
    cases h2
    exact ⟨rfl, rfl, rfl, fun _ _ => rfl⟩
  · rename_i es cl es' cl' h1 h2
    rw [h1] at h2
    cases h2
    exact .inr ⟨rfl, rfl⟩
  · rfl

theorem trodAll_len {n : Nat} {b : Bool} : ∀ {tids : List TypeId} {vs : List Value} {ds : List (DataW H)} {ps : List MemPlace}, DataW.TrodAll enc P W n sp b tids vs ds ps → ds.length = tids.length
  | [], [], [], ps, _ => rfl
  | [], _ :: _, _, ps, h => by simp [DataW.TrodAll] at h
  | [], [], _ :: _, ps, h => by simp [DataW.TrodAll] at h
  | t :: tids, [], _, ps, h => by simp [DataW.TrodAll] at h
  | t :: tids, _ :: _, [], ps, h => by simp [DataW.TrodAll] at h
  | t :: tids, v :: vs, d :: ds, ps, h => by
    obtain ⟨p, q, h1, h2, _⟩ := h
    simp [trodAll_len h2]

/-- A law's call, out of its contract. -/
theorem law_calls {f : FuncId} {fn : Func} {s : ChangeSpec} {ts : List Ty} {bt : TypeId} (hl : laidOutB P = true) (hr : tysRelB P fn.params.toList ts = true) (hread : ∀ t ∈ fn.params.toList, P.readableRec t = true ∧ t < P.types.size)
    (hvars : s.vars = []) (hres : fn.resultTypes.toList = [bt]) (hbt : P.underlying bt = some .bool) {B : DataW H → Nat} (hB : BulkOK B)
    {W : World} {args : Array Value} {ds gs : List (DataW H)} {before : List MemPlace} {r : Reach} {base : Nat} (hval : ∀ (j : Nat) t v, fn.params[j]? = some t → args[j]? = some v → Value.okWide P W r base t v)
    (hW : DataW.Whole enc P fn.params.toList s.vars false W args.toList ds gs before) (hfn0 : ds.length = fn.params.toList.length → (s.fn H ds).results = [.lit (.bool true)] ∧ (s.fn H ds).args = ds ∧ (s.fn H ds).vars = [])
    (hL : LaidT P (phi0 W) W)
    (hlaw : ∀ x : tysDen ts, bulkTs ts x ≤ (ds.map B).sum → tysWf ts x → ∃ objs', EffGood P f (valsOf ts x) [] (.bool true) objs') :
    Calls P f args W fun e W' => ∃ v, e = .returned v ∧ s.post enc P fn false true false false W args v W' := by
  have hlt := hW.lt
  have hW' := hW
  obtain ⟨p, q, hA, hV, rfl, hfz, hnd⟩ := hW
  rw [hvars] at hV
  obtain ⟨rfl, rfl⟩ := trodVars_none hV
  obtain ⟨x, hx, hb⟩ := args_V hB hr (fun j t v ht hv => ⟨r, base, hval j t v (by simpa using ht) (by simpa using hv)⟩) hA
  obtain ⟨objs', hG⟩ := hlaw x hb (valsOf_wf hx)
  have hfn : (s.fn H (ds ++ [])).results = [.lit (.bool true)] ∧ (s.fn H (ds ++ [])).args = ds ∧ (s.fn H (ds ++ [])).vars = [] := by
    rw [List.append_nil]
    exact hfn0 (trodAll_len hA)
  have hc := hG.pure (valsOf_closed _ _) rfl (phi0 W) (fun _ => none) W args.toList hx (fun b hb => by
    unfold phi0
    have : W.heap[b]? = none := by simpa using hb
    rw [this]) hL
  rw [Array.toArray_toList] at hc
  refine hc.mono fun e W' ⟨v, φ', he, hk, hg, hold, _, hv⟩ => ?_
  have hv : v = .bool true := hv
  subst hv
  refine ⟨_, he, ds, [], _, [], p, [], hW', ?_, ?_, ?_, ?_, fun h => by cases h⟩
  · rw [hres, hfn.1]
    have hrl : (Value.bool true).resultList fn.resultTypes.size = [.bool true] := by
      have : fn.resultTypes.size = 1 := by rw [← Array.length_toList, hres]; rfl
      rw [this]; rfl
    rw [hrl]
    exact ⟨[], [], ⟨1, by simp [DataW.trod, hbt, Value.cells]⟩, rfl, rfl⟩
  · rw [hfn.2.1]
    exact trodAll_stays hl (fun b hb => (hold b hb).1) hread (fun p hp => hlt p (List.mem_append_left _ hp)) hA
  · rw [hvars, hfn.2.2]; exact rfl
  · exact keptBut_of hk.out (fun b hb => (hold b hb).1) _
end
end Go.Sim
