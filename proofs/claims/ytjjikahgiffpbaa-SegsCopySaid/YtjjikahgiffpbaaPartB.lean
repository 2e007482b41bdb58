/-
  SimM: append; a row that is made; a row that is written out. · SimN: rows that are made or written out, structs that are built, conversions with bytes, calls. · SimO: bytes and strings, maps, elements of arrays by value, calls. · SimP: lookup, update, delete; calls of functions whose contract is known. · SimPa: objects numbered anew: what a value says, what an object says, is the same. · SimPb: calls of functions whose contract is known. · SimQ: the evaluation of operations is sound. · SimR: the evaluation of operations is sound (the rest). · SimTl: 'append' of one element onto a row whose last element lies open; the new last one lies open, the elder one is data from then on.
-/
import Derived.Test.YtjjikahgiffpbaaPartA
namespace Go.Sim
set_option linter.unusedSectionVars false
set_option linter.unusedSimpArgs false
set_option linter.unusedVariables false
section
variable {P : Program} [Tabs P] {o : Oper} {get : Nat → AObj} {nx : Nat} {ρ : Operand → AV}
variable {own : Own P} {φ φ' : Nat → Nat} {β β' : Beta} {w w' : World}
theorem ty_size {E : Env} (hE : EnvOK P E) {e : TypeId} {re : TRow} {t : Ty} (hr : E.row e = some re) (ht : E.tyOf e = some t) : re.size = t.sz := by
  obtain ⟨i, z, hi, hs, _⟩ := (hE.row e re hr).info
  have h := hE.ty e t ht
  cases t with
  | bool => obtain ⟨_, j, hj, hjs, _⟩ := h; rw [hi] at hj; cases hj; rw [← hs, hjs]; rfl
  | int k => obtain ⟨_, j, hj, hjs, _⟩ := h; rw [hi] at hj; cases hj; rw [← hs, hjs]; rfl
  | str => obtain ⟨_, j, hj, hjs, _⟩ := h; rw [hi] at hj; cases hj; rw [← hs, hjs]; rfl
  | sl y => obtain ⟨j, _, hj, hjs, _⟩ := h; rw [hi] at hj; cases hj; rw [← hs, hjs]
  | pair a b => obtain ⟨j, _, hj, hjs, _⟩ := h; rw [hi] at hj; cases hj; rw [← hs, hjs]
  | raw => obtain ⟨j, _, hj, hjs, _⟩ := h; rw [hi] at hj; cases hj; rw [← hs, hjs]
def NoInt (d : TypeDesc) : Prop := (∃ e, d = .slice e) ∨ d = .string
theorem run_append_in (w : World) {t u e : TypeId} {ty : TypeId} {d : TypeDesc} {re : TRow} {y : Ty} (ht : P.underlying t = some (.slice e)) (hu : P.underlying u = some d) (hd : NoInt d) (he : RowOK P e re) (hsz : re.size = y.sz)
    {b off sLen sCap : Nat} {x : Value} {ys : List y.den} {news : List Value} (hs : Src P φ w y ys x news) (hroom : sLen + ys.length ≤ sCap)
    (hc : ∀ j, j < news.length → (w.cell? ⟨b, off + sLen * y.sz + j, none⟩).isSome = true) (hf : ∀ j, j < news.length → w.frozen? ⟨b, off + sLen * y.sz + j, none⟩ = false) :
    (Builtin.append_ #[t, u] ty #[.slice (some ⟨b, off, none⟩) sLen sCap, x]).run P w = .ok (.slice (some ⟨b, off, none⟩) (sLen + ys.length) sCap) (w.setCells b (off + sLen * y.sz) news) := by
  obtain ⟨i, z, hi, his, hib, hz, _⟩ := he.info
  have hst := run_storeCells_cells (P := P) b (off + sLen * y.sz) news 0 w (by simpa using hc) (by simpa using hf) hs.one
  simp only [Nat.add_zero] at hst
  have hl := hs.lenOf w
  have hfc := hs.first w rfl
  rcases hd with ⟨e', rfl⟩ | rfl <;> simp [Builtin.append_, run_underlying ht, run_underlying hu, sizeOf, typeInfo, hi, his, hsz, hl, hroom, hfc, addr_add, hst]
theorem run_append_in_nil (w : World) {t u e : TypeId} {ty : TypeId} {d : TypeDesc} {re : TRow} {y : Ty} (ht : P.underlying t = some (.slice e)) (hu : P.underlying u = some d) (hd : NoInt d) (he : RowOK P e re) (hsz : re.size = y.sz)
    {A : Option Addr} {x : Value} {news : List Value} (hs : Src P φ w y [] x news) :
    (Builtin.append_ #[t, u] ty #[.slice A 0 0, x]).run P w = .ok (.slice A 0 0) w := by
  obtain ⟨i, z, hi, his, hib, hz, _⟩ := he.info
  have hl := hs.lenOf w
  have hfc := hs.first w rfl
  have hn : news = [] := by have := hs.len; simpa using this
  subst hn
  simp only [List.length_nil] at hl hfc
  rcases hd with ⟨e', rfl⟩ | rfl <;> cases A <;> simp [Builtin.append_, run_underlying ht, run_underlying hu, sizeOf, typeInfo, hi, his, hsz, hl, hfc, storeCells]
theorem lim_max {n b : Nat} (hb : b ≠ 0) (h : n * b ≤ 140737488355328) : n ≤ maxL := by
  have : n * 1 ≤ n * b := Nat.mul_le_mul_left n (by omega)
  unfold maxL; omega
theorem run_append_out (w : World) {t u e : TypeId} {ty : TypeId} {d : TypeDesc} {re : TRow} {y : Ty} (ht : P.underlying t = some (.slice e)) (hu : P.underlying u = some d) (hd : NoInt d) (he : RowOK P e re) (hsz : re.size = y.sz)
    {A : Option Addr} {sLen sCap : Nat} {x : Value} {ys : List y.den} {news olds : List Value} (hs : Src P φ w y ys x news) (hold : ∀ w2 : World, w2.heap = w.heap → (Builtin.firstCells y.sz sLen (.slice A sLen sCap)).run P w2 = .ok olds.toArray w2)
    (hroom : sCap < sLen + ys.length) (hb0 : re.bytes ≠ 0) (hb : (sLen + ys.length) * re.bytes ≤ 140737488355328) :
    ∃ cap c, (sLen + ys.length ≤ cap ∧ cap ≤ maxL) ∧ c.size = (olds.length + news.length) + (cap - (sLen + ys.length)) * y.sz ∧ (∀ (j : Nat) v, (olds ++ news)[j]? = some v → c[j]? = some v) ∧
      (Builtin.append_ #[t, u] ty #[.slice A sLen sCap, x]).run P w = .ok (.slice (some ⟨w.heap.size, 0, none⟩) (sLen + ys.length) cap) (w.drew.alloc (.cells c e)) := by
  obtain ⟨i, z, hi, his, hib, hz, hzl, _⟩ := he.info
  have hl := hs.lenOf w
  have hfc := hs.first w.drew rfl
  have hfo := hold w.drew rfl
  have hn : ¬ (sLen + ys.length ≤ sCap) := by omega
  have hfit := growslice_fits hroom hb
  have h48' : ¬ (281474976710656 < Builtin.nextslicecap (sLen + ys.length) sCap * i.bytes) := by rw [hib]; omega
  have hbn : ¬ (i.bytes = 0) := by rw [hib]; exact hb0
  refine ⟨grownCap w (sLen + ys.length) sCap e, olds.toArray ++ news.toArray ++ Builtin.zeroCells z.cells (grownCap w (sLen + ys.length) sCap e - (sLen + ys.length)), ⟨grownCap_ge _ _ _ _, grownCap_le_maxLen _ _ _ _ (by have := lim_max hb0 hb; unfold maxL at this; unfold maxLen; omega)⟩, ?_, fun j v hv => ?_, ?_⟩
  · simp only [Array.size_append, List.size_toArray, size_zeroCells]
    have : z.cells.size = y.sz := by rw [← hsz, ← hzl]; simp
    rw [this]
  · have hj := (List.getElem?_eq_some_iff.1 hv).1
    rw [Array.getElem?_append_left (by simpa using hj)]
    simpa using hv
  · rcases hd with ⟨e', rfl⟩ | rfl <;> (simp [Builtin.append_, run_underlying ht, run_underlying hu, sizeOf, typeInfo, zeroValue, hi, his, hz, hl, hn, h48', hbn, hsz, Question.forced, hfc, hfo, newRow, grownCap]; congr 2; apply Array.ext'; simp [List.append_assoc])
theorem two_patch {get : Nat → AObj} {l nx : Nat} {a : AObj} : upd [(nx, a), (l, .dead)] get = upd [(nx, a)] (upd [(l, .dead)] get) := upd_append [(nx, a)] [(l, .dead)] get
theorem append_new (hW : WInv own φ β get w) {nx : Nat} (hn : β nx = none) {new : Nat → Prop} (hnew : new nx) {t : Ty} {xs : List t.den} {cells : List Value} (hlen : cells.length = xs.length * t.sz)
    (htyped : ∀ i y, xs[i]? = some y → ∃ ds, Vt φ w t y ds ∧ ∀ j v, ds[j]? = some v → cells[i * t.sz + j]? = some v) {c : Array Value} {e : TypeId} {cap : Nat} (hmx : xs.length ≤ maxL) (hcap : xs.length ≤ cap ∧ cap ≤ maxL) (hcs : c.size = cells.length + (cap - xs.length) * t.sz)
    (hc : ∀ (j : Nat) v, cells[j]? = some v → c[j]? = some v) {w' : World} (hw' : w' = w.drew.alloc (.cells c e) ∨ w' = w.alloc (.cells c e)) :
    ∃ φ' β', Step own new φ β w φ' β' w' ∧ V φ' β' w' (.hw nx) (.slice (some ⟨w.heap.size, 0, none⟩) xs.length cap) ∧ WInv own φ' β' (upd [(nx, .arr t.sz t xs [])] get) w' := by
  have hh : w'.heap = w.heap.push (.cells c e) := by rcases hw' with rfl | rfl <;> rfl
  have hou : w'.os = w.os ∧ w'.output = w.output := by rcases hw' with rfl | rfl <;> exact ⟨rfl, rfl⟩
  have hk := keeps_push (fun b hb => (hW.fresh b hb).2) hh hou
  have hH : Holds φ (setB β nx (some ⟨w.heap.size, 0, t.sz, xs.length, xs.length + ([] : List (List AV)).length⟩)) w' t.sz t xs [] cells := by
    refine ⟨by simpa using hmx, fun _ => rfl, by simp [hlen], fun i x hi => ?_, fun q e hq => by simp at hq⟩
    obtain ⟨ds, h1, h2⟩ := htyped i x hi
    exact ⟨ds, Vt.keep hk _ _ _ h1, h2⟩
  have hself : w'.heap[w.heap.size]? = some (.cells c e (0, 0)) := by rw [hh]; simp
  have hobj := hH.obj (l := nx) (c := c) (e := e) (b := w.heap.size) hself hc (by simp [setB]) (hW.fresh _ (Nat.le_refl _)).2
  obtain ⟨h1, h2⟩ := hW.push hh hou hn (p := ⟨w.heap.size, 0, t.sz, xs.length, xs.length + ([] : List (List AV)).length⟩) rfl hobj hnew
  refine ⟨φ, _, h1, ?_, h2⟩
  simp only [V, setB, if_true]
  refine ⟨cap, by simp, by simpa using hcap.1, hcap.2, c, e, _, hself, ?_⟩
  rw [hcs, hlen]
  have hcap := hcap.1
  have : cap * t.sz = xs.length * t.sz + (cap - xs.length) * t.sz := by rw [← Nat.add_mul]; congr 1; omega
  omega
theorem good_append_nil {E : Env} (hE : EnvOK P E) {c : Call} {t u e : TypeId} {rt ru re : TRow} (ho : o.op = .call c) (hc : c.callee = .builtin .append) (hat : c.argTypes.toList = [t, u]) (hrt : E.row t = some rt) (hkt : rt.kind = .slice e) (hru : E.row u = some ru) (hku : (∃ e', ru.kind = .slice e') ∨ ru.kind = .str)
    (hre : E.row e = some re) {y : Ty} (hty : E.tyOf e = some y) (hb0 : re.bytes ≠ 0) {s : AV} (hargs : c.args.toList.map ρ = [.nils, s]) {ys : List y.den} {rd : List Nat} (he : elems get y s = some (ys, rd)) (hlim : ys.length * re.bytes ≤ 140737488355328) :
    if ys = [] then OpGood P o get nx ρ .nils [] rd nx else OpGood P o get nx ρ (.hw nx) [(nx, .arr re.size y ys [])] rd (nx + 1) := by
  have hsz := ty_size hE hre hty
  have hut := (hE.row t rt hrt).slice_kind hkt
  have huu : ∃ d, P.underlying u = some d ∧ NoInt d := by
    rcases hku with ⟨e', h⟩ | h
    · exact ⟨_, (hE.row u ru hru).slice_kind h, .inl ⟨_, rfl⟩⟩
    · exact ⟨_, (hE.row u ru hru).str_kind h, .inr rfl⟩
  obtain ⟨d, hud, hd⟩ := huu
  have hat' : c.argTypes = #[t, u] := by apply Array.ext'; simpa using hat
  have main : ∀ (own : Own P) get' φ β w (ρv : Operand → Value), (∀ l, l ∈ rd → get' l = get l) → (∀ x, x ∈ o.op.operands.toList → V φ β w (ρ x) (ρv x)) → WInv own φ β get' w →
      ∃ A x cs news, Src P φ w y ys x news ∧ execOp ρv o = builtin .append #[t, u] o.type cs #[.slice A 0 0, x] ∧ A = none := by
    intro own get' φ β w ρv hget hv hW
    have ha := call_args ho hv
    rw [hargs] at ha
    simp only [VL] at ha
    obtain ⟨u1, us, hu1, hV1, u2, us', rfl, hV2, rfl⟩ := ha
    obtain rfl : u1 = .slice none 0 0 := by simpa only [V] using hV1
    obtain ⟨news, hs⟩ := elems_sound he hget hW hV2
    obtain ⟨cs, hrun⟩ := run_builtin hc ho ρv
    rw [map_toList_eq hu1, hat'] at hrun
    exact ⟨none, u2, cs, news, hs, hrun, rfl⟩
  by_cases hys : ys = []
  · rw [if_pos hys]
    subst hys
    refine .pure fun own get' φ β w ρv hget hv hW => ?_
    obtain ⟨A, x, cs, news, hs, hrun, rfl⟩ := main own get' φ β w ρv hget hv hW
    refine ⟨.slice none 0 0, ?_, by simp only [V]⟩
    rw [hrun]
    have := run_append_in_nil (P := P) w (ty := o.type) hut hud hd (hE.row e re hre) hsz (A := none) hs
    simp [builtin, this]
  · rw [if_neg hys]
    refine ⟨Nat.le_succ _, fun own get' φ β w ρv hget hfr hv hW => ?_⟩
    obtain ⟨A, x, cs, news, hs, hrun, _⟩ := main own get' φ β w ρv hget hv hW
    have hpos : 0 < ys.length := List.length_pos_iff.2 hys
    obtain ⟨cap, c', h1, h2, h3, h4⟩ := run_append_out (P := P) w (ty := o.type) hut hud hd (hE.row e re hre) hsz (A := A) (sLen := 0) (sCap := 0) (olds := []) hs
      (fun w2 _ => by cases A <;> simp [Builtin.firstCells, loadCells, loadCellsFrom]) (by omega) hb0 (by simpa using hlim)
    simp only [Nat.zero_add, List.length_nil, List.nil_append] at h1 h2 h3 h4
    obtain ⟨φ', β', g1, g2, g3⟩ := append_new (nx := nx) hW (hfr nx (Nat.le_refl _) (by omega)).2 (new := fun l => nx ≤ l ∧ l < nx + 1) ⟨Nat.le_refl _, by omega⟩ hs.len hs.typed (lim_max hb0 hlim) h1 h2 h3 (.inl rfl)
    rw [hsz]
    refine .value (w' := w.drew.alloc (.cells c' e)) (u := .slice (some ⟨w.heap.size, 0, none⟩) ys.length cap) ?_ ⟨φ', β', g1, g2, g3⟩
    rw [hrun]
    simp [builtin, h4]
theorem WInv.addNone {get : Nat → AObj} (hW : WInv own φ β get w) {l sz : Nat} {t : Ty} (hl : β l = none) {new : Nat → Prop} (hn : new l) :
    Step own new φ β w φ (setB β l none) w ∧ WInv own φ (setB β l none) (upd [(l, .arr sz t [] [])] get) w := by
  refine ⟨⟨.refl _ _, ext_setB hl, fun m hm => by unfold setB; rw [if_neg (by intro e; subst e; exact hm hn)], Nat.le_refl _, fun _ _ _ => ⟨rfl, rfl⟩⟩, ?_⟩
  refine hW.change (.refl _ _) (ext_setB hl) (Nat.le_refl _) l _ (fun _ _ _ _ _ => ⟨rfl, rfl⟩) (by simp [ObjRel, setB]) (fun m hm => by unfold setB; rw [if_neg hm]) (fun _ p hp => by simp [setB] at hp) (fun b hb => (hW.fresh b hb).2)
theorem good_append_nil2 {E : Env} (hE : EnvOK P E) {c : Call} {t u e : TypeId} {rt ru re : TRow} (ho : o.op = .call c) (hc : c.callee = .builtin .append) (hat : c.argTypes.toList = [t, u]) (hrt : E.row t = some rt) (hkt : rt.kind = .slice e) (hru : E.row u = some ru) (hku : (∃ e', ru.kind = .slice e') ∨ ru.kind = .str)
    (hre : E.row e = some re) {y : Ty} (hty : E.tyOf e = some y) (hb0 : re.bytes ≠ 0) {s : AV} (hargs : c.args.toList.map ρ = [.nils, s]) {ys : List y.den} {rd : List Nat} (he : elems get y s = some (ys, rd)) (hlim : ys.length * re.bytes ≤ 140737488355328) :
    OpGood P o get nx ρ (.hw nx) [(nx, .arr re.size y ys [])] rd (nx + 1) := by
  have h := good_append_nil (nx := nx) hE ho hc hat hrt hkt hru hku hre hty hb0 hargs he hlim
  by_cases hys : ys = []
  · rw [if_pos hys] at h
    subst hys
    refine ⟨Nat.le_succ _, fun own get' φ β w ρv hget hfr hv hW => ?_⟩
    refine (h.2 own get' φ β w ρv hget (fun l h1 h2 => by omega) hv hW).mono fun u w' ⟨φ', β', h1, h2, h3⟩ => ?_
    have hl : β' nx = none := by rw [h1.agree nx (by omega)]; exact (hfr nx (Nat.le_refl _) (by omega)).2
    obtain ⟨g1, g2⟩ := h3.addNone (sz := re.size) (t := y) hl (new := fun l => nx ≤ l ∧ l < nx + 1) ⟨Nat.le_refl _, by omega⟩
    refine ⟨φ', _, h1.trans g1 (fun l hl => by rcases hl with hl | hl <;> omega), ?_, g2⟩
    simp only [V] at h2 ⊢
    simpa [setB] using (⟨none, h2⟩ : ∃ A, u = .slice A 0 0)
  · rw [if_neg hys] at h
    exact h
theorem good_append_own {E : Env} (hE : EnvOK P E) {c : Call} {t u e : TypeId} {rt ru re : TRow} (ho : o.op = .call c) (hc : c.callee = .builtin .append) (hat : c.argTypes.toList = [t, u]) (hrt : E.row t = some rt) (hkt : rt.kind = .slice e) (hru : E.row u = some ru) (hku : (∃ e', ru.kind = .slice e') ∨ ru.kind = .str)
    (hre : E.row e = some re) {y : Ty} (hty : E.tyOf e = some y) (hb0 : re.bytes ≠ 0) {s : AV} {l : Nat} (hargs : c.args.toList.map ρ = [.hw l, s]) {xs ys : List y.den} {rd rd' : List Nat} (hx : elems get y (.hw l) = some (xs, rd')) (he : elems get y s = some (ys, rd)) (hlim : (xs ++ ys).length * re.bytes ≤ 140737488355328) :
    OpGood P o get nx ρ (.hw nx) [(nx, .arr re.size y (xs ++ ys) []), (l, .dead)] (l :: rd) (nx + 1) := by
  have hsz := ty_size hE hre hty
  have hut := (hE.row t rt hrt).slice_kind hkt
  have huu : ∃ d, P.underlying u = some d ∧ NoInt d := by
    rcases hku with ⟨e', h⟩ | h
    · exact ⟨_, (hE.row u ru hru).slice_kind h, .inl ⟨_, rfl⟩⟩
    · exact ⟨_, (hE.row u ru hru).str_kind h, .inr rfl⟩
  obtain ⟨d, hud, hd⟩ := huu
  have hat' : c.argTypes = #[t, u] := by apply Array.ext'; simpa using hat
  refine ⟨Nat.le_succ _, fun own get' φ β w ρv hget hfr hv hW => ?_⟩
  have ha := call_args ho hv
  rw [hargs] at ha
  simp only [VL] at ha
  obtain ⟨u1, us, hu1, hV1, x, us', rfl, hV2, rfl⟩ := ha
  obtain ⟨news, hs⟩ := elems_sound (P := P) he (fun m hm => hget m (by simp [hm])) hW hV2
  have hrd' : rd' = [l] := by
    simp only [elems] at hx
    split at hx
    · rename_i sz t' zs tail _
      cases hb : Nat.beq sz y.sz with
      | false => rw [hb] at hx; cases hx
      | true =>
        rw [hb, cond_true] at hx
        split at hx
        · split at hx
          · simp at hx; exact hx.2.symm
          · obtain ⟨_, _, hx⟩ := Option.bind_eq_some_iff.1 hx; simp at hx; exact hx.2.symm
        · split at hx
          · obtain ⟨_, _, hx⟩ := Option.bind_eq_some_iff.1 hx; simp at hx; exact hx.2.symm
          · cases hx
    · cases hx
  obtain ⟨olds, hso⟩ := elems_sound (P := P) hx (fun m hm => hget m (by rw [hrd'] at hm; simp at hm; simp [hm])) hW hV1
  obtain ⟨cs, hrun⟩ := run_builtin hc ho ρv
  rw [map_toList_eq hu1, hat'] at hrun
  have hnone := (hfr nx (Nat.le_refl _) (by omega)).2
  have hll : l ≠ nx := fun h => by
    subst h
    simp only [V, hnone] at hV1
  have hkill := hW.kill l
  rw [hsz]
  have hbytes : (xs.length + ys.length) * re.bytes ≤ 140737488355328 := by simpa using hlim
  have grow : ∀ (A : Option Addr) (sCap : Nat), u1 = .slice A xs.length sCap → sCap < xs.length + ys.length →
      Does P w (execOp ρv o) fun u w' => ∃ φ' β', Step own (fun l => nx ≤ l ∧ l < nx + 1) φ β w φ' β' w' ∧ V φ' β' w' (.hw nx) u ∧ WInv own φ' β' (upd [(nx, .arr y.sz y (xs ++ ys) []), (l, .dead)] get') w' := by
    intro A sCap hA hlt
    subst hA
    obtain ⟨cap, c', h1, h2, h3, h4⟩ := run_append_out (P := P) w (ty := o.type) hut hud hd (hE.row e re hre) hsz (A := A) (sLen := xs.length) (sCap := sCap) (olds := olds) hs hso.first hlt hb0 hbytes
    obtain ⟨φ', β', g1, g2, g3⟩ := append_new (nx := nx) (xs := xs ++ ys) (cells := olds ++ news) (cap := cap) (c := c') (e := e) (w' := w.drew.alloc (.cells c' e)) hkill hnone (new := fun l => nx ≤ l ∧ l < nx + 1) ⟨Nat.le_refl _, by omega⟩
      (by simp [hso.len, hs.len, Nat.add_mul]) (fun i z hz => by
        rcases Nat.lt_or_ge i xs.length with hlt' | hge
        · rw [List.getElem?_append_left hlt'] at hz
          obtain ⟨ds, d1, d2⟩ := hso.typed i z hz
          refine ⟨ds, d1, fun j v hj => ?_⟩
          have := d2 j v hj
          rw [List.getElem?_append_left (List.getElem?_eq_some_iff.1 this).1]
          exact this
        · rw [List.getElem?_append_right hge] at hz
          obtain ⟨ds, d1, d2⟩ := hs.typed _ z hz
          refine ⟨ds, d1, fun j v hj => ?_⟩
          have := d2 j v hj
          have e1 : i * y.sz = xs.length * y.sz + (i - xs.length) * y.sz := by rw [← Nat.add_mul]; congr 1; omega
          rw [List.getElem?_append_right (by rw [hso.len]; omega), hso.len]
          rwa [show i * y.sz + j - xs.length * y.sz = (i - xs.length) * y.sz + j by omega])
      (lim_max hb0 hlim) (by simpa using h1) (by rw [h2]; simp) h3 (.inl rfl)
    rw [two_patch]
    refine .value (w' := w.drew.alloc (.cells c' e)) (u := .slice (some ⟨w.heap.size, 0, none⟩) (xs ++ ys).length cap) ?_ ⟨φ', β', g1, g2, g3⟩
    rw [hrun]
    simp [builtin, h4]
  have hV1' := hV1
  rcases hb : β l with _ | (_ | p)
  · simp only [V, hb] at hV1
  · simp only [V, hb] at hV1
    obtain ⟨A, rfl⟩ := hV1
    have hx0 : xs.length = 0 := by have := hso.lenOf w; simp [Builtin.lenOf] at this; omega
    by_cases hys : ys = []
    · subst hys
      have hxn : xs = [] := List.eq_nil_of_length_eq_zero hx0
      subst hxn
      have hrun' := run_append_in_nil (P := P) w (ty := o.type) hut hud hd (hE.row e re hre) hsz (A := A) hs
      rw [two_patch]
      refine .value (w' := w) (u := .slice A 0 0) (by rw [hrun]; simp [builtin, hrun']) ⟨φ, setB β nx none, ⟨.refl _ _, ext_setB hnone, fun m hm => ?_, Nat.le_refl _, fun _ _ _ => ⟨rfl, rfl⟩⟩, ?_, ?_⟩
      · unfold setB; rw [if_neg (fun (e : m = nx) => hm (by rw [e]; exact ⟨Nat.le_refl _, by omega⟩))]
      · simp only [V, setB, if_true]; exact ⟨A, rfl⟩
      · refine hkill.change (.refl _ _) (ext_setB hnone) (Nat.le_refl _) nx _ (fun _ _ _ _ _ => ⟨rfl, rfl⟩) ?_ (fun m hm => by unfold setB; rw [if_neg hm]) (fun _ q hq => ?_) (fun b hb => (hW.fresh b hb).2)
        · simp only [ObjRel, setB, if_true]; simp
        · simp [setB] at hq
    · have hpos : 0 < ys.length := List.length_pos_iff.2 hys
      exact grow A 0 (by rw [hx0]) (by omega)
  · simp only [V, hb] at hV1
    obtain ⟨cap, rfl, hcap, hcm, hroom⟩ := hV1
    have hxl : xs.length = p.len := by have := hso.lenOf w; simp [Builtin.lenOf] at this; exact this.symm
    by_cases hfit : xs.length + ys.length ≤ cap
    ·
      have hlive : get' l ≠ .dead := by
        intro h
        rw [hget l (by simp)] at h
        simp [elems, h] at hx
      have hrel := hW.rel l
      obtain ⟨sz0, t0, xs0, tail0, hg0⟩ : ∃ sz t xs tail, get' l = .arr sz t xs tail := by
        cases hg : get l with
        | arr sz t' zs tail => exact ⟨sz, t', zs, tail, by rw [hget l (by simp), hg]⟩
        | _ => simp [elems, hg] at hx
      rw [hg0] at hrel
      simp only [ObjRel, hb] at hrel
      obtain ⟨q1, q2, q3, qM, q4, q5, q6, q7, _, _⟩ := hrel
      have hps : p.sz = y.sz := by
        have hg : get l = .arr sz0 t0 xs0 tail0 := by rw [← hget l (by simp)]; exact hg0
        simp only [elems, hg] at hx
        cases hbq : Nat.beq sz0 y.sz with
        | false => rw [hbq] at hx; cases hx
        | true => rw [q1]; exact Nat.eq_of_beq_eq_true hbq
      obtain ⟨cc, ct, cfr, hcc, hcs⟩ := hroom
      rw [hps] at hcs
      have hthere : ∀ j, j < news.length → (w.cell? ⟨p.block, p.off + xs.length * y.sz + j, none⟩).isSome = true := fun j hj => by
        rw [hs.len] at hj
        have : (xs.length + ys.length) * y.sz ≤ cap * y.sz := Nat.mul_le_mul_right _ hfit
        rw [Nat.add_mul] at this
        simp [World.cell?, hcc]
        omega
      have hrun' := run_append_in (P := P) w (ty := o.type) hut hud hd (hE.row e re hre) hsz (b := p.block) (off := p.off) (sLen := xs.length) (sCap := cap) hs hfit hthere (fun j _ => q6 _)
      obtain ⟨f1, f2, f3, f4, f5, f6⟩ := setCells_facts (w := w) hthere
      obtain ⟨w1, hw1⟩ : ∃ w1, w1 = w.setCells p.block (p.off + xs.length * y.sz) news := ⟨_, rfl⟩
      rw [← hw1] at hrun' f1 f2 f3 f4 f5 f6
      have hk : Keeps φ w φ w1 := ⟨fun _ => Nat.le_refl _, fun b o v hb hv => by
          have hne : b ≠ p.block := fun e => by rw [e, q5] at hb; omega
          rw [cell_of_heap (w := w) (f1 b hne)]; exact hv, fun b n hr => by
          by_cases hb : b = p.block
          · rw [hb] at hr ⊢; exact f3 n hr
          · exact hr.of_heap (f1 b hb), by rw [hw1]; exact setCells_out.1, by rw [hw1]; exact setCells_out.2⟩
      have hm := hW.mine l p hlive hb
      have holdc : ∀ i z, xs[i]? = some z → ∃ ds, Vt φ w y z ds ∧ CellsAt w p.block (p.off + i * y.sz) ds := by
        intro i z hz
        have hsrc := hso.first w rfl
        obtain ⟨ds, d1, d2⟩ := hso.typed i z hz
        have hd := hW.rel l
        have hg : get l = .arr sz0 t0 xs0 tail0 := by rw [← hget l (by simp)]; exact hg0
        simp only [elems, hg] at hx
        have hbq : Nat.beq sz0 y.sz = true := by rw [← q1, hps]; exact Nat.beq_refl _
        rw [hbq, cond_true] at hx
        rw [hg0] at hd
        have hszy : sz0 = y.sz := by rw [← q1, hps]
        split at hx
        · rename_i h
          subst h
          split at hx
          · simp at hx
            obtain ⟨rfl, _⟩ := hx
            exact obj_elems hd hb (ys := []) (by simp [decAll]) hszy i z (by simpa using hz)
          · obtain ⟨zs, hzs, hx⟩ := Option.bind_eq_some_iff.1 hx
            simp at hx
            obtain ⟨rfl, _⟩ := hx
            exact obj_elems hd hb hzs hszy i z hz
        · split at hx
          · obtain ⟨zs, hzs, hx⟩ := Option.bind_eq_some_iff.1 hx
            simp at hx
            obtain ⟨rfl, _⟩ := hx
            have hd' : ObjRel φ β w l (.arr sz0 y [] tail0) := by
              simp only [ObjRel, hb] at hd ⊢
              obtain ⟨h1, h2, h3, hM, h4, h5, h6, h7, h8, h9⟩ := hd
              exact ⟨h1, h2, h3, hM, fun h => absurd rfl h, h5, h6, h7, fun i x hi => by simp at hi, h9⟩
            exact obj_elems hd' hb hzs hszy i z (by simpa using hz)
          · cases hx
      have hobj : ObjRel φ (setB β nx (some ⟨p.block, p.off, y.sz, (xs ++ ys).length, (xs ++ ys).length⟩)) w1 nx (.arr y.sz y (xs ++ ys) []) := by
        simp only [ObjRel, setB, if_true]
        refine ⟨trivial, trivial, by simp, lim_max hb0 hlim, fun _ => trivial, q5, fun o => by rw [f6]; exact q6 o, f3 _ ⟨cc, ct, cfr, hcc, ?_⟩, fun i z hz => ?_, fun q e hq => by simp at hq⟩
        · have : (xs ++ ys).length * y.sz ≤ cap * y.sz := Nat.mul_le_mul_right _ (by simpa using hfit)
          omega
        · rcases Nat.lt_or_ge i xs.length with hlt' | hge
          · rw [List.getElem?_append_left hlt'] at hz
            obtain ⟨ds, d1, d2⟩ := holdc i z hz
            refine ⟨ds, Vt.keep hk _ _ _ d1, fun j v hj => ?_⟩
            have hjl : j < y.sz := by rw [← Vt.length _ _ _ d1]; exact (List.getElem?_eq_some_iff.1 hj).1
            have hle : (i + 1) * y.sz ≤ xs.length * y.sz := Nat.mul_le_mul_right _ hlt'
            rw [Nat.add_mul] at hle
            rw [f5 _ (.inl (by omega))]
            exact d2 j v hj
          · rw [List.getElem?_append_right hge] at hz
            obtain ⟨ds, d1, d2⟩ := hs.typed _ z hz
            refine ⟨ds, Vt.keep hk _ _ _ d1, fun j v hj => ?_⟩
            have := f4 _ v (d2 j v hj)
            have e1 : i * y.sz = xs.length * y.sz + (i - xs.length) * y.sz := by rw [← Nat.add_mul]; congr 1; omega
            rwa [show p.off + xs.length * y.sz + ((i - xs.length) * y.sz + j) = p.off + i * y.sz + j by omega] at this
      have hWI := hkill.change (β' := setB β nx (some ⟨p.block, p.off, y.sz, (xs ++ ys).length, (xs ++ ys).length⟩)) hk (ext_setB hnone) (by omega) nx (.arr y.sz y (xs ++ ys) []) (fun m hm' hd' q hq => by
          rw [upd_one] at hd'
          by_cases hlm : l = m
          · subst hlm; simp at hd'
          · rw [if_neg hlm] at hd'
            exact ⟨f1 _ (fun e => hW.dist l m p q hlm hlive hd' hb hq e.symm), rfl⟩) hobj (fun m hm' => by unfold setB; rw [if_neg hm'])
        (fun _ q hq => by
          simp only [setB, if_true, Option.some.injEq] at hq
          subst hq
          refine ⟨hm.1, by simp only; omega, fun m hm' hd' q hq => ?_⟩
          rw [upd_one] at hd'
          by_cases hlm : l = m
          · subst hlm; simp at hd'
          · rw [if_neg hlm] at hd'
            exact fun e => hW.dist l m p q hlm hlive hd' hb hq e.symm) (fun b hb => (hW.fresh b (by omega)).2)
      rw [two_patch]
      refine .value (w' := w1) (u := .slice (some ⟨p.block, p.off, none⟩) (xs.length + ys.length) cap) ?_ ⟨φ, _, ⟨hk, ext_setB hnone, fun m hm' => ?_, by omega, fun b hb hnb => ⟨f1 b (fun e => hnb (by rw [e]; exact hm.1)), rfl⟩⟩, ?_, hWI⟩
      · rw [hrun, ← hxl]
        simp [builtin, hrun']
      · unfold setB; rw [if_neg (fun (e : m = nx) => hm' (by rw [e]; exact ⟨Nat.le_refl _, by omega⟩))]
      · simp only [V, setB, if_true]
        exact ⟨cap, by simp, by simpa using hfit, hcm, f3 _ ⟨cc, ct, cfr, hcc, hcs⟩⟩
    · exact grow _ cap (by rw [hxl]) (by omega)
end
end Go.Sim
namespace Go.Sim
set_option linter.unusedSectionVars false
set_option linter.unusedSimpArgs false
set_option linter.unusedVariables false
section
variable {P : Program} [Tabs P] {o : Oper} {get : Nat → AObj} {nx : Nat} {ρ : Operand → AV}
variable {own : Own P} {φ φ' : Nat → Nat} {β β' : Beta} {w w' : World}
theorem tyZero {E : Env} (hE : EnvOK P E) {e : TypeId} {t : Ty} (ht : E.tyOf e = some t) : ∃ i z, P.info? e = some i ∧ i.size = t.sz ∧ i.zero = some z ∧ z.cells.size = t.sz ∧ ∀ φ w, Vt φ w t t.zero z.cells.toList := by
  have h := hE.ty e t ht
  cases t with
  | bool => obtain ⟨_, i, h1, h2, h3⟩ := h; exact ⟨i, _, h1, h2, h3, rfl, fun φ w => rfl⟩
  | int k => obtain ⟨_, i, h1, h2, h3⟩ := h; exact ⟨i, _, h1, h2, h3, rfl, fun φ w => ⟨rfl, In.zero k⟩⟩
  | str => obtain ⟨_, i, h1, h2, h3⟩ := h; exact ⟨i, _, h1, h2, h3, rfl, fun φ w => ⟨rfl, Nat.zero_le _⟩⟩
  | sl y => obtain ⟨i, z, h1, h2, h3, h4, _, h5⟩ := h; exact ⟨i, z, h1, h2, h3, by rw [h5 rfl]; rfl, h4⟩
  | raw => obtain ⟨i, z, h1, h2, h3, h4, _, h5⟩ := h; exact ⟨i, z, h1, h2, h3, by rw [h5 rfl]; rfl, h4⟩
  | pair a b =>
    obtain ⟨i, z, h1, h2, h3, h4, _, _⟩ := h
    exact ⟨i, z, h1, h2, h3, by have := Vt.length _ _ _ (h4 (fun _ => 0) default); simpa using this, h4⟩
theorem madeCells_get {z : Array Value} {n i j : Nat} {v : Value} (hi : i < n) (hv : z.toList[j]? = some v) : (madeCells z (n * z.size)).toList[i * z.size + j]? = some v := by
  have hj : j < z.size := by have := (List.getElem?_eq_some_iff.1 hv).1; simpa using this
  have hle : (i + 1) * z.size ≤ n * z.size := Nat.mul_le_mul_right _ hi
  rw [Nat.add_mul] at hle
  have hlt : i * z.size + j < n * z.size := by omega
  simp [madeCells, hlt]
  rw [Nat.mod_eq_of_lt hj]
  have hv' : z[j]? = some v := by simpa using hv
  rw [Array.getElem?_eq_getElem hj] at hv'
  simp only [Option.some.injEq] at hv'
  rw [← hv']
  exact getElem!_pos z j hj
theorem good_makeSlice {E : Env} (hE : EnvOK P E) {t e : TypeId} {x y : Operand} {rw_ re : TRow} {te : Ty} (ho : o.op = .makeSlice t x y) (hr : E.row t = some rw_) (hk : rw_.kind = .slice e) (hre : E.row e = some re) (hty : E.tyOf e = some te) {n : Int}
    (hx : ρ x = .int .i64 n) (hy : ρ y = .int .i64 n) (h0 : 0 ≤ n) (hb : n.toNat * re.bytes ≤ 140737488355328) (h63 : n ≤ 9223372036854775807) : OpGood P o get nx ρ (.hw nx) [(nx, .arr re.size te (List.replicate n.toNat te.zero) [])] [] (nx + 1) := by
  refine ⟨Nat.le_succ _, fun own get' φ β w ρv _ hfr hv hW => ?_⟩
  have hX := hv x (by simp [ho, Op.operands])
  have hY := hv y (by simp [ho, Op.operands])
  rw [hx] at hX
  rw [hy] at hY
  have hX := hX.int_inv
  have hY := hY.int_inv
  have hut := (hE.row t rw_ hr).slice_kind hk
  obtain ⟨i, z, hi, his, hiz, hzs, hV⟩ := tyZero hE hty
  obtain ⟨i', z', hi', his', hib', _⟩ := (hE.row e re hre).info
  rw [hi] at hi'; cases hi'
  have hsz := ty_size hE hre hty
  have hbytes : (i.bytes : Int) * n ≤ 281474976710656 := by
    rw [hib']
    have h1 : ((n.toNat * re.bytes : Nat) : Int) ≤ 140737488355328 := by omega
    rw [Int.natCast_mul, Int.toNat_of_nonneg h0, Int.mul_comm] at h1
    omega
  have hrun := run_make (P := P) w t e i z hut hi hiz .i64 .i64 n n h0 (Int.le_refl _) hbytes h63
  have hsize : n.toNat * i.size = n.toNat * z.cells.size := by rw [his, hzs]
  rw [hsize] at hrun
  obtain ⟨φ', β', g1, g2, g3⟩ := append_new (nx := nx) (xs := List.replicate n.toNat te.zero) (cells := (madeCells z.cells (n.toNat * z.cells.size)).toList) (cap := n.toNat) (c := madeCells z.cells (n.toNat * z.cells.size)) (e := e) (t := te) hW (hfr nx (Nat.le_refl _) (by omega)).2
    (new := fun l => nx ≤ l ∧ l < nx + 1) ⟨Nat.le_refl _, by omega⟩ (by simp [size_madeCells, hzs]) (fun k y hk => by
      rw [List.getElem?_replicate] at hk
      split at hk
      · rename_i hlt
        simp at hk
        subst hk
        exact ⟨z.cells.toList, hV φ w, fun j v hj => by rw [← hzs]; exact madeCells_get hlt hj⟩
      · cases hk) (by simp [maxL]; omega) ⟨by simp, by unfold maxL; omega⟩ (by simp [size_madeCells]) (fun j v hj => by simpa using hj) (.inr rfl)
  simp only [List.length_replicate] at g2
  rw [hsz]
  refine .value (w' := w.alloc (.cells (madeCells z.cells (n.toNat * z.cells.size)) e)) (u := .slice (some ⟨w.heap.size, 0, none⟩) n.toNat n.toNat) ?_ ⟨φ', β', g1, g2, g3⟩
  simp [execOp, ho, hX, hY, hrun]
theorem fold_set (off : Nat) : ∀ (vs : List Value) (k : Nat) (cs : Array Value), off + k + vs.length ≤ cs.size →
    ((vs.zipIdx k).foldl (fun cs (c, j) => cs.setIfInBounds (off + j) c) cs).toList = spliceV cs.toList (off + k) vs
  | [], k, cs, h => by simp [spliceV]
  | v :: vs, k, cs, h => by
    simp at h
    rw [List.zipIdx_cons, List.foldl_cons, fold_set off vs (k + 1) _ (by simp; omega)]
    rw [Array.toList_setIfInBounds, ← Nat.add_assoc]
    have hk : off + k < cs.toList.length := by simp; omega
    apply List.ext_getElem?
    intro i
    rw [getElem?_spliceV (by simp; omega), getElem?_spliceV (by simp; omega)]
    rcases Nat.lt_trichotomy i (off + k) with hi | hi | hi
    · rw [if_pos (by omega), if_pos hi, List.getElem?_set_ne (by omega)]
    · subst hi
      rw [if_pos (by omega), if_neg (by omega), if_pos (by simp), List.getElem?_set_self hk]
      simp
    · rw [if_neg (show ¬ i < off + k + 1 by omega), if_neg (show ¬ i < off + k by omega)]
      by_cases h2 : i < off + k + 1 + vs.length
      · rw [if_pos h2, if_pos (by simp; omega)]
        obtain ⟨m, rfl⟩ : ∃ m, i = off + k + 1 + m := ⟨i - (off + k + 1), by omega⟩
        rw [show off + k + 1 + m - (off + k + 1) = m by omega, show off + k + 1 + m - (off + k) = m + 1 by omega, List.getElem?_cons_succ]
      · rw [if_neg h2, if_neg (by simp; omega), List.getElem?_set_ne (by omega)]
theorem fill_sound {place : Nat → Option (Nat × Nat)} {ρv : Operand → Value} : ∀ (parts : List (Nat × Operand)) (cs cs' : List AV) (us : Array Value), (∀ p ∈ parts, V φ β w (ρ p.2) (ρv p.2)) → VL φ β w cs us.toList → fillC place cs (parts.map fun p => (p.1, ρ p.2)) = some cs' →
    ∃ us', Instr.fill place us (parts.map fun p => (p.1, ρv p.2)) = some us' ∧ VL φ β w cs' us'.toList
  | [], cs, cs', us, _, hv, h => by simp [fillC] at h; subst h; exact ⟨us, rfl, hv⟩
  | (i, x) :: parts, cs, cs', us, hp, hv, h => by
    simp only [List.map_cons, fillC] at h
    cases hpl : place i with
    | none => rw [hpl] at h; cases h
    | some os =>
      obtain ⟨off, size⟩ := os
      rw [hpl] at h
      simp only at h
      by_cases hc : 0 < size ∧ (ρ x).cells.length = size ∧ off + size ≤ cs.length
      · obtain ⟨h0, h1, h2⟩ := hc
        have e1 : (Nat.blt 0 size && Nat.beq (ρ x).cells.length size && Nat.ble (off + size) cs.length) = true := by
          rw [show Nat.blt 0 size = true from Nat.ble_eq_true_of_le h0, h1, Nat.beq_refl, Nat.ble_eq_true_of_le h2]; rfl
        rw [e1, cond_true] at h
        have hx := V_cells (hp (i, x) (by simp)) (cells_undef h1 (by omega))
        have hxl : (ρv x).cells.toList.length = size := by rw [hx.length, h1]
        have hul : us.toList.length = cs.length := hv.length
        have hf := fold_set off (ρv x).cells.toList 0 us (by simp at hxl hul ⊢; omega)
        obtain ⟨us', g1, g2⟩ := fill_sound parts _ cs' ((ρv x).cells.zipIdx.foldl (fun cs (c, j) => cs.setIfInBounds (off + j) c) us) (fun p hp' => hp p (by simp [hp'])) (by
          rw [← Array.foldl_toList, Array.toList_zipIdx, hf]
          exact VL.splice hv hx) h
        refine ⟨us', ?_, g2⟩
        simp only [List.map_cons, Instr.fill, hpl]
        rw [if_neg (by simp at hxl hul ⊢; omega)]
        exact g1
      · have e1 : (Nat.blt 0 size && Nat.beq (ρ x).cells.length size && Nat.ble (off + size) cs.length) = false := by
          cases hb : (Nat.blt 0 size && Nat.beq (ρ x).cells.length size && Nat.ble (off + size) cs.length) with
          | false => rfl
          | true =>
            simp only [Bool.and_eq_true] at hb
            exact absurd ⟨Nat.le_of_ble_eq_true hb.1.1, Nat.eq_of_beq_eq_true hb.1.2, Nat.le_of_ble_eq_true hb.2⟩ hc
        rw [e1] at h
        cases h
theorem good_build {E : Env} (hE : EnvOK P E) {t : TypeId} {parts : Array (Nat × Operand)} {rw_ : TRow} (ho : o.op = .build t parts) (hr : E.row t = some rw_) {fs : List (Nat × Nat)} {eq : List Ty} (hk : rw_.kind = .struct fs eq) {cs : List AV}
    (hf : fillC (fun i => fs[i]?) rw_.zero (parts.toList.map fun p => (p.1, ρ p.2)) = some cs) : OpGood P o get nx ρ (.agg cs) [] [] nx :=
  .pure fun own get' φ β w ρv _ hvs _ => by
    obtain ⟨i, z, hi, _, _, hz, _, _, _, hV⟩ := (hE.row t rw_ hr).info
    have hR := (hE.row t rw_ hr).kind
    rw [hk] at hR
    obtain ⟨fields, hu, hm, _, _⟩ := hR
    obtain ⟨us, h1, h2⟩ := fill_sound (ρv := ρv) parts.toList rw_.zero cs z.cells (fun p hp => hvs p.2 (by simp [ho, Op.operands]; exact ⟨p.1, by simpa using hp⟩)) (hV φ β w) hf
    have hb : P.built t ((parts.map fun (i, x) => (i, ρv x)).toList) = some us := by
      simp only [Program.built, hi, hu, hz, hm]
      rw [← h1]
      congr 1
      · funext i; simp
      · simp
    have hrun := run_build (P := P) w t _ us hb
    refine ⟨.agg us, by simp [execOp, ho, hrun], by simp only [V]; exact ⟨us.toList, by simp, h2⟩⟩
theorem VL_replicate {cs : List AV} {us : List Value} (h : VL φ β w cs us) : ∀ n, VL φ β w (List.replicate n cs).flatten (List.replicate n us).flatten
  | 0 => rfl
  | n + 1 => by simp only [List.replicate_succ, List.flatten_cons]; exact h.append (VL_replicate h n)
theorem madeCells_flat (z : Array Value) : ∀ n, (madeCells z (n * z.size)).toList = (List.replicate n z.toList).flatten := by
  intro n
  apply List.ext_getElem?
  intro i
  have hfl : ∀ n, ((List.replicate n z.toList).flatten).length = n * z.size := by
    intro n
    induction n with
    | zero => simp
    | succ n ih => simp [List.replicate_succ, ih, Nat.add_mul]; omega
  have hget : ∀ (n i j : Nat) (v : Value), i < n → z.toList[j]? = some v → ((List.replicate n z.toList).flatten)[i * z.size + j]? = some v := by
    intro n
    induction n with
    | zero => intro i j v hi; omega
    | succ n ih =>
      intro i j v hi hv
      have hj : j < z.size := by have := (List.getElem?_eq_some_iff.1 hv).1; simpa using this
      simp only [List.replicate_succ, List.flatten_cons]
      cases i with
      | zero => rw [List.getElem?_append_left (by simp; omega)]; simpa using hv
      | succ i =>
        rw [List.getElem?_append_right (by simp [Nat.add_mul]; omega)]
        have := ih i j v (by omega) hv
        rwa [show (i + 1) * z.size + j - z.toList.length = i * z.size + j by simp [Nat.add_mul]; omega]
  rcases Nat.lt_or_ge i (n * z.size) with hlt | hge
  · have hz : 0 < z.size := by
      rcases Nat.eq_zero_or_pos z.size with h | h
      · rw [h] at hlt; omega
      · exact h
    have hj : i % z.size < z.size := Nat.mod_lt _ hz
    have hi : i / z.size < n := Nat.div_lt_of_lt_mul (by rw [Nat.mul_comm]; exact hlt)
    have hv : z.toList[i % z.size]? = some z[i % z.size] := by simp [hj]
    have e : i / z.size * z.size + i % z.size = i := by rw [Nat.mul_comm]; exact Nat.div_add_mod i z.size
    have a1 := madeCells_get (n := n) hi hv
    have a2 := hget n _ _ _ hi hv
    rw [e] at a1 a2
    rw [a1, a2]
  · rw [List.getElem?_eq_none (by simp [size_madeCells]; exact hge), List.getElem?_eq_none (by rw [hfl]; exact hge)]
theorem holds_chunks {cs : List AV} {us : List Value} {len sz : Nat} (hlm : len ≤ 16777216) (h : VL φ β w cs us) (hl : cs.length = len * sz) :
    Holds φ β w sz .bool [] ((List.range len).map fun i => (cs.drop (i * sz)).take sz) us := by
  refine ⟨by simp [maxL]; omega, fun h => absurd rfl h, by simp [h.length, hl], fun i x hi => by simp at hi, fun q e hq => ?_⟩
  rw [List.getElem?_map] at hq
  rcases Nat.lt_or_ge q len with hlt | hge
  · rw [List.getElem?_range hlt] at hq
    simp at hq
    subst hq
    have hle : (q + 1) * sz ≤ len * sz := Nat.mul_le_mul_right _ hlt
    rw [Nat.add_mul] at hle
    refine ⟨by simp; omega, (us.drop (q * sz)).take sz, (h.drop _).take _, fun j v hj => ?_⟩
    rw [List.getElem?_take] at hj
    split at hj
    · rw [List.getElem?_drop] at hj
      simpa using hj
    · cases hj
  · rw [List.getElem?_eq_none (by simpa using hge)] at hq
    simp at hq
theorem fillC_length {place : Nat → Option (Nat × Nat)} : ∀ (parts : List (Nat × AV)) (cs cs' : List AV), fillC place cs parts = some cs' → cs'.length = cs.length
  | [], cs, cs', h => by simp [fillC] at h; rw [h]
  | (i, v) :: parts, cs, cs', h => by
    simp only [fillC] at h
    cases hpl : place i with
    | none => rw [hpl] at h; cases h
    | some os =>
      obtain ⟨off, size⟩ := os
      rw [hpl] at h
      simp only at h
      cases hb : (Nat.blt 0 size && Nat.beq v.cells.length size && Nat.ble (off + size) cs.length) with
      | false => rw [hb] at h; cases h
      | true =>
        rw [hb, cond_true] at h
        simp only [Bool.and_eq_true] at hb
        have h1 := Nat.eq_of_beq_eq_true hb.1.2
        have h2 := Nat.le_of_ble_eq_true hb.2
        rw [fillC_length parts _ _ h]
        simp [splice]
        omega
theorem good_buildSlice {E : Env} (hE : EnvOK P E) {t e : TypeId} {len : Nat} {parts : Array (Nat × Operand)} {rw_ re : TRow} (ho : o.op = .buildSlice t len parts) (hr : E.row t = some rw_) (hk : rw_.kind = .slice e) (hre : E.row e = some re) {cs : List AV}
    (hf : fillC (fun i => some (i * re.size, re.size)) (List.replicate len re.zero).flatten (parts.toList.map fun p => (p.1, ρ p.2)) = some cs) (hlim : len * re.size ≤ 16777216) (hlm : len ≤ 16777216) :
    OpGood P o get nx ρ (.hw nx) [(nx, .arr re.size .bool [] ((List.range len).map fun i => (cs.drop (i * re.size)).take re.size))] [] (nx + 1) := by
  refine ⟨Nat.le_succ _, fun own get' φ β w ρv _ hfr hvs hW => ?_⟩
  obtain ⟨i, z, hi, his, _, hz, hzl, _, _, hV⟩ := (hE.row e re hre).info
  have hzs : z.cells.size = re.size := by simpa using hzl
  have hut := (hE.row t rw_ hr).slice_kind hk
  have hnone := (hfr nx (Nat.le_refl _) (by omega)).2
  have hflat : VL φ β w (List.replicate len re.zero).flatten (madeCells z.cells (len * re.size)).toList := by
    rw [← hzs, madeCells_flat]
    exact VL_replicate (hV φ β w) len
  obtain ⟨us, h1, h2⟩ := fill_sound (ρv := ρv) parts.toList _ cs (madeCells z.cells (len * re.size)) (fun p hp => hvs p.2 (by simp [ho, Op.operands]; exact ⟨p.1, by simpa using hp⟩)) hflat hf
  have hcl : cs.length = len * re.size := by
    rw [fillC_length _ _ _ hf, ← hflat.length]
    simp [size_madeCells]
  have hrun : (execOp ρv o).run P w = .ok (.value (.slice (some ⟨w.heap.size, 0, none⟩) len len)) (w.alloc (.cells us e)) := by
    have h16 : ¬ (16777216 < len * re.size) := by omega
    have hfill : Instr.fill (fun i => some (i * re.size, re.size)) (madeCells z.cells (len * re.size)) (parts.toList.map fun p => (p.1, ρv p.2)) = some us := h1
    by_cases h0 : len * re.size = 0
    · have hm : madeCells z.cells (len * re.size) = (Array.range (len * re.size)).map (#[][· % (#[] : Array Value).size]!) := by rw [h0]; simp [madeCells]
      rw [hm] at hfill
      simp [execOp, ho, Instr.buildSlice, run_underlying hut, sizeOf, typeInfo, hi, his, h16, h0, newRow]
      rw [h0] at hfill
      simp at hfill
      simp [hfill]
    · simp [execOp, ho, Instr.buildSlice, run_underlying hut, sizeOf, typeInfo, zeroValue, hi, his, hz, h16, h0, newRow]
      unfold madeCells at hfill
      (try simp at hfill)
      simp [hfill]
  have hh : (w.alloc (.cells us e)).heap = w.heap.push (.cells us e) := rfl
  have hk' := keeps_push (fun b hb => (hW.fresh b hb).2) hh ⟨rfl, rfl⟩
  have hH := (holds_chunks hlm (len := len) h2 hcl).keep hk' (ext_setB (x := some ⟨w.heap.size, 0, re.size, ([] : List (Ty.den .bool)).length, ([] : List (Ty.den .bool)).length + ((List.range len).map fun i => (cs.drop (i * re.size)).take re.size).length⟩) hnone)
  have hself : (w.alloc (.cells us e)).heap[w.heap.size]? = some (.cells us e (0, 0)) := by rw [hh]; simp
  have hobj := hH.obj (l := nx) (c := us) (e := e) (b := w.heap.size) hself (fun j v hj => by simpa using hj) (by simp [setB]) (hW.fresh _ (Nat.le_refl _)).2
  obtain ⟨g1, g2⟩ := hW.push hh ⟨rfl, rfl⟩ hnone (p := ⟨w.heap.size, 0, re.size, ([] : List (Ty.den .bool)).length, ([] : List (Ty.den .bool)).length + ((List.range len).map fun i => (cs.drop (i * re.size)).take re.size).length⟩) rfl hobj (new := fun l => nx ≤ l ∧ l < nx + 1) ⟨Nat.le_refl _, by omega⟩
  refine .value (w' := w.alloc (.cells us e)) hrun ⟨φ, _, g1, ?_, g2⟩
  simp only [V, setB, if_true]
  refine ⟨len, by simp, by simp, by unfold maxL; omega, us, e, _, hself, ?_⟩
  have := h2.length
  simp at this
  omega
end
end Go.Sim
namespace Go.Sim
set_option linter.unusedSectionVars false
set_option linter.unusedSimpArgs false
set_option linter.unusedVariables false
section
variable {P : Program} [Tabs P] {o : Oper} {get : Nat → AObj} {nx : Nat} {ρ : Operand → AV}
variable {own : Own P} {φ φ' : Nat → Nat} {β β' : Beta} {w w' : World}
theorem push_fold : ∀ (l : List Int) (s : List UInt8), (l.foldl (fun r n => r.push (UInt8.ofNat n.toNat)) (⟨s.toArray⟩ : ByteArray)) = ⟨(s ++ ofBytes l).toArray⟩
  | [], s => by simp [ofBytes]
  | n :: l, s => by
    rw [List.foldl_cons]
    have : (⟨s.toArray⟩ : ByteArray).push (UInt8.ofNat n.toNat) = ⟨(s ++ [UInt8.ofNat n.toNat]).toArray⟩ := by
      apply ByteArray.ext
      simp [ByteArray.push]
    rw [this, push_fold l]
    simp [ofBytes]
theorem good_conv_bytes {E : Env} (hE : EnvOK P E) {s d e : TypeId} {x : Operand} {rs rd re : TRow} (ho : o.op = .convert s d x) (hs : E.row s = some rs) (hd : E.row d = some rd) (hks : rs.kind = .slice e) (hkd : rd.kind = .str) (hre : E.row e = some re) (hke : re.kind = .int .u8)
    {xs : List Int} {rdl : List Nat} (he : elems get (.int .u8) (ρ x) = some (xs, rdl)) (hns : ∀ s, ρ x ≠ .str s) : OpGood P o get nx ρ (.str (ofBytes xs)) [] rdl nx :=
  .pure fun own get' φ β w ρv hget hvs hW => by
    have hX := hvs x (by simp [ho, Op.operands])
    obtain ⟨news, hsrc⟩ := elems_sound (P := P) he hget hW hX
    have u1 := (hE.row s rs hs).slice_kind hks
    have u2 := (hE.row d rd hd).str_kind hkd
    have u3 := (hE.row e re hre).int_kind hke
    have hnews : news = xs.map (Value.int .u8) := by
      apply List.ext_getElem?
      intro i
      rcases Nat.lt_or_ge i xs.length with hlt | hge
      · obtain ⟨ds, h1, h2⟩ := hsrc.typed i xs[i] (by simp [hlt])
        simp only [Vt] at h1
        obtain ⟨rfl, _⟩ := h1
        have := h2 0 _ rfl
        simp [Ty.sz] at this
        rw [this]
        simp [hlt]
      · rw [List.getElem?_eq_none (by rw [hsrc.len]; simpa [Ty.sz] using hge), List.getElem?_eq_none (by simpa using hge)]
    have hsl : ∃ A len cap, ρv x = .slice A len cap := by
      have hl := hsrc.lenOf w
      have hne : ∀ b, ρv x ≠ .string b := by
        intro b hb
        cases hc : ρ x with
        | str s => exact hns s hc
        | nils => rw [hc] at hX; simp only [V] at hX; rw [hX] at hb; cases hb
        | ve b => rw [hc] at hX; simp only [V] at hX; obtain ⟨A, cap, h, _⟩ := hX; rw [h] at hb; cases hb
        | vl t ys => rw [hc] at hX; simp only [V, Vt] at hX; obtain ⟨_, A, cap, h, _⟩ := hX; simp at h; rw [h] at hb; cases hb
        | hw l => rw [hc] at hX; rcases hbb : β l with _ | (_ | p) <;> simp only [V, hbb] at hX
                  · obtain ⟨A, h⟩ := hX; rw [h] at hb; cases hb
                  · obtain ⟨cap, h, _⟩ := hX; rw [h] at hb; cases hb
        | hs l a n => rw [hc] at hX; rcases hbb : β l with _ | (_ | p) <;> simp only [V, hbb] at hX
                      · exact hX.2.elim
                      · obtain ⟨_, _, A, h⟩ := hX; rw [h] at hb; cases hb
                      · obtain ⟨_, A, cap, h, _⟩ := hX; rw [h] at hb; cases hb
        | hc l a n c => rw [hc] at hX; have hX := hX.hc_hs; rcases hbb : β l with _ | (_ | p) <;> simp only [V, hbb] at hX
                        · exact hX.2.elim
                        · obtain ⟨_, _, A, h⟩ := hX; rw [h] at hb; cases hb
                        · obtain ⟨_, A, cap, h, _⟩ := hX; rw [h] at hb; cases hb
        | _ => rw [hc] at he; simp [elems] at he
      cases hv : ρv x with
      | slice A len cap => exact ⟨_, _, _, rfl⟩
      | string b => exact absurd hv (hne b)
      | _ => rw [hv] at hl; simp [Builtin.lenOf] at hl
    obtain ⟨A, len, cap, hv1⟩ := hsl
    have hlen : len = xs.length := by have := hsrc.lenOf w; rw [hv1] at this; simpa [Builtin.lenOf] using this
    subst hlen
    have hmx := elems_max he hget hW hX
    refine ⟨.string ⟨(ofBytes xs).toArray⟩, ?_, rfl, by simpa [ofBytes] using hmx⟩
    have hfirst := hsrc.first w rfl
    rw [hv1, hnews] at hfirst
    have key : (Conv.bytesToString (.slice A xs.length cap)).run P w = .ok (.string ⟨(ofBytes xs).toArray⟩) w := by
      cases A with
      | none =>
        simp [Builtin.firstCells] at hfirst
        subst hfirst
        simp [Conv.bytesToString, ofBytes]
        rfl
      | some a =>
        simp [Builtin.firstCells, Ty.sz] at hfirst
        rw [run_bytesToString (P := P) w a xs.length cap xs (by simpa using hfirst)]
        have := push_fold xs []
        simp at this
        rw [show ByteArray.empty = (⟨#[]⟩ : ByteArray) from rfl, this]
    simp [execOp, ho, hv1, convert, run_underlying u1, run_underlying u2, run_underlying u3, key]
theorem good_conv_tobytes {E : Env} (hE : EnvOK P E) {s d e : TypeId} {x : Operand} {rs rd re : TRow} (ho : o.op = .convert s d x) (hs : E.row s = some rs) (hd : E.row d = some rd) (hks : rs.kind = .str) (hkd : rd.kind = .slice e) (hre : E.row e = some re) (hke : re.kind = .int .u8) {l : List UInt8}
    (hx : ρ x = .str l) : OpGood P o get nx ρ (.vl (.int .u8) (bytesOf l)) [] [] nx := by
  refine ⟨Nat.le_refl _, fun own get' φ β w ρv _ hfr hvs hW => ?_⟩
  have hX := hvs x (by simp [ho, Op.operands])
  rw [hx] at hX
  have hXl := hX.2
  have hX := hX.str_inv
  have u1 := (hE.row s rs hs).str_kind hks
  have u2 := (hE.row d rd hd).slice_kind hkd
  have u3 := (hE.row e re hre).int_kind hke
  have hrun := Lib.run_convert_string_bytes (P := P) w s d e ⟨l.toArray⟩ u1 u2 u3
  have hsz : (⟨l.toArray⟩ : ByteArray).size = l.length := by simp [ByteArray.size]
  obtain ⟨w1, hw1⟩ : ∃ w1, w1 = Lib.bytesWorld w e ⟨l.toArray⟩ := ⟨_, rfl⟩
  have hsize : w1.heap.size = w.heap.size + 1 := by rw [hw1]; exact Lib.bytesWorld_size w e _
  have hold : ∀ j, j < w.heap.size → w1.heap[j]? = w.heap[j]? := fun j hj => by rw [hw1]; exact Lib.bytesWorld_at_old w e _ j hj
  have hcell : ∀ j, j < l.length → w1.cell? ⟨w.heap.size, j, none⟩ = some (.int .u8 (l.getD j 0).toNat) := fun j hj => by
    rw [hw1]
    have := Lib.bytesWorld_cell w e ⟨l.toArray⟩ j (by rw [hsz]; exact hj)
    simpa using this
  obtain ⟨φ', hφ'⟩ : ∃ φ' : Nat → Nat, φ' = fun b => if b = w.heap.size then l.length else φ b := ⟨_, rfl⟩
  have hf := fun b hb => (hW.fresh b hb).2
  have hφo : ∀ b, b < w.heap.size → φ' b = φ b := fun b hb => by rw [hφ']; simp only; rw [if_neg (by omega)]
  have hk : Keeps φ w φ' w1 := by
    refine ⟨fun b => ?_, fun b o v ho hv => ?_, fun b n hr => ?_, by rw [hw1]; rfl, by rw [hw1]; rfl⟩
    · rw [hφ']; simp only
      split
      · rename_i h; rw [h, hf _ (Nat.le_refl _)]; omega
      · exact Nat.le_refl _
    · have hlt : b < w.heap.size := by
        rcases Nat.lt_or_ge b w.heap.size with h | h
        · exact h
        · rw [hf b h] at ho; omega
      rw [cell_of_heap (w := w) (hold b hlt)]; exact hv
    · obtain ⟨c, t, fr, h1, h2⟩ := hr
      exact ⟨c, t, fr, by rw [hold b (Array.getElem?_eq_some_iff.1 h1).1]; exact h1, h2⟩
  have hWI : WInv own φ' β (upd [] get') w1 := by
    rw [upd_nil]
    refine ⟨fun m => ?_, fun m p hm hp => ?_, fun m n p q hmn hm hn hp hq => hW.dist m n p q hmn hm hn hp hq, fun b hb => ⟨(hW.fresh b (by omega)).1, ?_⟩, hW.laid.keep hk⟩
    · by_cases hd : get' m = .dead
      · rw [hd]; trivial
      · exact (hW.rel m).keep hk (.refl _) (fun p hp => ⟨hold _ (hW.mine m p hd hp).2, hφo _ (hW.mine m p hd hp).2⟩)
    · have := hW.mine m p hm hp
      exact ⟨this.1, by omega⟩
    · rw [hφ']; simp only; rw [if_neg (by omega)]; exact hf b (by omega)
  refine .value (w' := w1) (u := .slice (some ⟨w.heap.size, 0, none⟩) l.length (grownCap w l.length 0 e)) ?_ ⟨φ', β, ⟨hk, .refl _, fun _ _ => rfl, by omega, fun b hb _ => ⟨hold b hb, hφo b hb⟩⟩, ?_, hWI⟩
  · rw [hsz] at hrun
    simp [execOp, ho, hX, hrun, hw1]
  · simp only [V, Vt]
    refine ⟨by simpa [bytesOf] using hXl, some ⟨w.heap.size, 0, none⟩, grownCap w l.length 0 e, by simp [bytesOf], by simp [bytesOf]; exact grownCap_ge _ _ _ _, fun i y hy => ⟨⟨w.heap.size, 0, none⟩, [.int .u8 y], rfl, rfl, ⟨rfl, bytesOf_in hy⟩, fun j v hj => ?_⟩⟩
    have hi : i < l.length := by have := (List.getElem?_eq_some_iff.1 hy).1; simpa [bytesOf] using this
    have hyv : y = ((l.getD i 0).toNat : Int) := by
      simp [bytesOf, hi] at hy
      simp [hi, ← hy]
    cases j with
    | zero =>
      simp at hj
      subst hj
      refine ⟨?_, by rw [hφ']; simp [Ty.sz]; omega⟩
      have := hcell i hi
      simp only [Ty.sz, Nat.mul_one, Nat.zero_add, Nat.add_zero]
      rw [this, hyv]
    | succ j => simp at hj
theorem good_index_arr {E : Env} (hE : EnvOK P E) {t e : TypeId} {x i : Operand} {n : Nat} {rw_ re : TRow} (ho : o.op = .index t x i) (hr : E.row t = some rw_) (hk : rw_.kind = .array n e) (hre : E.row e = some re) {k : IntKind} {j : Nat} (hi : ρ i = .int k (.ofNat j)) {cs : List AV} (hx : ρ x = .agg cs)
    (hj : (j : Int) < n) {v : AV} (hl : ((cs.drop (j * re.size)).take re.size).length = re.size) (hw : whole re.kind.isAgg ((cs.drop (j * re.size)).take re.size) = some v) : OpGood P o get nx ρ v [] [] nx :=
  .pure fun own get' φ β w ρv _ hvs _ => by
    have hX := hvs x (by simp [ho, Op.operands])
    have hI := hvs i (by simp [ho, Op.operands])
    rw [hx] at hX
    rw [hi] at hI
    simp only [V] at hX
    obtain ⟨vs, hv1, hd⟩ := hX
    have hI := hI.int_inv
    have hu := (hE.row t rw_ hr).array_kind hk
    have hRe := hE.row e re hre
    have hcut : VL φ β w ((cs.drop (j * re.size)).take re.size) ((vs.drop (j * re.size)).take re.size) := (hd.drop _).take _
    obtain ⟨hV, h1c⟩ := whole_sound hw hcut
    refine ⟨_, ?_, hV⟩
    have hlen : ((vs.drop (j * re.size)).take re.size).length = re.size := by rw [hcut.length]; exact hl
    have hj' : j < n := by omega
    cases ha : re.kind.isAgg with
    | true =>
      simp [execOp, ho, hv1, hI, Instr.index, asIntOf, run_underlying hu, hRe.size, part, hRe.isAgg, ha, hj', hRe.size]
    | false =>
      have h1 := h1c ha
      rw [hlen] at h1
      rw [h1] at hlen ⊢
      simp only [Nat.mul_one] at hlen ⊢
      obtain ⟨a, r, hd'⟩ : ∃ a r, vs.drop j = a :: r := by
        cases hd' : vs.drop j with
        | nil => simp [hd'] at hlen
        | cons a r => exact ⟨a, r, rfl⟩
      have hget : vs[j]? = some a := by have := congrArg (·[0]?) hd'; simpa using this
      rw [hd']
      simp [execOp, ho, hv1, hI, Instr.index, asIntOf, run_underlying hu, hRe.size, part, hRe.isAgg, ha, hj', h1, hget]
theorem sameBits_bool (n : Nat) (a b : Bool) : Instr.sameBits n (.bool a) (.bool b) = (a == b) := by cases n <;> rfl
theorem sameBits_int (n : Nat) (j k : IntKind) (a b : Int) : Instr.sameBits n (.int j a) (.int k b) = (j == k && a == b) := by cases n <;> rfl
theorem sameBits_str (n : Nat) (a b : ByteArray) : Instr.sameBits n (.string a) (.string b) = (a == b) := by cases n <;> rfl
theorem checkKey_plain {k : TypeId} {d : TypeDesc} (hu : P.underlying k = some d) (hd : d = .bool ∨ d = .string ∨ ∃ n, d = .int n) (q : Bool) (n : Nat) (u : Value) (w' : World) : (Instr.checkKey q (n + 1) k u).run P w' = .ok () w' := by
  rw [Instr.checkKey]
  rcases hd with rfl | rfl | ⟨n, rfl⟩ <;> simp [run_underlying hu]
theorem key_now {E : Env} (hE : EnvOK P E) {k : TypeId} {kt : Ty} (ht : E.tyOf k = some kt) (hok : okKey kt = true) : ∃ d, P.underlying k = some d ∧
    (∀ (a b : kt.den) (u v : Value), Vt φ w kt a [u] → Vt φ w kt b [v] → Instr.sameNow d u v = some (keyEq kt a b)) ∧ (∀ (u : Value) (a : kt.den) (q : Bool) (w' : World), Vt φ w kt a [u] → (Instr.checkKey q 10000 k u).run P w' = .ok () w') ∧
    (∀ (a b : kt.den) (u v : Value) (w' : World), Vt φ w kt a [u] → Vt φ w kt b [v] → keyEq kt a b = true → (Instr.keyThatStays u v).run P w' = .ok v w') := by
  have h := hE.ty k kt ht
  cases kt with
  | bool =>
    refine ⟨_, h.1, fun a b u v h1 h2 => ?_, fun u a q w' h1 => ?_, fun a b u v w' h1 h2 he => ?_⟩ <;> simp only [Vt, List.cons.injEq, and_true] at h1
    · simp only [Vt, List.cons.injEq, and_true] at h2; subst h1; subst h2; simp [Instr.sameNow, keyEq]
    · exact checkKey_plain h.1 (by simp) q 9999 u w'
    · simp only [Vt, List.cons.injEq, and_true] at h2; subst h1; subst h2
      simp [keyEq] at he
      subst he
      simp [Instr.keyThatStays, sameBits_bool, sameBits_int]
  | int n =>
    refine ⟨_, h.1, fun a b u v h1 h2 => ?_, fun u a q w' h1 => ?_, fun a b u v w' h1 h2 he => ?_⟩ <;> simp only [Vt, List.cons.injEq, and_true] at h1
    · simp only [Vt, List.cons.injEq, and_true] at h2; obtain ⟨rfl, _⟩ := h1; obtain ⟨rfl, _⟩ := h2; simp [Instr.sameNow, keyEq]
    · exact checkKey_plain h.1 (by simp) q 9999 u w'
    · simp only [Vt, List.cons.injEq, and_true] at h2; obtain ⟨rfl, _⟩ := h1; obtain ⟨rfl, _⟩ := h2
      simp [keyEq] at he
      subst he
      simp [Instr.keyThatStays, sameBits_bool, sameBits_int]
  | str =>
    have beq : ∀ a b : List UInt8, ((⟨a.toArray⟩ : ByteArray) == ⟨b.toArray⟩) = (a == b) := fun a b => by rw [beq_toListBytes, toList_mk, toList_mk]
    refine ⟨_, h.1, fun a b u v h1 h2 => ?_, fun u a q w' h1 => ?_, fun a b u v w' h1 h2 he => ?_⟩ <;> simp only [Vt, List.cons.injEq, and_true] at h1
    · simp only [Vt, List.cons.injEq, and_true] at h2; obtain ⟨rfl, _⟩ := h1; obtain ⟨rfl, _⟩ := h2; simp only [Instr.sameNow, keyEq]; rw [beq]
    · exact checkKey_plain h.1 (by simp) q 9999 u w'
    · simp only [Vt, List.cons.injEq, and_true] at h2; obtain ⟨rfl, _⟩ := h1; obtain ⟨rfl, _⟩ := h2
      simp [keyEq] at he
      subst he
      have hr : ((⟨a.toArray⟩ : ByteArray) == ⟨a.toArray⟩) = true := by rw [beq]; simp
      simp [Instr.keyThatStays, sameBits_str, hr]
  | sl e => cases hok
  | pair a b => cases hok
  | raw => cases hok
theorem find_now {kt vt : Ty} {d : TypeDesc} {k : kt.den} {kv : Value} (hk : Vt φ w kt k [kv]) (hs : ∀ (a b : kt.den) (u v : Value), Vt φ w kt a [u] → Vt φ w kt b [v] → Instr.sameNow d u v = some (keyEq kt a b)) :
    ∀ (es : List (kt.den × vt.den)) (l : List MapEntry) (i : Nat), Entries φ w kt vt es l →
      (mget k es = none ∧ Instr.findNow d kv l i = some none ∧ (∀ v, mset k v es = es ++ [(k, v)]) ∧ mdel k es = es) ∨
      ∃ j x e, mget k es = some x ∧ Instr.findNow d kv l i = some (some (i + j, e.val)) ∧ l[j]? = some e ∧ Vt φ w vt x e.val.cells.toList ∧ (vt.sz = 1 → e.val.cells = #[e.val]) ∧ (1 < vt.sz → e.val = .agg e.val.cells) ∧
        (∃ k0, Vt φ w kt k0 [e.key] ∧ keyEq kt k k0 = true) ∧
        (∀ (v : vt.den) (u : Value) (ku : Value) (f : MapEntry → MapEntry), f e = { e with key := ku, val := u } → Vt φ w kt k [ku] → Vt φ w vt v u.cells.toList → (vt.sz = 1 → u.cells = #[u]) → (1 < vt.sz → u = .agg u.cells) → Entries φ w kt vt (mset k v es) (l.modify j f)) ∧
        Entries φ w kt vt (mdel k es) (l.eraseIdx j)
  | [], l, i, h => by simp only [Entries] at h; subst h; exact .inl ⟨rfl, rfl, fun v => rfl, rfl⟩
  | x :: es, l, i, h => by
    simp only [Entries] at h
    obtain ⟨e, r, rfl, h1, h2, h3, h4, h5⟩ := h
    have hsame := hs k x.1 kv e.key hk h1
    cases hq : keyEq kt k x.1 with
    | true =>
      rw [hq] at hsame
      refine .inr ⟨0, x.2, e, by simp [mget, hq], by simp [Instr.findNow, hsame], rfl, h2, h3, h4, ⟨x.1, h1, hq⟩, fun v u ku f hf g1 g2 g3 g4 => ?_, ?_⟩
      · simp only [mset, hq, cond_true, List.modify_zero_cons]
        simp only [Entries]
        exact ⟨f e, r, rfl, by rw [hf]; exact g1, by rw [hf]; exact g2, by rw [hf]; exact g3, by rw [hf]; exact g4, h5⟩
      · simp only [mdel, hq, cond_true, List.eraseIdx_cons_zero]; exact h5
    | false =>
      rw [hq] at hsame
      rcases find_now hk hs es r (i + 1) h5 with ⟨g1, g2, g3, g4⟩ | ⟨j, y, e', g1, g2, g3, g4, g5, g6, g7, g8, g9⟩
      · exact .inl ⟨by simp [mget, hq, g1], by simp [Instr.findNow, hsame, g2], fun v => by simp [mset, hq, g3], by simp [mdel, hq, g4]⟩
      · refine .inr ⟨j + 1, y, e', by simp [mget, hq, g1], by simp [Instr.findNow, hsame, g2]; omega, by simpa using g3, g4, g5, g6, g7, fun v u ku f hf q1 q2 q3 q4 => ?_, ?_⟩
        · simp only [mset, hq, cond_false, List.modify_succ_cons]
          simp only [Entries]
          exact ⟨e, _, rfl, h1, h2, h3, h4, g8 v u ku f hf q1 q2 q3 q4⟩
        · simp only [mdel, hq, cond_false, List.eraseIdx_cons_succ]
          simp only [Entries]
          exact ⟨e, _, rfl, h1, h2, h3, h4, g9⟩
end
end Go.Sim
namespace Go.Sim
set_option linter.unusedSectionVars false
set_option linter.unusedSimpArgs false
set_option linter.unusedVariables false
section
variable {P : Program} [Tabs P] {o : Oper} {get : Nat → AObj} {nx : Nat} {ρ : Operand → AV}
variable {own : Own P} {φ φ' : Nat → Nat} {β β' : Beta} {w w' : World}
theorem keyEq_symm : ∀ (t : Ty) (a b : t.den), keyEq t a b = keyEq t b a
  | .bool, a, b => by simp only [keyEq]; exact Bool.beq_comm
  | .int _, a, b => by simp only [keyEq]; rw [Bool.eq_iff_iff]; simp; exact eq_comm
  | .str, a, b => by simp only [keyEq]; rw [Bool.eq_iff_iff]; simp; exact eq_comm
  | .sl _, _, _ => rfl
  | .pair _ _, _, _ => rfl
  | .raw, _, _ => rfl
theorem mset_len {kt vt : Ty} {k : kt.den} {v : vt.den} : ∀ (es : List (kt.den × vt.den)), (mset k v es).length ≤ es.length + 1
  | [] => Nat.le_refl _
  | e :: es => by
    simp only [mset]
    cases keyEq kt k e.1 with
    | true => simp
    | false => simp; exact mset_len es
theorem mdel_len {kt vt : Ty} {k : kt.den} : ∀ (es : List (kt.den × vt.den)), (mdel k es).length ≤ es.length
  | [] => Nat.le_refl _
  | e :: es => by
    simp only [mdel]
    cases keyEq kt k e.1 with
    | true => simp
    | false => simp; exact mdel_len es
theorem sz_pos : ∀ t : Ty, 0 < t.sz
  | .bool => Nat.one_pos
  | .int _ => Nat.one_pos
  | .str => Nat.one_pos
  | .sl _ => Nat.one_pos
  | .pair a b => by simp only [Ty.sz]; have := sz_pos a; omega
  | .raw => Nat.one_pos
theorem run_getObj_map' {r : Nat} {es : Array MapEntry} {clock : Nat} (h : w.heap[r]? = some (.map es clock)) : (getObj r).run P w = .ok (.map es clock) w := by simp [getObj, Sem.run, h]
theorem run_setObj_map' {r : Nat} {es : Array MapEntry} {clock : Nat} (ob : Obj) (h : w.heap[r]? = some (.map es clock)) : (setObj r ob).run P w = .ok () { w with heap := w.heap.setIfInBounds r ob } := by simp [setObj, Sem.run, h]
theorem dec_one {kt : Ty} (hk : okKey kt = true) {c : AV} {k : kt.den} (hd : dec kt [c] = some k) {v : Value} (h : V φ β w c v) : Vt φ w kt k [v] := dec_sound kt [c] k [v] hd (.cons h rfl)
theorem isTy_eq {a : Option Ty} {b : Ty} (h : isTy a b = true) : a = some b := by
  cases a with
  | none => simp [isTy] at h
  | some c => simp [isTy] at h; rw [h]
theorem map_at (hW : WInv own φ β get w) {l : Nat} {kt vt : Ty} {es : List (kt.den × vt.den)} (hg : get l = .map kt vt es) {x : Value} (hV : V φ β w (.mp l) x) :
    ∃ p ents clock, β l = some (some p) ∧ x = .map (some p.block) ∧ w.heap[p.block]? = some (.map ents clock) ∧ φ p.block = 0 ∧ okKey kt = true ∧ Entries φ w kt vt es ents.toList ∧ es.length ≤ maxL := by
  have hrel := hW.rel l
  rw [hg] at hrel
  simp only [ObjRel] at hrel
  obtain ⟨hM, p, ents, clock, hb, hheap, h1, h2, h3⟩ := hrel
  simp only [V] at hV
  obtain ⟨q, hq, hx⟩ := hV
  rw [hb] at hq; cases hq
  exact ⟨p, ents, clock, hb, hx, hheap, h1, h2, h3, hM⟩
theorem val_whole {vt : Ty} {x : vt.den} {u : Value} (h : Vt φ w vt x u.cells.toList) (h1 : vt.sz = 1 → u.cells = #[u]) (h2 : 1 < vt.sz → u = .agg u.cells) {v : AV} (hw : whole (Nat.blt 1 vt.sz) (enc vt x) = some v) : V φ β w v u := by
  have hv := Vt.enc (β := β) _ _ _ h
  obtain ⟨hV, _⟩ := whole_sound hw hv
  cases hb : Nat.blt 1 vt.sz with
  | true =>
    rw [hb] at hV
    have : 1 < vt.sz := by have := hb; simpa [Nat.blt_eq] using this
    rw [h2 this]
    simpa using hV
  | false =>
    rw [hb] at hV
    have hn : ¬ 1 < vt.sz := by intro hh; have : Nat.blt 1 vt.sz = true := by simpa [Nat.blt_eq] using hh
                                rw [hb] at this; cases this
    have := sz_pos vt
    rw [h1 (by omega)] at hV
    simpa using hV
theorem run_findKey {k : TypeId} {d : TypeDesc} (hu : P.underlying k = some d) {kv : Value} {es : List MapEntry} {r : Option (Nat × Value)} (h : Instr.findNow d kv es 0 = some r) : (Instr.findKey k kv es).run P w = .ok r w := by
  simp [Instr.findKey, run_underlying hu, h]
theorem tyWhole {E : Env} (hE : EnvOK P E) {e : TypeId} {t : Ty} (ht : E.tyOf e = some t) : ∃ i z, P.info? e = some i ∧ i.zero = some z ∧ (t.sz = 1 → z.cells = #[z]) ∧ (1 < t.sz → z = .agg z.cells) ∧ Vt φ w t t.zero z.cells.toList := by
  have h := hE.ty e t ht
  cases t with
  | bool => obtain ⟨_, i, h1, h2, h3⟩ := h; exact ⟨i, _, h1, h3, fun _ => rfl, fun h => by simp [Ty.sz] at h, rfl⟩
  | int k => obtain ⟨_, i, h1, h2, h3⟩ := h; exact ⟨i, _, h1, h3, fun _ => rfl, fun h => by simp [Ty.sz] at h, rfl, In.zero k⟩
  | str => obtain ⟨_, i, h1, h2, h3⟩ := h; exact ⟨i, _, h1, h3, fun _ => rfl, fun h => by simp [Ty.sz] at h, rfl, Nat.zero_le _⟩
  | sl a => obtain ⟨i, z, h1, h2, h3, h4, h5, h6⟩ := h; exact ⟨i, z, h1, h3, h6, h5, h4 φ w⟩
  | raw => obtain ⟨i, z, h1, h2, h3, h4, h5, h6⟩ := h; exact ⟨i, z, h1, h3, h6, h5, h4 φ w⟩
  | pair a b => obtain ⟨i, z, h1, h2, h3, h4, h5, h6⟩ := h; exact ⟨i, z, h1, h3, h6, h5, h4 φ w⟩
theorem good_lookup {E : Env} (hE : EnvOK P E) {t kt0 vt0 : TypeId} {x k : Operand} {ok : Bool} {rw_ : TRow} (ho : o.op = .lookup t x k ok) (hr : E.row t = some rw_) (hk : rw_.kind = .map kt0 vt0) {l : Nat} (hx : ρ x = .mp l)
    {kt vt : Ty} {es : List (kt.den × vt.den)} (hg : get l = .map kt vt es) (h1 : isTy (E.tyOf kt0) kt = true) (h2 : isTy (E.tyOf vt0) vt = true) {key : kt.den} (hd : dec kt [ρ k] = some key) {v : AV}
    (hw : whole (Nat.blt 1 vt.sz) (enc vt ((mget key es).getD vt.zero)) = some v) : OpGood P o get nx ρ (cond ok (.tup [v, .bool (mget key es).isSome]) v) [] [l] nx :=
  .pure fun own get' φ β w ρv hget hvs hW => by
    have hX := hvs x (by simp [ho, Op.operands])
    have hK := hvs k (by simp [ho, Op.operands])
    rw [hx] at hX
    obtain ⟨p, ents, clock, hb, hxv, hheap, hφ, hok, hent, _⟩ := map_at hW (by rw [hget l (by simp)]; exact hg) hX
    have hkv := dec_one hok hd hK
    obtain ⟨d, hud, hsame, hcheck, _⟩ := key_now (w := w) (φ := φ) hE (isTy_eq h1) hok
    have hu := (hE.row t rw_ hr).map_kind hk
    have key : ∃ u, V φ β w v u ∧ (Instr.lookup t (ρv x) (ρv k) ok).run P w = .ok (if ok then .tuple #[u, .bool (mget key es).isSome] else u) w := by
      rcases find_now hkv hsame es ents.toList 0 hent with ⟨g1, g2, _⟩ | ⟨j, y, e, g1, g2, g3, g4, g5, g6, _⟩
      · obtain ⟨i, z, q1, q2, q3, q4, q5⟩ := tyWhole (φ := φ) (w := w) hE (isTy_eq h2)
        rw [g1] at hw
        refine ⟨z, val_whole q5 q3 q4 hw, ?_⟩
        cases ok <;> simp [Instr.lookup, run_underlying hu, hxv, run_getObj_map' hheap, hcheck _ _ _ _ hkv, run_findKey hud g2, zeroValue, typeInfo, q1, q2, g1]
      · rw [g1] at hw
        refine ⟨e.val, val_whole g4 g5 g6 hw, ?_⟩
        cases ok <;> simp [Instr.lookup, run_underlying hu, hxv, run_getObj_map' hheap, hcheck _ _ _ _ hkv, run_findKey hud g2, g1]
    obtain ⟨u, hV, hrun⟩ := key
    refine ⟨_, by simp only [execOp, ho]; simp [hrun]; rfl, ?_⟩
    cases ok with
    | true => simp only [V, cond_true, if_true]; exact ⟨[u, .bool (mget key es).isSome], rfl, .cons hV (.cons (by simp [V]) rfl)⟩
    | false => simpa using hV
theorem Entries.snoc {kt vt : Ty} {k : kt.den} {v : vt.den} {e : MapEntry} (g1 : Vt φ w kt k [e.key]) (g2 : Vt φ w vt v e.val.cells.toList) (g3 : vt.sz = 1 → e.val.cells = #[e.val]) (g4 : 1 < vt.sz → e.val = .agg e.val.cells) :
    ∀ {es : List (kt.den × vt.den)} {l : List MapEntry}, Entries φ w kt vt es l → Entries φ w kt vt (es ++ [(k, v)]) (l ++ [e])
  | [], l, h => by simp only [Entries] at h; subst h; exact ⟨e, [], rfl, g1, g2, g3, g4, rfl⟩
  | x :: es, l, h => by
    simp only [Entries] at h
    obtain ⟨e', r, rfl, a1, a2, a3, a4, a5⟩ := h
    exact ⟨e', _, rfl, a1, a2, a3, a4, Entries.snoc g1 g2 g3 g4 a5⟩
theorem val_cells {c : AV} {u : Value} (h : V φ β w c u) {vt : Ty} {x : vt.den} (hd : dec vt c.cells = some x) (hc : aggOk c vt.sz = true) :
    Vt φ w vt x u.cells.toList ∧ (vt.sz = 1 → u.cells = #[u]) ∧ (1 < vt.sz → u = .agg u.cells) := by
  have hne : c ≠ .undef := by
    intro e
    subst e
    have : ∀ t : Ty, dec t [] = none := by
      intro t
      induction t with
      | pair a b iha ihb => simp [dec, iha]
      | _ => rfl
    simp only [AV.cells] at hd
    rw [this] at hd; cases hd
  have hv := dec_sound vt _ _ _ hd (V_cells h hne)
  have hlen := Vt.length _ _ _ hv
  refine ⟨hv, ?_⟩
  by_cases ha : ∃ cs, c = .agg cs
  · obtain ⟨cs, rfl⟩ := ha
    simp only [V] at h
    obtain ⟨vs, rfl, _⟩ := h
    have : 1 < vt.sz := by simpa [aggOk, Nat.blt_eq] using hc
    exact ⟨fun e => by omega, fun _ => rfl⟩
  · have hone : u.cells = #[u] := by
      have hcs : c.cells = [c] := by cases c <;> first | rfl | exact absurd rfl hne | exact absurd ⟨_, rfl⟩ ha
      have h1 := V_cells h hne
      rw [hcs] at h1
      simp only [VL] at h1
      obtain ⟨u', us, e1, hV, rfl⟩ := h1
      by_cases hu : ∃ vs, u = .agg vs
      · obtain ⟨vs, rfl⟩ := hu
        exfalso
        have key : ∀ c : AV, (∀ cs, c ≠ .agg cs) → c ≠ .undef → ¬ V φ β w c (.agg vs) := by
          intro c hca hcu hV
          cases c with
          | agg cs => exact hca _ rfl
          | undef => exact hcu rfl
          | hw l => rcases hb : β l with _ | (_ | p) <;> simp [V, hb] at hV
          | hs l a n => rcases hb : β l with _ | (_ | p) <;> simp [V, hb] at hV
          | hc l a n c => rcases hb : β l with _ | (_ | p) <;> simp [V, hb] at hV
          | vl t xs => simp only [V, Vt] at hV; obtain ⟨_, A, cap, he, _⟩ := hV; simp at he
          | rv x => simp only [V] at hV; rw [← hV.1] at hV; simp [Value.oneCell'] at hV
          | _ => simp [V] at hV
        exact key c (fun cs e => ha ⟨cs, e⟩) hne h
      · cases u <;> first | rfl | exact absurd ⟨_, rfl⟩ hu
    rw [hone] at hlen
    simp at hlen
    exact ⟨fun _ => hone, fun e => by omega⟩
theorem good_mapUpdate {E : Env} (hE : EnvOK P E) {t kt0 vt0 : TypeId} {x k y : Operand} {rw_ : TRow} (ho : o.op = .mapUpdate t x k y) (hr : E.row t = some rw_) (hk : rw_.kind = .map kt0 vt0) {l : Nat} (hx : ρ x = .mp l)
    {kt vt : Ty} {es : List (kt.den × vt.den)} (hg : get l = .map kt vt es) (h1 : isTy (E.tyOf kt0) kt = true) {key : kt.den} (hd : dec kt [ρ k] = some key) {val : vt.den} (hdv : dec vt (ρ y).cells = some val)
    (hc : aggOk (ρ y) vt.sz = true) (hlt : es.length < 9223372036854775807) : OpGood P o get nx ρ .undef [(l, .map kt vt (mset key val es))] [l] nx := by
  refine ⟨Nat.le_refl _, fun own get' φ β w ρv hget _ hvs hW => ?_⟩
  have hX := hvs x (by simp [ho, Op.operands])
  have hK := hvs k (by simp [ho, Op.operands])
  have hY := hvs y (by simp [ho, Op.operands])
  rw [hx] at hX
  have hgl := hget l (by simp)
  rw [hg] at hgl
  obtain ⟨p, ents, clock, hb, hxv, hheap, hφ, hok, hent, hML⟩ := map_at hW hgl hX
  have hkv := dec_one hok hd hK
  obtain ⟨v1, v2, v3⟩ := val_cells hY hdv hc
  obtain ⟨d, hud, hsame, hcheck, hstay⟩ := key_now (w := w) (φ := φ) hE (isTy_eq h1) hok
  have hu := (hE.row t rw_ hr).map_kind hk
  have key : ∃ ents' clock', (Instr.mapUpdate t (ρv x) (ρv k) (ρv y)).run P w = .ok () { w with heap := w.heap.setIfInBounds p.block (.map ents' clock') } ∧ Entries φ w kt vt (mset key val es) ents'.toList := by
    rcases find_now hkv hsame es ents.toList 0 hent with ⟨g1, g2, g3, _⟩ | ⟨j, z, e, g1, g2, g3, g4, g5, g6, ⟨k0, q1, q2⟩, g8, _⟩
    · refine ⟨ents.push { key := ρv k, val := ρv y, born := clock }, clock + 1, ?_, ?_⟩
      · simp [Instr.mapUpdate, run_underlying hu, hxv, run_getObj_map' hheap, hcheck _ _ _ _ hkv, run_findKey hud g2, run_setObj_map' _ hheap]
      · rw [g3]
        simp only [Array.toList_push]
        exact hent.snoc hkv v1 v2 v3
    · have hej : ents[j]? = some e := by simpa using g3
      refine ⟨ents.modify j fun e => { e with key := ρv k, val := ρv y }, clock, ?_, ?_⟩
      · have hs := hstay k0 key e.key (ρv k) w q1 hkv (by rw [keyEq_symm]; exact q2)
        simp [Instr.mapUpdate, run_underlying hu, hxv, run_getObj_map' hheap, hcheck _ _ _ _ hkv, run_findKey hud g2, hej, hs, run_setObj_map' _ hheap]
      · simp only [Array.toList_modify]
        exact g8 val (ρv y) (ρv k) _ rfl hkv v1 v2 v3
  obtain ⟨ents', clock', hrun, hent'⟩ := key
  obtain ⟨w', hw', hstep, hWI⟩ := hW.setObj (a := .map kt vt (mset key val es)) (ob' := .map ents' clock') (new := fun l => nx ≤ l ∧ l < nx)
    (by rw [hgl]; intro h; cases h) hb hheap (fun _ _ _ h => by cases h) hφ (fun w' h hk => by simp only [ObjRel]; exact ⟨by have := mset_len (k := key) (v := val) es; unfold maxL; omega, p, ents', clock', hb, h, hφ, hok, hent'.keep hk⟩)
  refine .skip (w' := w') ?_ ⟨φ, β, hstep, by simp [V], hWI⟩
  simp only [execOp, ho]
  simp [hrun, hw']
theorem good_delete {E : Env} (hE : EnvOK P E) {c : Call} {t kt0 vt0 : TypeId} {rw_ : TRow} (ho : o.op = .call c) (hc : c.callee = .builtin .delete) (ht : c.argTypes[0]? = some t) (hr : E.row t = some rw_) (hk : rw_.kind = .map kt0 vt0) {l : Nat} {ka : AV}
    (hargs : c.args.toList.map ρ = [.mp l, ka]) {kt vt : Ty} {es : List (kt.den × vt.den)} (hg : get l = .map kt vt es) (h1 : isTy (E.tyOf kt0) kt = true) {key : kt.den} (hd : dec kt [ka] = some key) :
    OpGood P o get nx ρ (.tup []) [(l, .map kt vt (mdel key es))] [l] nx := by
  refine ⟨Nat.le_refl _, fun own get' φ β w ρv hget _ hvs hW => ?_⟩
  have ha := call_args ho hvs
  rw [hargs] at ha
  simp only [VL] at ha
  obtain ⟨u1, us, hu1, hX, u2, us', rfl, hK, rfl⟩ := ha
  obtain ⟨cs, hrun0⟩ := run_builtin hc ho ρv
  rw [map_toList_eq hu1] at hrun0
  have hgl := hget l (by simp)
  rw [hg] at hgl
  obtain ⟨p, ents, clock, hb, hxv, hheap, hφ, hok, hent, hML⟩ := map_at hW hgl hX
  have hkv := dec_one hok hd hK
  obtain ⟨d, hud, hsame, hcheck, _⟩ := key_now (w := w) (φ := φ) hE (isTy_eq h1) hok
  have hu := (hE.row t rw_ hr).map_kind hk
  have key : ∃ ents', (Builtin.delete_ c.argTypes o.type #[u1, u2]).run P w = .ok (.tuple #[]) { w with heap := w.heap.setIfInBounds p.block (.map ents' clock) } ∧ Entries φ w kt vt (mdel key es) ents'.toList := by
    rcases find_now hkv hsame es ents.toList 0 hent with ⟨g1, g2, _, g4⟩ | ⟨j, z, e, g1, g2, g3, _, _, _, _, _, g9⟩
    · refine ⟨ents, ?_, by rw [g4]; exact hent⟩
      simp [Builtin.delete_, ht, run_underlying hu, hxv, run_getObj_map' hheap, hcheck _ _ _ _ hkv, run_findKey hud g2, run_setObj_map' _ hheap]
    · refine ⟨ents.eraseIdxIfInBounds j, ?_, ?_⟩
      · simp [Builtin.delete_, ht, run_underlying hu, hxv, run_getObj_map' hheap, hcheck _ _ _ _ hkv, run_findKey hud g2, run_setObj_map' _ hheap]
      · rw [Array.toList_eraseIdxIfInBounds]; exact g9
  obtain ⟨ents', hrun, hent'⟩ := key
  obtain ⟨w', hw', hstep, hWI⟩ := hW.setObj (a := .map kt vt (mdel key es)) (ob' := .map ents' clock) (new := fun l => nx ≤ l ∧ l < nx)
    (by rw [hgl]; intro h; cases h) hb hheap (fun _ _ _ h => by cases h) hφ (fun w' h hk => by simp only [ObjRel]; exact ⟨Nat.le_trans (mdel_len es) hML, p, ents', clock, hb, h, hφ, hok, hent'.keep hk⟩)
  refine .value (w' := w') (u := .tuple #[]) ?_ ⟨φ, β, hstep, by simp only [V]; exact ⟨[], rfl, rfl⟩, hWI⟩
  rw [hrun0]
  simp [builtin, hrun, hw']
end
end Go.Sim
namespace Go.Sim
set_option linter.unusedSectionVars false
set_option linter.unusedSimpArgs false
set_option linter.unusedVariables false
theorem has_mem : ∀ {l : List Nat} {x : Nat}, has l x = true ↔ x ∈ l
  | [], x => by simp [has]
  | k :: r, x => by
    simp only [has, List.mem_cons]
    cases hb : Nat.beq k x with
    | true => simp [(Nat.eq_of_beq_eq_true hb)]
    | false =>
      have : k ≠ x := fun h => by subst h; simp [Nat.beq_refl] at hb
      simp only [cond_false]
      rw [has_mem]
      constructor
      · exact .inr
      · rintro (h | h)
        · exact absurd h.symm this
        · exact h
theorem cond_none {α : Type} {c : Bool} {x : Option α} {r : α} (h : cond c x none = some r) : c = true ∧ x = some r := by
  cases c with
  | true => exact ⟨rfl, h⟩
  | false => cases h
theorem bind_some {α β : Type} {x : Option α} {f : α → Option β} {r : β} (h : x.bind f = some r) : ∃ a, x = some a ∧ f a = some r := Option.bind_eq_some_iff.1 h
section
variable {P : Program} [Tabs P]
variable {own : Own P} {φ φ' : Nat → Nat} {β β' β2 : Beta} {w w' : World}
mutual
theorem V.ren {f : Nat → Option Nat} (hf : ∀ l m, f l = some m → β2 m = β l) : ∀ (c : AV) (v : Value), V φ β w c v → V φ β2 w (c.ren f) v
  | .bool _, _, h => h
  | .int _ _, _, h => h
  | .str _, _, h => h
  | .nilp, _, h => h
  | .ptr l e j, v, h => by
    simp only [AV.ren]
    cases hl : f l with
    | none => simp [V]
    | some m =>
      simp only [V] at h ⊢
      obtain ⟨p, h1, h2⟩ := h
      exact ⟨p, by rw [hf l m hl]; exact h1, h2⟩
  | .eptr cs, v, h => by
    simp only [AV.ren, V] at h ⊢
    obtain ⟨a, vs, h1, h2, h3, h4⟩ := h
    exact ⟨a, vs, h1, h2, VL.ren hf cs vs h3, h4⟩
  | .vl _ _, _, h => by simpa only [AV.ren, V] using h
  | .ap _ _, _, h => by simpa only [AV.ren, V] using h
  | .nils, _, h => h
  | .hw l, v, h => by
    simp only [AV.ren]
    cases hl : f l with
    | none => simp [V]
    | some m =>
      simp only [V] at h ⊢
      rw [hf l m hl]; exact h
  | .hs l o n, v, h => by
    simp only [AV.ren]
    cases hl : f l with
    | none => simp [V]
    | some m =>
      simp only [V] at h ⊢
      rw [hf l m hl]; exact h
  | .hc l o n c, v, h => by
    simp only [AV.ren]
    cases hl : f l with
    | none => simp [V]
    | some m =>
      simp only [V] at h ⊢
      rw [hf l m hl]; exact h
  | .agg cs, v, h => by
    simp only [AV.ren, V] at h ⊢
    obtain ⟨vs, h1, h2⟩ := h
    exact ⟨vs, h1, VL.ren hf cs vs h2⟩
  | .tup cs, v, h => by
    simp only [AV.ren, V] at h ⊢
    obtain ⟨vs, h1, h2⟩ := h
    exact ⟨vs, h1, VL.ren hf cs vs h2⟩
  | .iface t c, v, h => by
    simp only [AV.ren, V] at h ⊢
    obtain ⟨u, h1, h2⟩ := h
    exact ⟨u, h1, V.ren hf c u h2⟩
  | .nilif, _, h => h
  | .fn g first cap, v, h => by
    simp only [AV.ren, V] at h ⊢
    obtain ⟨us, vs, h1, h2, h3⟩ := h
    exact ⟨us, vs, h1, VL.ren hf first us h2, VL.ren hf cap vs h3⟩
  | .mp l, v, h => by
    simp only [AV.ren]
    cases hl : f l with
    | none => simp [V]
    | some m =>
      simp only [V] at h ⊢
      obtain ⟨p, h1, h2⟩ := h
      exact ⟨p, by rw [hf l m hl]; exact h1, h2⟩
  | .it l, v, h => by
    simp only [AV.ren]
    cases hl : f l with
    | none => simp [V]
    | some m =>
      simp only [V] at h ⊢
      obtain ⟨p, h1, h2⟩ := h
      exact ⟨p, by rw [hf l m hl]; exact h1, h2⟩
  | .ve _, _, h => h
  | .rv _, _, h => h
  | .undef, _, _ => by simp [AV.ren, V]
theorem VL.ren {f : Nat → Option Nat} (hf : ∀ l m, f l = some m → β2 m = β l) : ∀ (cs : List AV) (vs : List Value), VL φ β w cs vs → VL φ β2 w (renL f cs) vs
  | [], _, h => h
  | c :: cs, vs, h => by
    simp only [VL, renL] at h ⊢
    obtain ⟨u, us, h1, h2, h3⟩ := h
    exact ⟨u, us, h1, V.ren hf c u h2, VL.ren hf cs us h3⟩
end
theorem renLL_get (f : Nat → Option Nat) : ∀ (l : List (List AV)) (q : Nat), (renLL f l)[q]? = (l[q]?).map (renL f)
  | [], q => by simp [renLL]
  | c :: l, 0 => by simp [renLL]
  | c :: l, q + 1 => by simp [renLL, renLL_get f l q]
theorem renLL_length (f : Nat → Option Nat) : ∀ (l : List (List AV)), (renLL f l).length = l.length
  | [] => rfl
  | c :: l => by simp [renLL, renLL_length f l]
theorem renL_length (f : Nat → Option Nat) : ∀ (l : List AV), (renL f l).length = l.length
  | [] => rfl
  | c :: l => by simp [renL, renL_length f l]
theorem ObjRel.ren {f : Nat → Option Nat} (hf : ∀ l m, f l = some m → β2 m = β l) {l m : Nat} (hl : β2 m = β l) {ob : AObj} (h : ObjRel φ β w l ob) : ObjRel φ β2 w m (ob.ren f) := by
  cases ob with
  | dead => trivial
  | arr sz t xs tail =>
    simp only [AObj.ren, ObjRel, hl] at h ⊢
    rcases hb : β l with _ | (_ | p)
    · simp only [hb] at h
    · simp only [hb] at h ⊢
      refine ⟨h.1, ?_⟩
      rw [h.2]; rfl
    · simp only [hb] at h ⊢
      obtain ⟨h1, h2, h3, hM, h4, h5, h6, h7, h8, h9⟩ := h
      refine ⟨h1, h2, by rw [renLL_length]; exact h3, hM, h4, h5, h6, h7, h8, fun q e hq => ?_⟩
      rw [renLL_get] at hq
      obtain ⟨e0, he0, rfl⟩ := Option.map_eq_some_iff.1 hq
      obtain ⟨g1, ds, g2, g3⟩ := h9 q e0 he0
      exact ⟨by rw [renL_length]; exact g1, ds, VL.ren hf _ _ g2, g3⟩
  | map kt vt es =>
    simp only [AObj.ren, ObjRel, hl] at h ⊢
    exact h
  | log t xs =>
    simp only [AObj.ren, ObjRel, hl] at h ⊢
    exact h
  | siter s pos =>
    simp only [AObj.ren, ObjRel, hl] at h ⊢
    exact h
theorem idx_some : ∀ {ls : List Nat} {i l m : Nat}, idx ls i l = some m → i ≤ m ∧ ls[m - i]? = some l
  | [], i, l, m, h => by simp [idx] at h
  | k :: r, i, l, m, h => by
    simp only [idx] at h
    cases hb : Nat.beq k l with
    | true =>
      rw [hb] at h
      simp at h
      subst h
      exact ⟨Nat.le_refl _, by simp [Nat.eq_of_beq_eq_true hb]⟩
    | false =>
      rw [hb] at h
      obtain ⟨h1, h2⟩ := idx_some h
      refine ⟨by omega, ?_⟩
      rw [show m - i = (m - (i + 1)) + 1 from by omega]
      simpa using h2
theorem nodupB_spec : ∀ {ls : List Nat}, nodupB ls = true → ∀ (i j x : Nat), ls[i]? = some x → ls[j]? = some x → i = j
  | [], _, i, j, x, hi, _ => by simp at hi
  | k :: r, h, i, j, x, hi, hj => by
    simp only [nodupB, Bool.and_eq_true, Bool.not_eq_true'] at h
    have hk : k ∉ r := fun hm => by have := has_mem.2 hm; rw [h.1] at this; cases this
    cases i with
    | zero =>
      simp at hi
      subst hi
      cases j with
      | zero => rfl
      | succ j => simp at hj; exact absurd (List.mem_of_getElem? hj) hk
    | succ i =>
      cases j with
      | zero => simp at hj hi; subst hj; exact absurd (List.mem_of_getElem? hi) hk
      | succ j => simp at hi hj; rw [nodupB_spec h.2 i j x hi hj]
theorem startsNum_spec : ∀ {k i : Nat} {ls : List Nat}, startsNum k i ls = true → k ≤ ls.length ∧ ∀ j, j < k → ls[j]? = some (i + j)
  | 0, i, ls, _ => ⟨Nat.zero_le _, fun j hj => by omega⟩
  | k + 1, i, [], h => by simp [startsNum] at h
  | k + 1, i, l :: r, h => by
    simp only [startsNum, Bool.and_eq_true] at h
    obtain ⟨h1, h2⟩ := startsNum_spec h.2
    refine ⟨by simp; exact h1, fun j hj => ?_⟩
    cases j with
    | zero => simp [Nat.eq_of_beq_eq_true h.1]
    | succ j => simp; rw [h2 j (by omega)]; congr 1; omega
theorem lk_numbered {β : Type} (d : β) : ∀ (l : List β) (i k : Nat), lk d (numbered i l) k = if i ≤ k then (l[k - i]?).getD d else d
  | [], i, k => by simp [numbered, lk]
  | x :: r, i, k => by
    simp only [numbered, lk]
    cases hb : Nat.beq i k with
    | true => have := Nat.eq_of_beq_eq_true hb; subst this; simp
    | false =>
      have hne : i ≠ k := fun h => by subst h; simp [Nat.beq_refl] at hb
      simp only [cond_false]
      rw [lk_numbered d r (i + 1) k]
      by_cases h1 : i + 1 ≤ k
      · have h2 : i ≤ k := by omega
        rw [if_pos h1, if_pos h2, show k - i = (k - (i + 1)) + 1 from by omega]; simp
      · have h2 : ¬ i ≤ k := by omega
        rw [if_neg h1, if_neg h2]
theorem getO_numbered (l : List AObj) (k : Nat) : getO (numbered 0 l) k = (l[k]?).getD .dead := by
  unfold getO; rw [lk_numbered]; simp
def subB (ls : List Nat) (β : Beta) : Beta := fun i => match ls[i]? with
  | some l => β l
  | none => none
theorem subB_idx {ls : List Nat} {β : Beta} : ∀ l m, idx ls 0 l = some m → subB ls β m = β l := fun l m h => by
  have := (idx_some h).2
  unfold subB
  rw [show m - 0 = m from rfl] at this
  rw [this]
theorem WInv.sub {get : Nat → AObj} (hW : WInv own φ β get w) {ls : List Nat} (hn : nodupB ls = true) :
    WInv own φ (subB ls β) (getO (numbered 0 (ls.map fun l => (get l).ren (idx ls 0)))) w := by
  have hg : ∀ m, getO (numbered 0 (ls.map fun l => (get l).ren (idx ls 0))) m = match ls[m]? with | some l => (get l).ren (idx ls 0) | none => .dead := fun m => by
    rw [getO_numbered]
    simp only [List.getElem?_map]
    cases ls[m]? <;> rfl
  have hd : ∀ m, getO (numbered 0 (ls.map fun l => (get l).ren (idx ls 0))) m ≠ .dead → ∃ l, ls[m]? = some l ∧ get l ≠ .dead := fun m hm => by
    rw [hg] at hm
    cases hl : ls[m]? with
    | none => rw [hl] at hm; exact absurd rfl hm
    | some l => rw [hl] at hm; exact ⟨l, rfl, fun h => hm (by simp [h, AObj.ren])⟩
  refine ⟨fun m => ?_, fun m p hm hp => ?_, fun m m' p q hne h1 h2 h3 h4 => ?_, hW.fresh, hW.laid⟩
  · rw [hg]
    cases hl : ls[m]? with
    | none => trivial
    | some l => exact ObjRel.ren subB_idx (by simp [subB, hl]) (hW.rel l)
  · obtain ⟨l, hl, hlive⟩ := hd m hm
    exact hW.mine l p hlive (by simpa [subB, hl] using hp)
  · obtain ⟨l, hl, hlive⟩ := hd m h1
    obtain ⟨l', hl', hlive'⟩ := hd m' h2
    refine hW.dist l l' p q (fun h => ?_) hlive hlive' (by simpa [subB, hl] using h3) (by simpa [subB, hl'] using h4)
    subst h
    exact hne (nodupB_spec hn m m' l hl hl')
mutual
theorem V.closed (β2 : Beta) : ∀ (c : AV) (v : Value), c.closed = true → V φ β w c v → V φ β2 w c v
  | .bool _, _, _, h => h
  | .int _ _, _, _, h => h
  | .str _, _, _, h => h
  | .nilp, _, _, h => h
  | .ptr _ _ _, v, hc, _ => by simp [AV.closed] at hc
  | .eptr cs, v, hc, h => by
    simp only [AV.closed] at hc
    simp only [V] at h ⊢
    obtain ⟨a, vs, h1, h2, h3, h4⟩ := h
    exact ⟨a, vs, h1, h2, VL.closed β2 cs vs hc h3, h4⟩
  | .vl _ _, _, _, h => by simpa only [V] using h
  | .ap _ _, _, _, h => by simpa only [V] using h
  | .nils, _, _, h => h
  | .hw _, v, hc, _ => by simp [AV.closed] at hc
  | .hs _ _ _, v, hc, _ => by simp [AV.closed] at hc
  | .hc _ _ _ _, v, hc, _ => by simp [AV.closed] at hc
  | .agg cs, v, hc, h => by
    simp only [AV.closed] at hc
    simp only [V] at h ⊢
    obtain ⟨vs, h1, h2⟩ := h
    exact ⟨vs, h1, VL.closed β2 cs vs hc h2⟩
  | .tup cs, v, hc, h => by
    simp only [AV.closed] at hc
    simp only [V] at h ⊢
    obtain ⟨vs, h1, h2⟩ := h
    exact ⟨vs, h1, VL.closed β2 cs vs hc h2⟩
  | .iface t c, v, hc, h => by
    simp only [AV.closed] at hc
    simp only [V] at h ⊢
    obtain ⟨u, h1, h2⟩ := h
    exact ⟨u, h1, V.closed β2 c u hc h2⟩
  | .nilif, _, _, h => h
  | .fn g first cap, v, hc, h => by
    simp only [AV.closed, Bool.and_eq_true] at hc
    simp only [V] at h ⊢
    obtain ⟨us, vs, h1, h2, h3⟩ := h
    exact ⟨us, vs, h1, VL.closed β2 first us hc.1 h2, VL.closed β2 cap vs hc.2 h3⟩
  | .mp _, v, hc, _ => by simp [AV.closed] at hc
  | .it _, v, hc, _ => by simp [AV.closed] at hc
  | .ve _, _, _, h => h
  | .rv _, _, _, h => h
  | .undef, _, _, _ => by simp [V]
theorem VL.closed (β2 : Beta) : ∀ (cs : List AV) (vs : List Value), closedL cs = true → VL φ β w cs vs → VL φ β2 w cs vs
  | [], _, _, h => h
  | c :: cs, vs, hc, h => by
    simp only [closedL, Bool.and_eq_true] at hc
    simp only [VL] at h ⊢
    obtain ⟨u, us, h1, h2, h3⟩ := h
    exact ⟨u, us, h1, V.closed β2 c u hc.1 h2, VL.closed β2 cs us hc.2 h3⟩
end
end
end Go.Sim
namespace Go.Sim
set_option linter.unusedSectionVars false
set_option linter.unusedSimpArgs false
set_option linter.unusedVariables false
section
variable {P : Program} [Tabs P] {o : Oper} {get : Nat → AObj} {nx : Nat} {ρ : Operand → AV}
theorem pickK_sound {R α : Type} {K : α → Option R} {r : R} : ∀ {l : List (Bool × α)}, pickK K l = some r → ∃ v, pick l = some v ∧ K v = some r
  | [], h => by cases h
  | (c, v) :: l, h => by
    simp only [pickK] at h
    simp only [pick]
    cases c with
    | true => exact ⟨v, rfl, h⟩
    | false => exact pickK_sound h
theorem enter_run {c : Call} {f : Operand} {n : FuncId} (ho : o.op = .call c) (hc : c.callee = .value f) {ρv : Operand → Value} {us vs : List Value} (hfv : ρv f = .func (.func n) us.toArray vs.toArray) (hcal : Called P n) (w : World) :
    (execOp ρv o).run P w = .ok (.enter n (us ++ c.args.toList.map ρv ++ vs).toArray) w := by
  obtain ⟨fn, hfn, hname, hbody⟩ := hcal
  have hname' : ¬ fn.name = "runtime.NumGoroutine" := by simpa using hname
  have hbody' : ¬ fn.body = none := by intro e; rw [e] at hbody; cases hbody
  simp [execOp, ho, resolve, hc, hfv, Deferred.ofValue, invoke, callFunc, hfn, hname', hbody']
theorem call_vals {c : Call} {f : Operand} {n : FuncId} (ho : o.op = .call c) (hc : c.callee = .value f) {first cap : List AV} (hf : ρ f = .fn (.func n) first cap) {φ : Nat → Nat} {β : Beta} {w : World} {ρv : Operand → Value}
    (hvs : ∀ x, x ∈ o.op.operands.toList → V φ β w (ρ x) (ρv x)) : ∃ us vs : List Value, ρv f = .func (.func n) us.toArray vs.toArray ∧ VL φ β w (first ++ c.args.toList.map ρ ++ cap) (us ++ c.args.toList.map ρv ++ vs) := by
  have hF := hvs f (by simp [ho, Op.operands, Call.operands, hc])
  rw [hf] at hF
  simp only [V] at hF
  obtain ⟨us, vs, hfv, h1, h2⟩ := hF
  exact ⟨us, vs, hfv, (h1.append (call_args ho hvs)).append h2⟩
theorem good_call {E : Env} (hE : EnvOK P E) {c : Call} {f : Operand} {n : FuncId} (ho : o.op = .call c) (hc : c.callee = .value f) {first cap : List AV} (hf : ρ f = .fn (.func n) first cap) {G : List AV → List (Bool × AV)} (hcon : E.con n = .pure G) {r : AV}
    (hr : pick (G (closeL get (first ++ c.args.toList.map ρ ++ cap))) = some r) (hcl : closedL (closeL get (first ++ c.args.toList.map ρ ++ cap)) = true) (hrc : r.closed = true) : OpGood P o get nx ρ r [] (locsL (first ++ c.args.toList.map ρ ++ cap)) nx := by
  refine ⟨Nat.le_refl _, fun own get' φ β w ρv hget _ hvs hW => ?_⟩
  obtain ⟨us, vs, hfv, hall⟩ := call_vals ho hc hf hvs
  have hall := closeL_V hget hW.rel hall
  have hcn := hE.con n
  rw [hcon] at hcn
  obtain ⟨hP, hcal⟩ := hcn
  have hcl := hP _ _ hr hcl hrc φ β w _ hall (fun b hb => (hW.fresh b hb).2) hW.laid
  unfold Does
  rw [enter_run ho hc hfv hcal]
  refine hcl.mono fun e w' ⟨v, φ', he, hk, hg, hold, hfr, hV⟩ => ⟨v, he, φ', β, ⟨hk, .refl _, fun _ _ => rfl, hg, fun b hb _ => hold b hb⟩, hV, ?_⟩
  rw [upd_nil]
  refine ⟨fun m => ?_, fun m p hm hp => ?_, fun m k p q hmk hm hk' hp hq => hW.dist m k p q hmk hm hk' hp hq, fun b hb => ⟨(hW.fresh b (by omega)).1, hfr b hb⟩, hW.laid.keep hk⟩
  · by_cases hd : get' m = .dead
    · rw [hd]; trivial
    · exact (hW.rel m).keep hk (.refl _) (fun p hp => hold _ (hW.mine m p hd hp).2)
  · have := hW.mine m p hm hp
    exact ⟨this.1, by omega⟩
theorem allBelow_spec : ∀ {l : List Nat} {n : Nat}, allBelow l n = true → ∀ x ∈ l, x < n
  | [], _, _, x, hx => by cases hx
  | a :: r, n, h, x, hx => by
    simp only [allBelow, Bool.and_eq_true, Nat.blt_eq] at h
    rcases List.mem_cons.1 hx with rfl | hx
    · exact h.1
    · exact allBelow_spec h.2 x hx
theorem backI_spec {ls : List Nat} {nx n i m : Nat} (h : backI ls nx n i = some m) : (i < ls.length ∧ ls[i]? = some m) ∨ (ls.length ≤ i ∧ i < n ∧ m = nx + (i - ls.length)) := by
  unfold backI at h
  cases hb : Nat.blt i ls.length with
  | true => rw [hb] at h; exact .inl ⟨by simpa [Nat.blt_eq] using hb, h⟩
  | false =>
    rw [hb] at h
    have hge : ls.length ≤ i := by
      have : ¬ i < ls.length := fun h => by rw [← Nat.blt_eq] at h; rw [hb] at h; cases h
      omega
    simp only [cond_false] at h
    obtain ⟨h1, h2⟩ := cond_none h
    exact .inr ⟨hge, by simpa [Nat.blt_eq] using h1, by simpa using h2.symm⟩
theorem backI_lt {ls : List Nat} {nx n i : Nat} (h : i < ls.length) : backI ls nx n i = ls[i]? := by
  unfold backI
  have : Nat.blt i ls.length = true := by simpa [Nat.blt_eq] using h
  rw [this]; rfl
theorem patch_lk {ls : List Nat} {nx : Nat} {objs : List AObj} (hinj : ∀ i j m, backI ls nx objs.length i = some m → backI ls nx objs.length j = some m → i = j) (m : Nat) :
    (∃ i ob, backI ls nx objs.length i = some m ∧ objs[i]? = some ob ∧ lk? (patch ls nx objs) m = some (ob.ren (backI ls nx objs.length))) ∨
    ((∀ i, i < objs.length → backI ls nx objs.length i ≠ some m) ∧ lk? (patch ls nx objs) m = none) := by
  unfold patch
  have key : ∀ (is : List Nat), (∀ i ∈ is, i < objs.length) → (∃ i ob, backI ls nx objs.length i = some m ∧ objs[i]? = some ob ∧ lk? (is.filterMap fun i => (backI ls nx objs.length i).bind fun m => (objs[i]?).map fun o => (m, o.ren (backI ls nx objs.length))) m = some (ob.ren (backI ls nx objs.length))) ∨
      ((∀ i ∈ is, backI ls nx objs.length i ≠ some m) ∧ lk? (is.filterMap fun i => (backI ls nx objs.length i).bind fun m => (objs[i]?).map fun o => (m, o.ren (backI ls nx objs.length))) m = none) := by
    intro is
    induction is with
    | nil => intro _; exact .inr ⟨by simp, rfl⟩
    | cons i is ih =>
      intro hlt
      obtain ⟨ob, hob⟩ : ∃ ob, objs[i]? = some ob := ⟨objs[i]'(hlt i (by simp)), List.getElem?_eq_getElem _⟩
      have ih := ih fun j hj => hlt j (List.mem_cons_of_mem _ hj)
      simp only [List.filterMap_cons, hob, Option.map_some]
      cases hb : backI ls nx objs.length i with
      | none =>
        simp only [Option.bind_none]
        rcases ih with h | ⟨h1, h2⟩
        · exact .inl h
        · exact .inr ⟨fun j hj => by
            rcases List.mem_cons.1 hj with rfl | hj
            · rw [hb]; simp
            · exact h1 j hj, h2⟩
      | some k =>
        simp only [Option.bind_some, lk?]
        cases hk : Nat.beq k m with
        | true =>
          have := Nat.eq_of_beq_eq_true hk
          subst this
          exact .inl ⟨i, ob, hb, hob, rfl⟩
        | false =>
          simp only [cond_false]
          have hne : k ≠ m := fun h => by subst h; simp [Nat.beq_refl] at hk
          rcases ih with h | ⟨h1, h2⟩
          · exact .inl h
          · exact .inr ⟨fun j hj => by
              rcases List.mem_cons.1 hj with rfl | hj
              · rw [hb]; simpa using hne
              · exact h1 j hj, h2⟩
  rcases key (List.range objs.length) (fun i hi => List.mem_range.1 hi) with h | ⟨h1, h2⟩
  · exact .inl h
  · exact .inr ⟨fun i hi => h1 i (List.mem_range.2 hi), h2⟩
theorem good_call_eff {E : Env} (hE : EnvOK P E) {c : Call} {f : Operand} {n : FuncId} (ho : o.op = .call c) (hc : c.callee = .value f) {first cap : List AV} (hf : ρ f = .fn (.func n) first cap) (hcal : Called P n)
    {ls : List Nat} (hn : nodupB ls = true) (hb : allBelow ls nx = true) {r : AV} {objs' : List AObj} (hcl : EffGood P n (renL (idx ls 0) (first ++ c.args.toList.map ρ ++ cap)) (ls.map fun l => (get l).ren (idx ls 0)) r objs') (hlen : ls.length ≤ objs'.length) :
    OpGood P o get nx ρ (r.ren (backI ls nx objs'.length)) (patch ls nx objs') ls (nx + (objs'.length - ls.length)) := by
  refine ⟨by omega, fun own get' φ β w ρv hget hfr hvs hW => ?_⟩
  obtain ⟨us, vs, hfv, hall⟩ := call_vals ho hc hf hvs
  have hbel := allBelow_spec hb
  let ownS : Own P := fun b => (∃ l p, l ∈ ls ∧ get l ≠ .dead ∧ β l = some (some p) ∧ p.block = b) ∨ w.heap.size ≤ b
  have hgl : ∀ l, l ∈ ls → get' l = get l := hget
  have hmapeq : (ls.map fun l => (get l).ren (idx ls 0)) = ls.map fun l => (get' l).ren (idx ls 0) := List.map_congr_left fun l hl => by rw [hgl l hl]
  have hsub := hW.sub hn
  have hgetS : (fun l => ((ls.map fun l => (get l).ren (idx ls 0))[l]?).getD .dead) = getO (numbered 0 (ls.map fun l => (get' l).ren (idx ls 0))) := by
    funext m; rw [getO_numbered, hmapeq]
  have hWS : WInv ownS φ (subB ls β) (fun l => ((ls.map fun l => (get l).ren (idx ls 0))[l]?).getD .dead) w := by
    rw [hgetS]
    refine ⟨hsub.rel, fun m p hm hp => ⟨?_, (hsub.mine m p hm hp).2⟩, hsub.dist, fun b hb => ⟨.inr hb, (hW.fresh b hb).2⟩, hsub.laid⟩
    rw [getO_numbered] at hm
    simp only [List.getElem?_map] at hm
    cases hl : ls[m]? with
    | none => rw [hl] at hm; exact absurd rfl hm
    | some l =>
      rw [hl] at hm
      have hmem := List.mem_of_getElem? hl
      refine .inl ⟨l, p, hmem, fun h => hm ?_, by simpa [subB, hl] using hp, rfl⟩
      simp [hgl l hmem, h, AObj.ren]
  have hcl := hcl ownS φ (subB ls β) w _ (VL.ren subB_idx _ _ hall) hWS (fun l hl => by
    have : ls[l]? = none := by simp at hl ⊢; exact hl
    simp [subB, this])
  unfold Does
  rw [enter_run ho hc hfv hcal]
  refine hcl.mono fun e w' ⟨u, φ', βs, he, hrun, hV, hWI, htop⟩ => ?_
  have hinj : ∀ i j m, backI ls nx objs'.length i = some m → backI ls nx objs'.length j = some m → i = j := fun i j m h1 h2 => by
    rcases backI_spec h1 with ⟨a1, a2⟩ | ⟨a1, a2, a3⟩ <;> rcases backI_spec h2 with ⟨b1, b2⟩ | ⟨b1, b2, b3⟩
    · exact nodupB_spec hn i j m a2 b2
    · have := hbel m (List.mem_of_getElem? a2); omega
    · have := hbel m (List.mem_of_getElem? b2); omega
    · omega
  let β' : Beta := fun l => if nx ≤ l ∧ l < nx + (objs'.length - ls.length) then βs (ls.length + (l - nx)) else β l
  have hβ' : ∀ i m, backI ls nx objs'.length i = some m → β' m = βs i := fun i m h => by
    show (if _ then _ else _) = _
    rcases backI_spec h with ⟨a1, a2⟩ | ⟨a1, a2, a3⟩
    · have := hbel m (List.mem_of_getElem? a2)
      rw [if_neg (by omega), hrun.agree i (by simpa using a1)]
      simp [subB, a2]
    · rw [if_pos (by omega)]; congr 1; omega
  have hext : Ext β β' := fun l x hx => by
    show (if _ then _ else _) = _
    by_cases hl : nx ≤ l ∧ l < nx + (objs'.length - ls.length)
    · have := (hfr l hl.1 hl.2).2; rw [this] at hx; cases hx
    · rw [if_neg hl]; exact hx
  have hsubown : ∀ b, ownS b → own b ∨ w.heap.size ≤ b := fun b hb => by
    rcases hb with ⟨l, p, h1, h2, h3, rfl⟩ | hb
    · exact .inl (hW.mine l p (by rw [hgl l h1]; exact h2) h3).1
    · exact .inr hb
  have hown : ∀ b, ownS b → own b := fun b hb => (hsubown b hb).elim id fun h => (hW.fresh b h).1
  have hup : ∀ m, (∃ i ob, backI ls nx objs'.length i = some m ∧ objs'[i]? = some ob ∧ upd (patch ls nx objs') get' m = ob.ren (backI ls nx objs'.length)) ∨ ((∀ i, i < objs'.length → backI ls nx objs'.length i ≠ some m) ∧ m ∉ ls ∧ upd (patch ls nx objs') get' m = get' m) := fun m => by
    rcases patch_lk (objs := objs') hinj m with ⟨i, ob, h1, h2, h3⟩ | ⟨h1, h2⟩
    · exact .inl ⟨i, ob, h1, h2, by simp [upd, h3]⟩
    · refine .inr ⟨h1, fun hm => ?_, by simp [upd, h2]⟩
      obtain ⟨i, hi⟩ := List.getElem?_of_mem hm
      have hlt := (List.getElem?_eq_some_iff.1 hi).1
      exact h1 i (by omega) (by rw [backI_lt hlt]; exact hi)
  have hapart : ∀ m p, m ∉ ls → get' m ≠ .dead → β m = some (some p) → ¬ ownS p.block ∧ p.block < w.heap.size := fun m p hm hd hp => by
    have h1 := hW.mine m p hd hp
    refine ⟨fun ho => ?_, h1.2⟩
    rcases ho with ⟨l, q, h2, h3, h4, h5⟩ | ho
    · exact hW.dist l m q p (fun h => hm (h ▸ h2)) (by rw [hgl l h2]; exact h3) hd h4 hp h5
    · omega
  refine ⟨u, he, φ', β', ⟨hrun.keeps, hext, fun l hl => if_neg hl, hrun.grow, fun b hb ho => hrun.old b hb fun h => ho (hown b h)⟩, V.ren hβ' _ _ hV, ?_⟩
  have hold : ∀ m p, m ∉ ls → get' m ≠ .dead → β' m = some (some p) → (∀ i, i < objs'.length → backI ls nx objs'.length i ≠ some m) → β m = some (some p) := fun m p hm hd hp hno => by
    have : ¬ (nx ≤ m ∧ m < nx + (objs'.length - ls.length)) := fun h => by
      have := (hfr m h.1 h.2).1
      exact hd this
    have e : β' m = β m := if_neg this
    rw [← e]; exact hp
  have liveS : ∀ (i : Nat) (ob : AObj), objs'[i]? = some ob → ob.ren (backI ls nx objs'.length) ≠ .dead → (objs'[i]?).getD .dead ≠ .dead := fun i ob h1 h2 h3 => by
    rw [h1] at h3
    simp at h3
    subst h3
    exact h2 rfl
  refine ⟨fun m => ?_, fun m p hm hp => ?_, fun m k p q hmk hm hk hp hq => ?_, fun b hb => ⟨(hW.fresh b (Nat.le_trans hrun.grow hb)).1, (hWI.fresh b hb).2⟩, hWI.laid⟩
  · rcases hup m with ⟨i, ob, h1, h2, h3⟩ | ⟨h1, h2, h3⟩
    · rw [h3]
      have := hWI.rel i
      rw [h2] at this
      exact ObjRel.ren hβ' (hβ' i m h1) this
    · rw [h3]
      by_cases hd : get' m = .dead
      · rw [hd]; trivial
      · exact (hW.rel m).keep hrun.keeps hext fun p hp => by
          have := hapart m p h2 hd hp
          exact hrun.old _ this.2 this.1
  · rcases hup m with ⟨i, ob, h1, h2, h3⟩ | ⟨h1, h2, h3⟩
    · rw [h3] at hm
      have := hWI.mine i p (liveS i ob h2 hm) (by rw [← hβ' i m h1]; exact hp)
      exact ⟨hown _ this.1, this.2⟩
    · rw [h3] at hm
      have := hW.mine m p hm (hold m p h2 hm hp h1)
      exact ⟨this.1, Nat.lt_of_lt_of_le this.2 hrun.grow⟩
  · rcases hup m with ⟨i, ob, h1, h2, h3⟩ | ⟨h1, h2, h3⟩ <;> rcases hup k with ⟨j, ob', g1, g2, g3⟩ | ⟨g1, g2, g3⟩
    · rw [h3] at hm
      rw [g3] at hk
      exact hWI.dist i j p q (fun h => hmk (by subst h; rw [h1] at g1; cases g1; rfl)) (liveS i ob h2 hm) (liveS j ob' g2 hk) (by rw [← hβ' i m h1]; exact hp) (by rw [← hβ' j k g1]; exact hq)
    · rw [h3] at hm
      rw [g3] at hk
      have a := (hWI.mine i p (liveS i ob h2 hm) (by rw [← hβ' i m h1]; exact hp)).1
      have b := (hapart k q g2 hk (hold k q g2 hk hq g1)).1
      exact fun h => b (h ▸ a)
    · rw [h3] at hm
      rw [g3] at hk
      have a := (hWI.mine j q (liveS j ob' g2 hk) (by rw [← hβ' j k g1]; exact hq)).1
      have b := (hapart m p h2 hm (hold m p h2 hm hp h1)).1
      exact fun h => b (h ▸ a)
    · rw [h3] at hm
      rw [g3] at hk
      exact hW.dist m k p q hmk hm hk (hold m p h2 hm hp h1) (hold k q g2 hk hq g1)
end
end Go.Sim
namespace Go.Sim
set_option linter.unusedSectionVars false
set_option linter.unusedSimpArgs false
set_option linter.unusedVariables false
section
variable {P : Program} [Tabs P] {o : Oper} {get : Nat → AObj} {nx : Nat} {ρ : Operand → AV}
variable {R : Type}
theorem placeK_sound' {l : Nat} {t : Ty} {xs : List t.den} {tail : List (List AV)} {m : Nat} {K : AV → Option R} {r : R} (h : placeK l xs tail m K = some r) :
    ∃ e : Elt, K (.ptr l e 0) = some r ∧ (m < xs.length + tail.length → e.num xs.length = m ∧ (∀ i, e = .ty i → i < xs.length)) := by
  by_cases hm : m < xs.length + tail.length
  · obtain ⟨e, h1, h2⟩ := placeK_sound h hm
    exact ⟨e, h1, fun _ => h2⟩
  · unfold placeK at h
    split at h
    · exact ⟨_, h, fun h => absurd h hm⟩
    · cases hc : decide (m < xs.length) with
      | true => rw [hc] at h; exact ⟨_, h, fun h => absurd h hm⟩
      | false => rw [hc] at h; obtain ⟨q, _, _, _, h4⟩ := tlK_sound h; exact ⟨_, h4, fun h => absurd h hm⟩
def Sound (P : Program) [Tabs P] (o : Oper) (get : Nat → AObj) (nx : Nat) (ρ : Operand → AV) (K : Kont R) (r : R) : Prop :=
  ∃ v pat rd nx', K v pat rd nx' = some r ∧ OpGood P o get nx ρ v pat rd nx'
theorem ev_load {E : Env} (hE : EnvOK P E) {K : Kont R} {r : R} {t : TypeId} {x : Operand} (ho : o.op = .load t x) (h : evalOp E get nx ρ o K = some r) : Sound P o get nx ρ K r := by
  unfold evalOp at h
  rw [ho] at h
  simp only at h
  obtain ⟨rw_, hr, h⟩ := bind_some h
  split at h
  · rename_i l e j hx
    split at h
    · rename_i sz ty xs tail hg
      obtain ⟨h1, h2⟩ := cond_none h
      obtain ⟨v, hv, h3⟩ := bind_some h2
      exact ⟨_, _, _, _, h3, good_load_ptr hE ho hr hx hg (Nat.eq_of_beq_eq_true h1) hv⟩
    · cases h
  · rename_i cs hx
    obtain ⟨h1, h2⟩ := cond_none h
    obtain ⟨v, hv, h3⟩ := bind_some h2
    exact ⟨_, _, _, _, h3, good_load_eptr hE ho hr hx (Nat.eq_of_beq_eq_true h1) hv⟩
  · cases h
theorem ev_store {E : Env} (hE : EnvOK P E) {K : Kont R} {r : R} {t : TypeId} {x y : Operand} (ho : o.op = .store t x y) (h : evalOp E get nx ρ o K = some r) : Sound P o get nx ρ K r := by
  unfold evalOp at h
  rw [ho] at h
  simp only at h
  obtain ⟨rw_, hr, h⟩ := bind_some h
  obtain ⟨hc, h⟩ := cond_none h
  simp only [Bool.and_eq_true, Nat.blt_eq] at hc
  obtain ⟨⟨h0, hlen⟩, hsol⟩ := hc
  have hlen := Nat.eq_of_beq_eq_true hlen
  split at h
  · rename_i l e j hx
    split at h
    · rename_i sz ty xs tail hg
      split at h
      · rename_i p
        obtain ⟨h1, h2⟩ := cond_none h
        exact ⟨_, _, _, _, h2, good_store hE ho hr hlen hsol hx hg (by simpa [eltCells] using Nat.le_of_ble_eq_true h1) (by rfl) (by omega)⟩
      · rename_i i
        obtain ⟨h1, h2⟩ := cond_none h
        obtain ⟨v, hv, h3⟩ := bind_some h2
        obtain ⟨ys, hys, h3⟩ := bind_some h3
        obtain ⟨_, hys⟩ := cond_none hys
        obtain rfl := Option.some.inj hys
        exact ⟨_, _, _, _, h3, good_store hE ho hr hlen hsol hx hg (by simpa [eltCells] using Nat.le_of_ble_eq_true h1) ⟨v, hv, rfl⟩ (by omega)⟩
    · cases h
  · cases h
theorem ev_binOp {E : Env} (hE : EnvOK P E) {K : Kont R} {r : R} {op : BinOp} {t t' : TypeId} {x y : Operand} (ho : o.op = .binOp op t x y t') (h : evalOp E get nx ρ o K = some r) : Sound P o get nx ρ K r := by
  have hbin : ∀ a, ρ x = a → (binK op a (ρ y) fun v => K v [] [] nx) = some r → Sound P o get nx ρ K r := by
    intro a ha hb
    obtain ⟨v, hv, hs⟩ := binK_sound (P := P) hb
    exact ⟨_, _, _, _, hv, good_binOp ho (by rw [ha]; exact hs)⟩
  unfold evalOp at h
  rw [ho] at h
  simp only at h
  split at h
  · rename_i cs hx
    obtain ⟨rw_, hr, h⟩ := bind_some h
    split at h
    · rename_i fs k ks hk
      split at h
      · rename_i ds hy _
        obtain ⟨q, hq, h⟩ := bind_some h
        refine ⟨_, _, _, _, h, good_binOp_at ho fun φ β w u1 u2 h1 h2 => ?_⟩
        rw [hx] at h1; rw [hy] at h2
        simpa using eq_agg hE hr hk hq (.inl rfl) h1 h2
      · rename_i ds hy _
        obtain ⟨q, hq, h⟩ := bind_some h
        refine ⟨_, _, _, _, h, good_binOp_at ho fun φ β w u1 u2 h1 h2 => ?_⟩
        rw [hx] at h1; rw [hy] at h2
        simpa using eq_agg hE hr hk hq (.inr rfl) h1 h2
      · cases h
    · cases h
  · rename_i a hx
    obtain ⟨rw_, hr, h⟩ := bind_some h
    split at h
    · rename_i b hk hy _
      refine ⟨_, _, _, _, h, good_binOp_at ho fun φ β w u1 u2 h1 h2 => ?_⟩
      rw [hx] at h1; rw [hy] at h2
      simpa using eq_bool hE hr hk (.inl rfl) h1 h2
    · rename_i b hk hy _
      refine ⟨_, _, _, _, h, good_binOp_at ho fun φ β w u1 u2 h1 h2 => ?_⟩
      rw [hx] at h1; rw [hy] at h2
      simpa using eq_bool hE hr hk (.inr rfl) h1 h2
    · cases h
  · rename_i hx
    obtain ⟨rw_, hr, h⟩ := bind_some h
    split at h
    all_goals first | cases h; done | skip
    all_goals refine ⟨_, _, _, _, h, good_binOp_at ho fun φ β w u1 u2 h1 h2 => ?_⟩
    · rename_i e hk hy _
      rw [hx] at h1; rw [hy] at h2
      simp only [V] at h1 h2
      subst h1; subst h2
      exact ⟨_, eq_ptr hE hr hk (.inl rfl) (.inl rfl), by simp [V]⟩
    · rename_i e hk hy _
      rw [hx] at h1; rw [hy] at h2
      simp only [V] at h1 h2
      subst h1; subst h2
      exact ⟨_, eq_ptr hE hr hk (.inl rfl) (.inr rfl), by simp [V]⟩
    · rename_i e a1 a2 a3 hk hy _
      rw [hx] at h1; rw [hy] at h2
      simp only [V] at h1 h2
      obtain ⟨p, _, rfl, _⟩ := h2
      subst h1
      exact ⟨_, eq_ptr hE hr hk (.inl rfl) (.inl rfl), by simp [V]⟩
    · rename_i e a1 a2 a3 hk hy _
      rw [hx] at h1; rw [hy] at h2
      simp only [V] at h1 h2
      obtain ⟨p, _, rfl, _⟩ := h2
      subst h1
      exact ⟨_, eq_ptr hE hr hk (.inl rfl) (.inr rfl), by simp [V]⟩
  · rename_i hx
    obtain ⟨rw_, hr, h⟩ := bind_some h
    split at h
    all_goals first | cases h; done | skip
    all_goals refine ⟨_, _, _, _, h, good_binOp_at ho fun φ β w u1 u2 h1 h2 => ?_⟩
    · rename_i e hk hy _
      rw [hx] at h1; rw [hy] at h2
      simp only [V] at h1 h2
      obtain ⟨p, _, rfl, _⟩ := h1
      subst h2
      exact ⟨_, eq_ptr hE hr hk (.inr rfl) (.inl rfl), by simp [V]⟩
    · rename_i e hk hy _
      rw [hx] at h1; rw [hy] at h2
      simp only [V] at h1 h2
      obtain ⟨p, _, rfl, _⟩ := h1
      subst h2
      exact ⟨_, eq_ptr hE hr hk (.inr rfl) (.inr rfl), by simp [V]⟩
  · exact hbin _ rfl h
theorem ev_convert {E : Env} (hE : EnvOK P E) {K : Kont R} {r : R} {s d : TypeId} {x : Operand} (ho : o.op = .convert s d x) (h : evalOp E get nx ρ o K = some r) : Sound P o get nx ρ K r := by
  unfold evalOp at h
  rw [ho] at h
  simp only at h
  obtain ⟨rs, hs, h⟩ := bind_some h
  obtain ⟨rd, hd, h⟩ := bind_some h
  split at h
  · rename_i hks hkd hx
    exact ⟨_, _, _, _, h, good_conv_int hE ho hs hd hks hkd hx⟩
  · rename_i hks hkd hx
    exact ⟨_, _, _, _, h, good_conv_str hE ho hs hd hks hkd hx⟩
  · rename_i hks hkd hx
    obtain ⟨re, hre, h⟩ := bind_some h
    split at h
    · rename_i hke
      exact ⟨_, _, _, _, h, good_conv_tobytes hE ho hs hd hks hkd hre hke hx⟩
    · cases h
  · rename_i hks hkd
    obtain ⟨re, hre, h⟩ := bind_some h
    split at h
    · cases h
    · rename_i hke hns
      obtain ⟨⟨xs, rdl⟩, he, h⟩ := bind_some h
      exact ⟨_, _, _, _, h, good_conv_bytes hE ho hs hd hks hkd hre hke he (fun s e => hns s e)⟩
    · cases h
  · rename_i hks hkd hx
    obtain ⟨hc, h⟩ := cond_none h
    exact ⟨_, _, _, _, h, good_conv_rune hE ho hs hd hks hkd hx (Nat.le_of_ble_eq_true hc)⟩
  · cases h
theorem ev_makeSlice {E : Env} (hE : EnvOK P E) {K : Kont R} {r : R} {t : TypeId} {x y : Operand} (ho : o.op = .makeSlice t x y) (h : evalOp E get nx ρ o K = some r) : Sound P o get nx ρ K r := by
  unfold evalOp at h
  rw [ho] at h
  simp only at h
  obtain ⟨rw_, hr, h⟩ := bind_some h
  split at h
  · rename_i e hk
    obtain ⟨re, hre, h⟩ := bind_some h
    obtain ⟨te, hte, h⟩ := bind_some h
    split at h
    · rename_i n m hx hy
      obtain ⟨hc, h⟩ := cond_none h
      simp only [Bool.and_eq_true, decide_eq_true_eq] at hc
      obtain ⟨⟨⟨h0, hnm⟩, hb⟩, h63⟩ := hc
      exact ⟨_, _, _, _, h, good_makeSlice hE ho hr hk hre hte hx (by rw [hnm]; exact hy) h0 hb h63⟩
    · cases h
  · cases h
theorem good_slice_all {E : Env} (hE : EnvOK P E) {t e : TypeId} {x : Operand} {lo hi : Option Operand} {rw_ re : TRow} (ho : o.op = .slice t x lo hi none) (hr : E.row t = some rw_) (hk : rw_.kind = .slice e) (hre : E.row e = some re)
    {l : Nat} (hx : ρ x = .hw l) (ha : Bnd (lo.map ρ) none) (hb : Bnd (hi.map ρ) none) : OpGood P o get nx ρ (.hw l) [] [l] nx :=
  .pure fun own get' φ β w ρv hget hvs hW => by
    have hX := hvs x (by simp [ho, Op.operands])
    rw [hx] at hX
    have hu := (hE.row t rw_ hr).slice_kind hk
    obtain ⟨l1, l2⟩ := opt_map_V hvs (lo := lo) (by intro y hy; simp [ho, Op.operands, hy])
    obtain ⟨l3, l4⟩ := opt_map_V hvs (lo := hi) (by intro y hy; simp [ho, Op.operands, hy])
    rcases hβ : β l with _ | (_ | p)
    · simp only [V, hβ] at hX
    · have hX' := hX
      simp only [V, hβ] at hX'
      obtain ⟨A, hv1⟩ := hX'
      have hb' := run_sliceBounds_known (P := P) w (isS := true) (len := 0) (cap := 0) l1 l2 l3 l4 ha hb (by simp) (by simp)
      refine ⟨.slice A 0 0, ?_, by rw [hv1] at hX; exact hX⟩
      simp [execOp, ho, hv1, Instr.sliceAt, Instr.slice, run_underlying hu, hb', (hE.row e re hre).size]
    · have hX' := hX
      simp only [V, hβ] at hX'
      obtain ⟨cap, hv1, hc, _⟩ := hX'
      have hb' := run_sliceBounds_known (P := P) w (isS := true) (len := p.len) (cap := cap) l1 l2 l3 l4 ha hb (by simp) (by simpa using hc)
      refine ⟨.slice (some ⟨p.block, p.off, none⟩) p.len cap, ?_, by rw [hv1] at hX; exact hX⟩
      simp [execOp, ho, hv1, Instr.sliceAt, Instr.slice, run_underlying hu, hb', (hE.row e re hre).size, addr_add]
theorem map_some_none {α β : Type} {f : α → β} {x : Option α} (h : x.map f = none) : x = none := by cases x with
  | none => rfl
  | some a => cases h
theorem sliceK_sound {E : Env} (hE : EnvOK P E) {K : Kont R} {r : R} {t e : TypeId} {x : Operand} {lo hi mx : Option Operand} {rw_ re : TRow} (ho : o.op = .slice t x lo hi mx) (hr : E.row t = some rw_) (hk : rw_.kind = .slice e) (hre : E.row e = some re)
    (h : (sliceK get re.size (ρ x) (lo.map ρ) (hi.map ρ) (mx.map ρ) fun v rd => K v [] rd nx) = some r) : Sound P o get nx ρ K r := by
  unfold sliceK at h
  split at h
  · rename_i m hm
    split at h
    · rename_i h3
      split at h
      · rename_i h1 h2
        rw [map_some_none h1] at ho
        exact ⟨_, _, _, _, h, good_slice3_zero hE ho hr hk hre h2 hm h3⟩
      · cases h
    · rename_i h3
      split at h
      · rename_i h1 h2
        rw [map_some_none h1] at ho
        obtain ⟨hc, h⟩ := cond_none h
        simp only [Bool.and_eq_true, decide_eq_true_eq] at hc
        obtain ⟨⟨⟨c1, c2⟩, c3⟩, c4⟩ := hc
        exact ⟨_, _, _, _, h, good_slice3_vl hE ho hr hk hre h2 (by rw [c3]; exact hm) h3 (Nat.eq_of_beq_eq_true c1) c2 (by rw [c3]; exact c4)⟩
      · cases h
    · cases h
  · rename_i hm
    rw [map_some_none hm] at ho
    split at h
    · rename_i y xs hx
      obtain ⟨hc, h⟩ := cond_none h
      obtain ⟨a, b, h, ha, hb, h1, h2⟩ := lowHigh_sound h
      exact ⟨_, _, _, _, h, good_slice_vl hE ho hr hk hre hx (Nat.eq_of_beq_eq_true hc) ha hb h1 h2⟩
    · rename_i hx
      obtain ⟨a, b, h, ha, hb, h1, h2⟩ := lowHigh_sound h
      exact ⟨_, _, _, _, h, good_slice_nils hE ho hr hk hre hx ha hb h1 h2⟩
    · rename_i l hx
      split at h
      · rename_i sz ty xs tail hg
        obtain ⟨hc, h⟩ := cond_none h
        rw [alen_eq] at h
        obtain ⟨a, b, h, ha, hb, h1, h2⟩ := lowHigh_sound h
        have hall := good_slice_obj (P := P) (nx := nx) hE ho hr hk hre hg (Nat.eq_of_beq_eq_true hc) (.inl ⟨hx, rfl, rfl⟩) ha hb h1 h2
        have hcut : ∀ a b, cutLen (xs.length + tail.length) a b = b.getD (xs.length + tail.length) - a.getD 0 := by intro a b; cases a <;> cases b <;> simp [cutLen]
        have hoff : ∀ a, cutOff 0 a = 0 + a.getD 0 := by intro a; cases a <;> simp [cutOff, offAdd]
        refine ⟨_, _, _, _, h, ?_⟩
        cases a with
        | none =>
          cases b with
          | none => exact good_slice_all hE ho hr hk hre hx ha hb
          | some b => simp only; rw [hcut, hoff]; exact hall
        | some a => cases b with
          | none => simp only; rw [hcut, hoff]; exact hall
          | some b => simp only; rw [hcut, hoff]; exact hall
      · cases h
    · rename_i l off n hx
      split at h
      · rename_i sz ty xs tail hg
        obtain ⟨hc, h⟩ := cond_none h
        obtain ⟨a, b, h, ha, hb, h1, h2⟩ := lowHigh_sound h
        have hall := good_slice_obj (P := P) (nx := nx) hE ho hr hk hre hg (Nat.eq_of_beq_eq_true hc) (.inr hx) ha hb h1 h2
        have hcut : ∀ a b, cutLen n a b = b.getD n - a.getD 0 := by intro a b; cases a <;> cases b <;> simp [cutLen]
        have hoff : ∀ a, cutOff off a = off + a.getD 0 := by intro a; cases a <;> simp [cutOff, offAdd_eq]
        refine ⟨_, _, _, _, h, ?_⟩
        rw [hcut, hoff]
        exact hall
      · cases h
    · cases h
theorem ev_slice {E : Env} (hE : EnvOK P E) {K : Kont R} {r : R} {t : TypeId} {x : Operand} {lo hi mx : Option Operand} (ho : o.op = .slice t x lo hi mx) (h : evalOp E get nx ρ o K = some r) : Sound P o get nx ρ K r := by
  unfold evalOp at h
  rw [ho] at h
  simp only at h
  obtain ⟨rw_, hr, h⟩ := bind_some h
  split at h
  · rename_i hk
    split at h
    · rename_i s hx _
      obtain ⟨a, b, h, ha, hb, h1, h2⟩ := lowHigh_sound h
      exact ⟨_, _, _, _, h, good_slice_str hE ho hr hk hx ha hb h1 h2⟩
    · cases h
  · rename_i e hk
    obtain ⟨re, hre, h⟩ := bind_some h
    obtain ⟨v, pat, rd, nx', h', hg⟩ := sliceK_sound hE ho hr hk hre h
    exact ⟨_, _, _, _, h', hg⟩
  · cases h
end
end Go.Sim
namespace Go.Sim
set_option linter.unusedSectionVars false
set_option linter.unusedSimpArgs false
set_option linter.unusedVariables false
section
variable {P : Program} [Tabs P] {o : Oper} {get : Nat → AObj} {nx : Nat} {ρ : Operand → AV}
variable {R : Type}
theorem ev_build {E : Env} (hE : EnvOK P E) {K : Kont R} {r : R} {t : TypeId} {parts : Array (Nat × Operand)} (ho : o.op = .build t parts) (h : evalOp E get nx ρ o K = some r) : Sound P o get nx ρ K r := by
  unfold evalOp at h
  rw [ho] at h
  simp only at h
  obtain ⟨rw_, hr, h⟩ := bind_some h
  split at h
  · rename_i fs eq hk
    obtain ⟨cs, hc, h⟩ := bind_some h
    exact ⟨_, _, _, _, h, good_build hE ho hr hk hc⟩
  · cases h
theorem ev_buildSlice {E : Env} (hE : EnvOK P E) {K : Kont R} {r : R} {t : TypeId} {len : Nat} {parts : Array (Nat × Operand)} (ho : o.op = .buildSlice t len parts) (h : evalOp E get nx ρ o K = some r) : Sound P o get nx ρ K r := by
  unfold evalOp at h
  rw [ho] at h
  simp only at h
  obtain ⟨rw_, hr, h⟩ := bind_some h
  split at h
  · rename_i e hk
    obtain ⟨re, hre, h⟩ := bind_some h
    obtain ⟨hc, h⟩ := cond_none h
    obtain ⟨cs, hcs, h⟩ := bind_some h
    simp only [Bool.and_eq_true] at hc
    exact ⟨_, _, _, _, h, good_buildSlice hE ho hr hk hre hcs (Nat.le_of_ble_eq_true hc.1) (Nat.le_of_ble_eq_true hc.2)⟩
  · cases h
theorem ev_fieldAddr {E : Env} (hE : EnvOK P E) {K : Kont R} {r : R} {t : TypeId} {x : Operand} {f : Nat} (ho : o.op = .fieldAddr t x f) (h : evalOp E get nx ρ o K = some r) : Sound P o get nx ρ K r := by
  unfold evalOp at h
  rw [ho] at h
  simp only at h
  obtain ⟨rw_, hr, h⟩ := bind_some h
  split at h
  · rename_i fs eq hk
    obtain ⟨p, hp, h⟩ := bind_some h
    split at h
    · rename_i l e j hx
      exact ⟨_, _, _, _, h, good_fieldAddr_ptr hE ho hr hk hp hx⟩
    · rename_i cs hx
      exact ⟨_, _, _, _, h, good_fieldAddr_eptr hE ho hr hk hp hx⟩
    · cases h
  · cases h
theorem ev_field {E : Env} (hE : EnvOK P E) {K : Kont R} {r : R} {t : TypeId} {x : Operand} {f : Nat} (ho : o.op = .field t x f) (h : evalOp E get nx ρ o K = some r) : Sound P o get nx ρ K r := by
  unfold evalOp at h
  rw [ho] at h
  simp only at h
  obtain ⟨rw_, hr, h⟩ := bind_some h
  split at h
  · rename_i fs eq hk
    obtain ⟨p, hp, h⟩ := bind_some h
    split at h
    · rename_i cs hx
      obtain ⟨hc, h⟩ := cond_none h
      have hle := Nat.le_of_ble_eq_true hc
      split at h
      · rename_i hp2
        split at h
        · rename_i c rest hd
          refine ⟨_, _, _, _, h, good_field hE ho hr hk hp hx hle ?_⟩
          rw [if_pos hp2]
          have := congrArg (·[0]?) hd
          simpa using this
        · cases h
      · rename_i n hp2
        refine ⟨_, _, _, _, h, good_field hE ho hr hk hp hx hle ?_⟩
        rw [if_neg hp2]
    · cases h
  · cases h
theorem ev_indexAddr {E : Env} (hE : EnvOK P E) {K : Kont R} {r : R} {t : TypeId} {x i : Operand} (ho : o.op = .indexAddr t x i) (h : evalOp E get nx ρ o K = some r) : Sound P o get nx ρ K r := by
  unfold evalOp at h
  rw [ho] at h
  simp only at h
  obtain ⟨rw_, hr, h⟩ := bind_some h
  split at h
  · rename_i e hk
    obtain ⟨re, hre, h⟩ := bind_some h
    split at h
    · rename_i k n hi
      split at h
      · rename_i y xs hx
        obtain ⟨hc, h⟩ := cond_none h
        obtain ⟨hb, h⟩ := cond_none h
        simp only [Bool.and_eq_true, decide_eq_true_eq] at hb
        exact ⟨_, _, _, _, h, good_indexAddr_vl hE ho hr hk hre hi hx (Nat.eq_of_beq_eq_true hc) hb.1 hb.2⟩
      · rename_i l hx
        split at h
        · rename_i sz y xs tail hg
          obtain ⟨hc, h⟩ := cond_none h
          obtain ⟨hb, h⟩ := cond_none h
          simp only [Bool.and_eq_true, decide_eq_true_eq, alen_eq] at hb
          obtain ⟨el, h, hel⟩ := placeK_sound' h
          exact ⟨_, _, _, _, h, good_indexAddr_obj (off := 0) hE ho hr hk hre hi hg (Nat.eq_of_beq_eq_true hc) hb.1 (.inl ⟨hx, rfl, hb.2⟩) (by simpa using hel)⟩
        · cases h
      · rename_i l off m hx
        split at h
        · rename_i sz y xs tail hg
          obtain ⟨hc, h⟩ := cond_none h
          obtain ⟨hb, h⟩ := cond_none h
          simp only [Bool.and_eq_true, decide_eq_true_eq] at hb
          rw [offAdd_eq] at h
          obtain ⟨el, h, hel⟩ := placeK_sound' h
          exact ⟨_, _, _, _, h, good_indexAddr_obj (off := off) hE ho hr hk hre hi hg (Nat.eq_of_beq_eq_true hc) hb.1 (.inr ⟨m, hx, hb.2⟩) hel⟩
        · cases h
      · cases h
    · cases h
  · rename_i m e hk
    obtain ⟨re, hre, h⟩ := bind_some h
    split at h
    · rename_i k n hi
      split at h
      · rename_i y xs hx
        obtain ⟨hc, h⟩ := cond_none h
        obtain ⟨hb, h⟩ := cond_none h
        simp only [Bool.and_eq_true, decide_eq_true_eq] at hb hc
        exact ⟨_, _, _, _, h, good_indexAddr_ap hE ho hr hk hre hi hx (Nat.eq_of_beq_eq_true hc.1) (Nat.eq_of_beq_eq_true hc.2) hb.1 hb.2⟩
      · cases h
    · cases h
  · cases h
theorem ev_index {E : Env} (hE : EnvOK P E) {K : Kont R} {r : R} {t : TypeId} {x i : Operand} (ho : o.op = .index t x i) (h : evalOp E get nx ρ o K = some r) : Sound P o get nx ρ K r := by
  unfold evalOp at h
  rw [ho] at h
  simp only at h
  obtain ⟨rw_, hr, h⟩ := bind_some h
  split at h
  · rename_i hk hi hx
    obtain ⟨hb, h⟩ := cond_none h
    simp only [Bool.and_eq_true, decide_eq_true_eq] at hb
    exact ⟨_, _, _, _, h, good_index_str hE ho hr hk hi hx hb.1 hb.2⟩
  · rename_i hk hi hx
    obtain ⟨re, hre, h⟩ := bind_some h
    obtain ⟨hb, h⟩ := cond_none h
    simp only [Bool.and_eq_true, decide_eq_true_eq] at hb
    split at h
    · obtain ⟨hc, h⟩ := cond_none h
      obtain ⟨v, hv, h⟩ := bind_some h
      exact ⟨_, _, _, _, h, good_index_arr hE ho hr hk hre hi hx hb.2 (Nat.eq_of_beq_eq_true hc) hv⟩
    · cases h
  · cases h
theorem ev_lookup {E : Env} (hE : EnvOK P E) {K : Kont R} {r : R} {t : TypeId} {x k : Operand} {ok : Bool} (ho : o.op = .lookup t x k ok) (h : evalOp E get nx ρ o K = some r) : Sound P o get nx ρ K r := by
  unfold evalOp at h
  rw [ho] at h
  simp only at h
  obtain ⟨rw_, hr, h⟩ := bind_some h
  split at h
  · rename_i kt0 vt0 hk
    split at h
    · rename_i l hx
      split at h
      · rename_i kt vt es hg
        obtain ⟨hc, h⟩ := cond_none h
        simp only [Bool.and_eq_true] at hc
        obtain ⟨key, hd, h⟩ := bind_some h
        obtain ⟨v, hv, h⟩ := bind_some h
        exact ⟨_, _, _, _, h, good_lookup hE ho hr hk hx hg hc.1 hc.2 hd hv⟩
      · cases h
    · cases h
  · cases h
theorem ev_mapUpdate {E : Env} (hE : EnvOK P E) {K : Kont R} {r : R} {t : TypeId} {x k y : Operand} (ho : o.op = .mapUpdate t x k y) (h : evalOp E get nx ρ o K = some r) : Sound P o get nx ρ K r := by
  unfold evalOp at h
  rw [ho] at h
  simp only at h
  obtain ⟨rw_, hr, h⟩ := bind_some h
  split at h
  · rename_i kt0 vt0 hk
    split at h
    · rename_i l hx
      split at h
      · rename_i kt vt es hg
        obtain ⟨hc, h⟩ := cond_none h
        simp only [Bool.and_eq_true] at hc
        obtain ⟨key, hd, h⟩ := bind_some h
        obtain ⟨ha, h⟩ := cond_none h
        obtain ⟨val, hv, h⟩ := bind_some h
        exact ⟨_, _, _, _, h, good_mapUpdate hE ho hr hk hx hg hc.1.1 hd hv ha (by simpa using hc.2)⟩
      · cases h
    · cases h
  · cases h
theorem ev_typeAssert {E : Env} (hE : EnvOK P E) {K : Kont R} {r : R} {t t' : TypeId} {x : Operand} {ok : Bool} (ho : o.op = .typeAssert x t' t ok) (h : evalOp E get nx ρ o K = some r) : Sound P o get nx ρ K r := by
  unfold evalOp at h
  rw [ho] at h
  simp only at h
  obtain ⟨rw_, hr, h⟩ := bind_some h
  split at h
  · cases h
  · rename_i hk
    split at h
    · rename_i u v hx
      cases hu : Nat.beq u t with
      | true =>
        rw [hu] at h
        have hut := Nat.eq_of_beq_eq_true hu
        rw [hut] at hx
        exact ⟨_, _, _, _, h, good_assert_yes hE ho hr hk hx⟩
      | false =>
        rw [hu] at h
        simp only [cond_false] at h
        obtain ⟨hok, h⟩ := cond_none h
        subst hok
        obtain ⟨z, hz, h⟩ := bind_some h
        exact ⟨_, _, _, _, h, good_assert_no hE ho hr hk (.inr ⟨u, v, Nat.ne_of_beq_eq_false hu, hx⟩) hz⟩
    · rename_i hx
      obtain ⟨hok, h⟩ := cond_none h
      subst hok
      obtain ⟨z, hz, h⟩ := bind_some h
      exact ⟨_, _, _, _, h, good_assert_no hE ho hr hk (.inl hx) hz⟩
    · cases h
theorem ev_append {E : Env} (hE : EnvOK P E) {K : Kont R} {r : R} {c : Call} {t u e : TypeId} {b s : AV} {rt ru : TRow} (ho : o.op = .call c) (hc : c.callee = .builtin .append) (hat : c.argTypes.toList = [t, u]) (hargs : c.args.toList.map ρ = [b, s])
    (hrt : E.row t = some rt) (hru : E.row u = some ru) (hkt : rt.kind = .slice e) (hku : (∃ e', ru.kind = .slice e') ∨ ru.kind = .str) (h : appendK E get nx e b s K = some r) : Sound P o get nx ρ K r := by
  unfold appendK at h
  split at h
  · rename_i re y hre hty
    obtain ⟨hb0, h⟩ := cond_none h
    have hb0 : re.bytes ≠ 0 := by simp only [Nat.blt_eq] at hb0; omega
    split at h
    · obtain ⟨⟨ys, rd⟩, he, h⟩ := bind_some h
      simp only at h
      obtain ⟨hl, h⟩ := cond_none h
      exact ⟨_, _, _, _, h, good_append_nil2 hE ho hc hat hrt hkt hru hku hre hty hb0 hargs he (by simpa using hl)⟩
    · rename_i l
      obtain ⟨⟨xs, rd'⟩, hx, h⟩ := bind_some h
      simp only at h
      obtain ⟨⟨ys, rd⟩, he, h⟩ := bind_some h
      simp only at h
      obtain ⟨hl, h⟩ := cond_none h
      exact ⟨_, _, _, _, h, good_append_own hE ho hc hat hrt hkt hru hku hre hty hb0 hargs hx he (by simpa using hl)⟩
    · cases h
  · cases h
theorem ev_call {E : Env} (hE : EnvOK P E) {K : Kont R} {r : R} {c : Call} (ho : o.op = .call c) (h : evalOp E get nx ρ o K = some r) : Sound P o get nx ρ K r := by
  unfold evalOp at h
  rw [ho] at h
  simp only at h
  split at h
  · rename_i hc
    obtain ⟨t, ht, h⟩ := bind_some h
    obtain ⟨rw_, hr, h⟩ := bind_some h
    split at h
    · rename_i hk hx
      exact ⟨_, _, _, _, h, good_len hE ho hc ht hr hx (.inl ⟨_, hk, rfl, rfl⟩)⟩
    · rename_i hk hx
      exact ⟨_, _, _, _, h, good_len hE ho hc ht hr hx (.inr (.inl ⟨⟨_, hk⟩, .inl ⟨_, _, rfl, rfl⟩⟩))⟩
    · rename_i hk hx
      exact ⟨_, _, _, _, h, good_len (n := 0) hE ho hc ht hr hx (.inr (.inl ⟨⟨_, hk⟩, .inr (.inl ⟨rfl, rfl⟩)⟩))⟩
    · rename_i hk hx
      exact ⟨_, _, _, _, h, good_len hE ho hc ht hr hx (.inr (.inl ⟨⟨_, hk⟩, .inr (.inr (.inl ⟨_, _, rfl⟩))⟩))⟩
    · rename_i hk hx
      split at h
      · rename_i hg
        rw [alen_eq] at h
        exact ⟨_, _, _, _, h, good_len hE ho hc ht hr hx (.inr (.inl ⟨⟨_, hk⟩, .inr (.inr (.inr ⟨_, _, _, _, _, rfl, by simp, hg, rfl⟩))⟩))⟩
      · cases h
    · rename_i hk hx
      split at h
      · rename_i hg
        exact ⟨_, _, _, _, h, good_len hE ho hc ht hr hx (.inr (.inr ⟨⟨_, _, hk⟩, _, _, _, _, rfl, by simp, hg, rfl⟩))⟩
      · cases h
    · cases h
  · rename_i hc
    split at h
    · rename_i hat hargs
      obtain ⟨rt, hrt, h⟩ := bind_some h
      obtain ⟨ru, hru, h⟩ := bind_some h
      split at h
      · rename_i hkt hku
        exact ev_append hE ho hc hat hargs hrt hru hkt (.inl ⟨_, hku⟩) h
      · rename_i hkt hku
        exact ev_append hE ho hc hat hargs hrt hru hkt (.inr hku) h
      · cases h
    · cases h
  · rename_i hc
    split at h
    · rename_i hx
      obtain ⟨hkk, h⟩ := cond_none h
      exact ⟨_, _, _, _, h, good_min ho hc (by simpa using hkk) hx⟩
    · cases h
  · rename_i hc
    split at h
    · rename_i hx
      obtain ⟨hkk, h⟩ := cond_none h
      exact ⟨_, _, _, _, h, good_max ho hc (by simpa using hkk) hx⟩
    · cases h
  · rename_i hc
    obtain ⟨t, ht, h⟩ := bind_some h
    obtain ⟨rw_, hr, h⟩ := bind_some h
    split at h
    · rename_i hk
      split at h
      · rename_i hx
        split at h
        · rename_i hg
          obtain ⟨h1, h⟩ := cond_none h
          obtain ⟨key, hd, h⟩ := bind_some h
          exact ⟨_, _, _, _, h, good_delete hE ho hc ht hr hk hx hg h1 hd⟩
        · cases h
      · cases h
    · cases h
  · rename_i f hc
    split at h
    · rename_i n first cap hf
      unfold callK at h
      split at h
      · rename_i G hcon
        obtain ⟨hcl, h⟩ := cond_none h
        obtain ⟨v, hv, h⟩ := pickK_sound h
        obtain ⟨hrc, h⟩ := cond_none h
        exact ⟨_, _, _, _, h, good_call hE ho hc hf hcon hv hcl hrc⟩
      · rename_i F hcon
        obtain ⟨hcl, h⟩ := cond_none h
        simp only [Bool.and_eq_true] at hcl
        obtain ⟨⟨v, objs'⟩, hv, h⟩ := pickK_sound h
        obtain ⟨hlen, h⟩ := cond_none h
        have hcn := hE.con n
        rw [hcon] at hcn
        exact ⟨_, _, _, _, h, good_call_eff hE ho hc hf hcn.2 hcl.1 hcl.2 (hcn.1 _ _ _ _ hv (by simpa using Nat.le_of_ble_eq_true hlen)) (Nat.le_of_ble_eq_true hlen)⟩
      · rename_i G hcon
        obtain ⟨hcl, h⟩ := cond_none h
        simp only [Bool.and_eq_true] at hcl
        have hcn := hE.con n
        rw [hcon] at hcn
        obtain ⟨⟨v, objs'⟩, h, hG⟩ := hcn.1 _ _ _ _ _ h
        obtain ⟨hlen, h⟩ := cond_none h
        exact ⟨_, _, _, _, h, good_call_eff hE ho hc hf hcn.2 hcl.1 hcl.2 hG (Nat.le_of_ble_eq_true hlen)⟩
      · cases h
    · cases h
  · cases h
theorem evalOp_sound {E : Env} (hE : EnvOK P E) {K : Kont R} {r : R} (h : evalOp E get nx ρ o K = some r) : Sound P o get nx ρ K r := by
  have h0 := h
  unfold evalOp at h
  cases ho : o.op with
  | move x => rw [ho] at h; exact ⟨_, _, _, _, h, good_move (.inl ho)⟩
  | assign x => rw [ho] at h; exact ⟨_, _, _, _, h, good_move (.inr ho)⟩
  | pick c a b =>
    rw [ho] at h
    simp only at h
    split at h
    · rename_i q hc
      have := good_pick (P := P) (get := get) (nx := nx) ho hc
      cases q <;> exact ⟨_, _, _, _, h, this⟩
    · cases h
  | alloc t =>
    rw [ho] at h
    simp only at h
    obtain ⟨rw_, hr, h⟩ := bind_some h
    exact ⟨_, _, _, _, h, good_alloc hE ho hr⟩
  | box t x =>
    rw [ho] at h
    simp only at h
    obtain ⟨rw_, hr, h⟩ := bind_some h
    obtain ⟨hc, h⟩ := cond_none h
    simp only [Bool.and_eq_true, Nat.blt_eq] at hc
    exact ⟨_, _, _, _, h, good_box ho (Nat.eq_of_beq_eq_true hc.2) (by omega)⟩
  | build t parts => exact ev_build hE ho h0
  | buildSlice t len parts => exact ev_buildSlice hE ho h0
  | load t x => exact ev_load hE ho h0
  | store t x y => exact ev_store hE ho h0
  | nilCheck x =>
    rw [ho] at h
    simp only at h
    split at h
    · rename_i hx
      exact ⟨_, _, _, _, h, hx ▸ good_nilCheck ho (.inl ⟨_, _, _, hx⟩)⟩
    · rename_i hx
      exact ⟨_, _, _, _, h, hx ▸ good_nilCheck ho (.inr ⟨_, hx⟩)⟩
    · cases h
  | binOp op t x y t' => exact ev_binOp hE ho h0
  | unOp op t x =>
    rw [ho] at h
    simp only at h
    obtain ⟨v, hv, hs⟩ := unK_sound (P := P) h
    exact ⟨_, _, _, _, hv, good_unOp ho hs⟩
  | convert s d x => exact ev_convert hE ho h0
  | makeInterface t x =>
    rw [ho] at h
    simp only at h
    obtain ⟨rw_, hr, h⟩ := bind_some h
    split at h
    · cases h
    · rename_i hk
      exact ⟨_, _, _, _, h, good_makeInterface hE ho hr hk⟩
  | makeFunc f first cap => rw [ho] at h; exact ⟨_, _, _, _, h, good_makeFunc ho⟩
  | makeMap t r0 =>
    cases r0 with
    | some _ => rw [ho] at h; cases h
    | none =>
      rw [ho] at h
      simp only at h
      obtain ⟨rw_, hr, h⟩ := bind_some h
      split at h
      · obtain ⟨kt, hkt, h⟩ := bind_some h
        obtain ⟨vt, hvt, h⟩ := bind_some h
        obtain ⟨hc, h⟩ := cond_none h
        exact ⟨_, _, _, _, h, good_makeMap (k := 0) (v := 0) (rw_ := rw_) hE ho hc⟩
      · cases h
  | makeSlice t x y => exact ev_makeSlice hE ho h0
  | slice t x lo hi mx => exact ev_slice hE ho h0
  | fieldAddr t x f => exact ev_fieldAddr hE ho h0
  | field t x f => exact ev_field hE ho h0
  | indexAddr t x i => exact ev_indexAddr hE ho h0
  | index t x i => exact ev_index hE ho h0
  | lookup t x k ok => exact ev_lookup hE ho h0
  | mapUpdate t x k y => exact ev_mapUpdate hE ho h0
  | range t x =>
    rw [ho] at h
    simp only at h
    obtain ⟨rw_, hr, h⟩ := bind_some h
    split at h
    · rename_i hk hx
      exact ⟨_, _, _, _, h, good_range hE ho hr hk hx⟩
    · cases h
  | next x q =>
    cases q with
    | false => rw [ho] at h; cases h
    | true =>
      rw [ho] at h
      simp only at h
      split at h
      · rename_i l hx
        split at h
        · rename_i s pos hg
          by_cases hp : pos < s.length
          · rw [decide_eq_true hp] at h
            exact ⟨_, _, _, _, h, good_next_more ho hx hg hp⟩
          · rw [decide_eq_false hp] at h
            exact ⟨_, _, _, _, h, good_next_over ho hx hg hp⟩
        · cases h
      · cases h
  | typeAssert x t' t ok => exact ev_typeAssert hE ho h0
  | extract x i =>
    rw [ho] at h
    simp only at h
    split at h
    · rename_i vs hx
      obtain ⟨v, hv, h⟩ := bind_some h
      exact ⟨_, _, _, _, h, good_extract ho hx hv⟩
    · cases h
  | call c => exact ev_call hE ho h0
  | _ => rw [ho] at h; cases h
end
end Go.Sim
namespace Go.Sim
set_option linter.unusedSectionVars false
set_option linter.unusedSimpArgs false
set_option linter.unusedVariables false
section
variable {P : Program} [Tabs P] {own : Own P} {φ φ' : Nat → Nat} {β β' : Beta} {w w' : World} {get : Nat → AObj} {o : Oper} {nx : Nat} {ρ : Operand → AV}
theorem closeL_len {get : Nat → AObj} : ∀ cs : List AV, (closeL get cs).length = cs.length
  | [] => rfl
  | c :: cs => by simp [closeL, closeL_len cs]
theorem closed_tail {get get' : Nat → AObj} {l sz : Nat} {t y0 : Ty} {xs0 : List y0.den} {xs : List t.den} {c : List AV} (hf : frontE y0 t xs0 = some xs) (hget : ∀ k, k ∈ locsL c → get' k = get k) (hW : ∀ k, ObjRel φ β w k (get' k)) (h : ObjRel φ β w l (.arr sz y0 xs0 [c])) :
    ObjRel φ β w l (.arr sz t xs [closeL get c]) := by
  have main : ∀ (xs : List t.den), ObjRel φ β w l (.arr sz t xs [c]) → ObjRel φ β w l (.arr sz t xs [closeL get c]) := fun xs h => by
    rcases hb : β l with _ | (_ | p)
    · simp only [ObjRel, hb] at h
    · simp only [ObjRel, hb] at h; exact absurd h.2 (by simp)
    · simp only [ObjRel, hb] at h ⊢
      obtain ⟨h1, h2, h3, hM, h4, h5, h6, h7, h8, h9⟩ := h
      refine ⟨h1, h2, by simpa using h3, hM, h4, h5, h6, h7, h8, fun q e hq => ?_⟩
      have hq0 : q = 0 := by
        have := (List.getElem?_eq_some_iff.1 hq).1
        simp at this; exact this
      subst hq0
      simp at hq
      subst hq
      obtain ⟨g1, ds, g2, g3⟩ := h9 0 c rfl
      exact ⟨by rw [closeL_len]; exact g1, ds, closeL_V hget hW g2, g3⟩
  unfold frontE at hf
  split at hf
  · rename_i ht
    subst ht
    simp at hf
    subst hf
    exact main _ h
  · cases xs0 with
    | nil =>
      simp at hf
      subst hf
      refine main _ ?_
      rcases hb : β l with _ | (_ | p)
      · simp only [ObjRel, hb] at h
      · simp only [ObjRel, hb] at h; exact absurd h.2 (by simp)
      · simp only [ObjRel, hb] at h ⊢
        obtain ⟨h1, h2, h3, hM, h4, h5, h6, h7, h8, h9⟩ := h
        exact ⟨h1, h2, h3, hM, fun h => absurd rfl h, h5, h6, h7, fun i x hi => by simp at hi, h9⟩
    | cons x r => cases hf
theorem append_newT (hW : WInv own φ β get w) {nx : Nat} (hn : β nx = none) {new : Nat → Prop} (hnew : new nx) {t : Ty} {xs : List t.den} {d : List AV} {cells ds : List Value} (hlen : cells.length = (xs.length + 1) * t.sz)
    (htyped : ∀ i y, xs[i]? = some y → ∃ ds, Vt φ w t y ds ∧ ∀ j v, ds[j]? = some v → cells[i * t.sz + j]? = some v) (hd : d.length = t.sz) (hVd : VL φ β w d ds) (hds : ∀ j v, ds[j]? = some v → cells[xs.length * t.sz + j]? = some v)
    {c : Array Value} {e : TypeId} {cap : Nat} (hmx : xs.length + 1 ≤ maxL) (hcap : xs.length + 1 ≤ cap ∧ cap ≤ maxL) (hcs : c.size = cells.length + (cap - (xs.length + 1)) * t.sz)
    (hc : ∀ (j : Nat) v, cells[j]? = some v → c[j]? = some v) {w' : World} (hw' : w' = w.drew.alloc (.cells c e) ∨ w' = w.alloc (.cells c e)) :
    ∃ φ' β', Step own new φ β w φ' β' w' ∧ V φ' β' w' (.hw nx) (.slice (some ⟨w.heap.size, 0, none⟩) (xs.length + 1) cap) ∧ WInv own φ' β' (upd [(nx, .arr t.sz t xs [d])] get) w' := by
  have hh : w'.heap = w.heap.push (.cells c e) := by rcases hw' with rfl | rfl <;> rfl
  have hou : w'.os = w.os ∧ w'.output = w.output := by rcases hw' with rfl | rfl <;> exact ⟨rfl, rfl⟩
  have hk := keeps_push (fun b hb => (hW.fresh b hb).2) hh hou
  have hx : Ext β (setB β nx (some ⟨w.heap.size, 0, t.sz, xs.length, xs.length + [d].length⟩)) := ext_setB hn
  have hH : Holds φ (setB β nx (some ⟨w.heap.size, 0, t.sz, xs.length, xs.length + [d].length⟩)) w' t.sz t xs [d] cells := by
    refine ⟨by simpa using hmx, fun _ => rfl, by simp [hlen], fun i x hi => ?_, fun q e hq => ?_⟩
    · obtain ⟨ds, h1, h2⟩ := htyped i x hi
      exact ⟨ds, Vt.keep hk _ _ _ h1, h2⟩
    · have hq0 : q = 0 := by
        have := (List.getElem?_eq_some_iff.1 hq).1
        simp at this; exact this
      subst hq0
      simp at hq
      subst hq
      exact ⟨hd, ds, VL.keep hk hx _ _ hVd, fun j v hj => by simpa using hds j v hj⟩
  have hself : w'.heap[w.heap.size]? = some (.cells c e (0, 0)) := by rw [hh]; simp
  have hobj := hH.obj (l := nx) (c := c) (e := e) (b := w.heap.size) hself hc (by simp [setB]) (hW.fresh _ (Nat.le_refl _)).2
  obtain ⟨h1, h2⟩ := hW.push hh hou hn (p := ⟨w.heap.size, 0, t.sz, xs.length, xs.length + [d].length⟩) rfl hobj hnew
  refine ⟨φ, _, h1, ?_, h2⟩
  simp only [V, setB, if_true]
  refine ⟨cap, by simp, by simpa using hcap.1, hcap.2, c, e, _, hself, ?_⟩
  rw [hcs, hlen]
  have hcap := hcap.1
  have : cap * t.sz = (xs.length + 1) * t.sz + (cap - (xs.length + 1)) * t.sz := by rw [← Nat.add_mul]; congr 1; omega
  omega
theorem same_cells {b o : Nat} {a c : List Value} (ha : CellsAt w b o a) (hc : CellsAt w b o c) (hl : a.length = c.length) : a = c := by
  apply List.ext_getElem? fun i => ?_
  rcases Nat.lt_or_ge i a.length with h | h
  · have h1 := ha i _ (List.getElem?_eq_getElem h)
    have h2 := hc i _ (List.getElem?_eq_getElem (by omega))
    rw [h1] at h2
    rw [List.getElem?_eq_getElem h, List.getElem?_eq_getElem (by omega)]
    exact h2
  · rw [List.getElem?_eq_none h, List.getElem?_eq_none (by omega)]
theorem good_append_tail {E : Env} (hE : EnvOK P E) {c : Call} {t u e : TypeId} {rt ru re : TRow} (ho : o.op = .call c) (hc : c.callee = .builtin .append) (hat : c.argTypes.toList = [t, u]) (hrt : E.row t = some rt) (hkt : rt.kind = .slice e) (hru : E.row u = some ru) {e' : TypeId} (hku : ru.kind = .slice e')
    (hre : E.row e = some re) {y : Ty} (hty : E.tyOf e = some y) (hb0 : re.bytes ≠ 0) {l m : Nat} (hargs : c.args.toList.map ρ = [.hw l, .hw m]) {y0 ym : Ty} {xs0 : List y0.den} {ct d : List AV} (hgl : get l = .arr y.sz y0 xs0 [ct]) (hgm : get m = .arr y.sz ym [] [d])
    {xs : List y.den} (hf : frontE y0 y xs0 = some xs) {z1 z2 : y.den} (hz1 : dec y (closeL get ct) = some z1) (hz2 : dec y (closeL get d) = some z2) (hlim : (xs.length + 2) * re.bytes ≤ 140737488355328) :
    OpGood P o get nx ρ (.hw nx) [(nx, .arr re.size y (xs ++ [z1]) [d]), (l, .dead)] (l :: m :: (locsL ct ++ locsL d)) (nx + 1) := by
  have hsz := ty_size hE hre hty
  have hut := (hE.row t rt hrt).slice_kind hkt
  have hud := (hE.row u ru hru).slice_kind hku
  have hd : NoInt (.slice e') := .inl ⟨_, rfl⟩
  have hat' : c.argTypes = #[t, u] := by apply Array.ext'; simpa using hat
  refine ⟨Nat.le_succ _, fun own get' φ β w ρv hget hfr hv hW => ?_⟩
  have ha := call_args ho hv
  rw [hargs] at ha
  simp only [VL] at ha
  obtain ⟨u1, us, hu1, hV1, x, us', rfl, hV2, rfl⟩ := ha
  have hgl' : get' l = .arr y.sz y0 xs0 [ct] := (hget l (by simp)).trans hgl
  have hgm' : get' m = .arr y.sz ym [] [d] := (hget m (by simp)).trans hgm
  have hrl := hW.rel l
  rw [hgl'] at hrl
  have hrm := hW.rel m
  rw [hgm'] at hrm
  have hrl2 := closed_tail hf (fun k hk => hget k (by simp [hk])) hW.rel hrl
  have hrm2 : ObjRel φ β w m (.arr y.sz y [] [closeL get d]) := closed_tail (y0 := ym) (xs0 := []) (xs := []) (by unfold frontE; split <;> (try (rename_i h; subst h)) <;> rfl) (fun k hk => hget k (by simp [hk])) hW.rel hrm
  obtain ⟨p, hb⟩ : ∃ p, β l = some (some p) := by
    rcases hb : β l with _ | (_ | p)
    · simp only [ObjRel, hb] at hrl
    · simp only [ObjRel, hb] at hrl; exact absurd hrl.2 (by simp)
    · exact ⟨p, rfl⟩
  obtain ⟨q, hbm⟩ : ∃ q, β m = some (some q) := by
    rcases hb : β m with _ | (_ | q)
    · simp only [ObjRel, hb] at hrm
    · simp only [ObjRel, hb] at hrm; exact absurd hrm.2 (by simp)
    · exact ⟨q, rfl⟩
  have hl0 := hrl
  have hm0 := hrm
  simp only [ObjRel, hb] at hl0
  simp only [ObjRel, hbm] at hm0
  obtain ⟨q1, q2, q3, qM, q4, q5, q6, q7, _, _⟩ := hl0
  obtain ⟨m1, m2, m3, mM, m4, m5, m6, m7, _, m9⟩ := hm0
  have hfl : xs.length = xs0.length := by
    unfold frontE at hf
    split at hf
    · rename_i ht; subst ht; simp at hf; subst hf; rfl
    · cases xs0 with
      | nil => simp at hf; subst hf; rfl
      | cons x r => cases hf
  simp only [V, hb] at hV1
  obtain ⟨cap, rfl, hcap, hcm, hroom⟩ := hV1
  simp only [V, hbm] at hV2
  obtain ⟨cap2, rfl, hcap2, _, _⟩ := hV2
  have hpl : p.len = (xs ++ [z1]).length := by rw [q3]; simp [hfl]
  have hql : q.len = [z2].length := by rw [m3]; simp
  have hold1 := obj_elems hrl2 hb (ys := [z1]) (by simp [decAll, hz1]) rfl
  have hold2 := obj_elems hrm2 hbm (ys := [z2]) (by simp [decAll, hz2]) rfl
  obtain ⟨olds, hso, hco⟩ := src_cells (P := P) (cap := cap) hold1
  obtain ⟨news, hs, hcn⟩ := src_cells (P := P) (cap := cap2) hold2
  rw [← hpl] at hso
  have hs : Src P φ w y [z2] (.slice (some ⟨q.block, q.off, none⟩) q.len cap2) news := by
    rw [hql]; simpa using hs
  obtain ⟨d1, ds, hVd, hcd⟩ := m9 0 d rfl
  have hdn : ds = news := same_cells (w := w) (b := q.block) (o := q.off) (by simpa using hcd) hcn (by rw [hVd.length, d1, hs.len]; simp)
  subst hdn
  obtain ⟨cs, hrun⟩ := run_builtin hc ho ρv
  rw [map_toList_eq hu1, hat'] at hrun
  have hnone := (hfr nx (Nat.le_refl _) (by omega)).2
  have hll : l ≠ nx := fun h => by
    subst h
    rw [hnone] at hb; cases hb
  have hkill := hW.kill l
  rw [hsz]
  have hxl : (xs ++ [z1]).length = p.len := hpl.symm
  have hxl2 : (xs ++ [z1]).length = xs.length + 1 := by simp
  have hbytes : ((xs ++ [z1]).length + [z2].length) * re.bytes ≤ 140737488355328 := by simpa using hlim
  have hlen0 : ds.length = y.sz := by rw [hVd.length, d1]
  rw [two_patch]
  by_cases hfit : (xs ++ [z1]).length + [z2].length ≤ cap
  ·
    have hlive : get' l ≠ .dead := by rw [hgl']; intro h; cases h
    obtain ⟨cc, ct', cfr, hcc, hcs⟩ := hroom
    rw [q1] at hcs
    have hthere : ∀ j, j < ds.length → (w.cell? ⟨p.block, p.off + (xs ++ [z1]).length * y.sz + j, none⟩).isSome = true := fun j hj => by
      rw [hlen0] at hj
      have : ((xs ++ [z1]).length + [z2].length) * y.sz ≤ cap * y.sz := Nat.mul_le_mul_right _ hfit
      rw [Nat.add_mul] at this
      simp only [List.length_singleton, Nat.one_mul] at this
      simp only [World.cell?, hcc]
      simp
      simp at this
      omega
    have hrun' := run_append_in (P := P) w (ty := o.type) hut hud hd (hE.row e re hre) hsz (b := p.block) (off := p.off) (sLen := (xs ++ [z1]).length) (sCap := cap) hs hfit hthere (fun j _ => q6 _)
    obtain ⟨f1, f2, f3, f4, f5, f6⟩ := setCells_facts (w := w) hthere
    obtain ⟨w1, hw1⟩ : ∃ w1, w1 = w.setCells p.block (p.off + (xs ++ [z1]).length * y.sz) ds := ⟨_, rfl⟩
    rw [← hw1] at hrun' f1 f2 f3 f4 f5 f6
    have hk : Keeps φ w φ w1 := ⟨fun _ => Nat.le_refl _, fun b o v hb hv => by
        have hne : b ≠ p.block := fun e => by rw [e, q5] at hb; omega
        rw [cell_of_heap (w := w) (f1 b hne)]; exact hv, fun b n hr => by
        by_cases hb : b = p.block
        · rw [hb] at hr ⊢; exact f3 n hr
        · exact hr.of_heap (f1 b hb), by rw [hw1]; exact setCells_out.1, by rw [hw1]; exact setCells_out.2⟩
    have hm := hW.mine l p hlive hb
    have hx : Ext β (setB β nx (some ⟨p.block, p.off, y.sz, (xs ++ [z1]).length, (xs ++ [z1]).length + [d].length⟩)) := ext_setB hnone
    have hobj : ObjRel φ (setB β nx (some ⟨p.block, p.off, y.sz, (xs ++ [z1]).length, (xs ++ [z1]).length + [d].length⟩)) w1 nx (.arr y.sz y (xs ++ [z1]) [d]) := by
      simp only [ObjRel, setB, if_true]
      refine ⟨trivial, trivial, trivial, ?_, fun _ => trivial, q5, fun o => by rw [f6]; exact q6 o, f3 _ ⟨cc, ct', cfr, hcc, ?_⟩, fun i z hz => ?_, fun q e hq => ?_⟩
      · have := lim_max hb0 hlim
        unfold maxL at this ⊢
        simp only [List.length_append, List.length_singleton]
        omega
      · have : ((xs ++ [z1]).length + [d].length) * y.sz ≤ cap * y.sz := Nat.mul_le_mul_right _ (by simpa using hfit)
        omega
      · obtain ⟨ds', d1', d2'⟩ := hold1 i z hz
        refine ⟨ds', Vt.keep hk _ _ _ d1', fun j v hj => ?_⟩
        have hlt' := (List.getElem?_eq_some_iff.1 hz).1
        have hjl : j < y.sz := by rw [← Vt.length _ _ _ d1']; exact (List.getElem?_eq_some_iff.1 hj).1
        have hle : (i + 1) * y.sz ≤ (xs ++ [z1]).length * y.sz := Nat.mul_le_mul_right _ hlt'
        rw [Nat.add_mul] at hle
        rw [f5 _ (.inl (by omega))]
        exact d2' j v hj
      · have hq0 : q = 0 := by
          have := (List.getElem?_eq_some_iff.1 hq).1
          simp at this; exact this
        subst hq0
        simp at hq
        subst hq
        refine ⟨d1, ds, VL.keep hk hx _ _ hVd, fun j v hj => ?_⟩
        have := f4 j v hj
        simpa using this
    have hWI := hkill.change (β' := setB β nx (some ⟨p.block, p.off, y.sz, (xs ++ [z1]).length, (xs ++ [z1]).length + [d].length⟩)) hk hx (by omega) nx (.arr y.sz y (xs ++ [z1]) [d]) (fun m hm' hd' q hq => by
        rw [upd_one] at hd'
        by_cases hlm : l = m
        · subst hlm; simp at hd'
        · rw [if_neg hlm] at hd'
          exact ⟨f1 _ (fun e => hW.dist l m p q hlm hlive hd' hb hq e.symm), rfl⟩) hobj (fun m hm' => by unfold setB; rw [if_neg hm'])
      (fun _ q hq => by
        simp only [setB, if_true, Option.some.injEq] at hq
        subst hq
        refine ⟨hm.1, by simp only; omega, fun m hm' hd' q hq => ?_⟩
        rw [upd_one] at hd'
        by_cases hlm : l = m
        · subst hlm; simp at hd'
        · rw [if_neg hlm] at hd'
          exact fun e => hW.dist l m p q hlm hlive hd' hb hq e.symm) (fun b hb => (hW.fresh b (by omega)).2)
    refine .value (w' := w1) (u := .slice (some ⟨p.block, p.off, none⟩) ((xs ++ [z1]).length + [z2].length) cap) ?_ ⟨φ, _, ⟨hk, hx, fun m hm' => ?_, by omega, fun b hb hnb => ⟨f1 b (fun e => hnb (by rw [e]; exact hm.1)), rfl⟩⟩, ?_, hWI⟩
    · rw [hrun, ← hxl]
      rw [hxl2] at hrun' ⊢
      simp [builtin, hrun']
    · unfold setB; rw [if_neg (fun (e : m = nx) => hm' (by rw [e]; exact ⟨Nat.le_refl _, by omega⟩))]
    · simp only [V, setB, if_true]
      exact ⟨cap, by simp, by simpa using hfit, hcm, f3 _ ⟨cc, ct', cfr, hcc, hcs⟩⟩
  · obtain ⟨cap', c', h1, h2, h3, h4⟩ := run_append_out (P := P) w (ty := o.type) hut hud hd (hE.row e re hre) hsz (A := some ⟨p.block, p.off, none⟩) (sLen := (xs ++ [z1]).length) (sCap := cap) (olds := olds) hs (by rw [hxl2, ← hxl2, hxl]; have := hso.first; simp only [hxl] at this ⊢; exact this) (by omega) hb0 hbytes
    obtain ⟨φ', β', g1, g2, g3⟩ := append_newT (nx := nx) (xs := xs ++ [z1]) (d := d) (cells := olds ++ ds) (ds := ds) (cap := cap') (c := c') (e := e) (w' := w.drew.alloc (.cells c' e)) hkill hnone (new := fun l => nx ≤ l ∧ l < nx + 1) ⟨Nat.le_refl _, by omega⟩
      (by rw [List.length_append, hso.len, hlen0, Nat.add_mul]; simp) (fun i z hz => by
        obtain ⟨ds', d1', d2'⟩ := hso.typed i z hz
        refine ⟨ds', d1', fun j v hj => ?_⟩
        have := d2' j v hj
        rw [List.getElem?_append_left (List.getElem?_eq_some_iff.1 this).1]
        exact this) d1 hVd (fun j v hj => by
        rw [List.getElem?_append_right (by rw [hso.len]; omega), hso.len, Nat.add_sub_cancel_left]
        exact hj)
      (by have := lim_max hb0 hlim; unfold maxL at this ⊢; simp only [List.length_append, List.length_singleton]; omega) (by simpa using h1) (by rw [h2]; simp) h3 (.inl rfl)
    refine .value (w' := w.drew.alloc (.cells c' e)) (u := .slice (some ⟨w.heap.size, 0, none⟩) ((xs ++ [z1]).length + 1) cap') ?_ ⟨φ', β', g1, g2, g3⟩
    rw [hrun, ← hxl]
    rw [hxl2] at h4 ⊢
    simp [builtin, h4]
theorem front_obj {l sz : Nat} {t y0 : Ty} {xs0 : List y0.den} {xs : List t.den} (hf : frontE y0 t xs0 = some xs) (h : ObjRel φ β w l (.arr sz y0 xs0 [])) : ObjRel φ β w l (.arr sz t xs []) ∧ xs.length = xs0.length := by
  unfold frontE at hf
  split at hf
  · rename_i ht
    subst ht
    simp at hf
    subst hf
    exact ⟨h, rfl⟩
  · cases xs0 with
    | nil =>
      simp at hf
      subst hf
      refine ⟨?_, rfl⟩
      rcases hb : β l with _ | (_ | p)
      · simp only [ObjRel, hb] at h
      · simp only [ObjRel, hb]; exact ⟨trivial, trivial⟩
      · simp only [ObjRel, hb] at h ⊢
        obtain ⟨h1, h2, h3, hM, h4, h5, h6, h7, h8, h9⟩ := h
        exact ⟨h1, h2, h3, hM, fun h => absurd rfl h, h5, h6, h7, fun i x hi => by simp at hi, h9⟩
    | cons x r => cases hf
theorem good_append_tail0 {E : Env} (hE : EnvOK P E) {c : Call} {t u e : TypeId} {rt ru re : TRow} (ho : o.op = .call c) (hc : c.callee = .builtin .append) (hat : c.argTypes.toList = [t, u]) (hrt : E.row t = some rt) (hkt : rt.kind = .slice e) (hru : E.row u = some ru) {e' : TypeId} (hku : ru.kind = .slice e')
    (hre : E.row e = some re) {y : Ty} (hty : E.tyOf e = some y) (hb0 : re.bytes ≠ 0) {l m : Nat} (hargs : c.args.toList.map ρ = [.hw l, .hw m]) {y0 ym : Ty} {xs0 : List y0.den} {d : List AV} (hgl : get l = .arr y.sz y0 xs0 []) (hgm : get m = .arr y.sz ym [] [d])
    {xs : List y.den} (hf : frontE y0 y xs0 = some xs) {z2 : y.den} (hz2 : dec y (closeL get d) = some z2) (hlim : (xs.length + 1) * re.bytes ≤ 140737488355328) :
    OpGood P o get nx ρ (.hw nx) [(nx, .arr re.size y xs [d]), (l, .dead)] (l :: m :: locsL d) (nx + 1) := by
  have hsz := ty_size hE hre hty
  have hut := (hE.row t rt hrt).slice_kind hkt
  have hud := (hE.row u ru hru).slice_kind hku
  have hd : NoInt (.slice e') := .inl ⟨_, rfl⟩
  have hat' : c.argTypes = #[t, u] := by apply Array.ext'; simpa using hat
  refine ⟨Nat.le_succ _, fun own get' φ β w ρv hget hfr hv hW => ?_⟩
  have ha := call_args ho hv
  rw [hargs] at ha
  simp only [VL] at ha
  obtain ⟨u1, us, hu1, hV1, x, us', rfl, hV2, rfl⟩ := ha
  have hgl' : get' l = .arr y.sz y0 xs0 [] := (hget l (by simp)).trans hgl
  have hgm' : get' m = .arr y.sz ym [] [d] := (hget m (by simp)).trans hgm
  have hrl := hW.rel l
  rw [hgl'] at hrl
  have hrm := hW.rel m
  rw [hgm'] at hrm
  obtain ⟨hrl2, hfl⟩ := front_obj hf hrl
  have hrm2 : ObjRel φ β w m (.arr y.sz y [] [closeL get d]) := closed_tail (y0 := ym) (xs0 := []) (xs := []) (by unfold frontE; split <;> (try (rename_i h; subst h)) <;> rfl) (fun k hk => hget k (by simp [hk])) hW.rel hrm
  obtain ⟨q, hbm⟩ : ∃ q, β m = some (some q) := by
    rcases hb : β m with _ | (_ | q)
    · simp only [ObjRel, hb] at hrm
    · simp only [ObjRel, hb] at hrm; exact absurd hrm.2 (by simp)
    · exact ⟨q, rfl⟩
  have hm0 := hrm
  simp only [ObjRel, hbm] at hm0
  obtain ⟨m1, m2, m3, mM, m4, m5, m6, m7, _, m9⟩ := hm0
  simp only [V, hbm] at hV2
  obtain ⟨cap2, rfl, hcap2, _, _⟩ := hV2
  have hql : q.len = [z2].length := by rw [m3]; simp
  have hold2 := obj_elems hrm2 hbm (ys := [z2]) (by simp [decAll, hz2]) rfl
  obtain ⟨news, hs, hcn⟩ := src_cells (P := P) (cap := cap2) hold2
  have hs : Src P φ w y [z2] (.slice (some ⟨q.block, q.off, none⟩) q.len cap2) news := by
    rw [hql]; simpa using hs
  obtain ⟨d1, ds, hVd, hcd⟩ := m9 0 d rfl
  have hdn : ds = news := same_cells (w := w) (b := q.block) (o := q.off) (by simpa using hcd) hcn (by rw [hVd.length, d1, hs.len]; simp)
  subst hdn
  obtain ⟨cs, hrun⟩ := run_builtin hc ho ρv
  rw [map_toList_eq hu1, hat'] at hrun
  have hnone := (hfr nx (Nat.le_refl _) (by omega)).2
  have hll : l ≠ nx := fun h => by
    subst h
    simp only [V, hnone] at hV1
  have hkill := hW.kill l
  rw [hsz]
  have hbytes : (xs.length + [z2].length) * re.bytes ≤ 140737488355328 := by simpa using hlim
  have hlen0 : ds.length = y.sz := by rw [hVd.length, d1]
  rw [two_patch]
  have grow : ∀ (A : Option Addr) (cap : Nat) (olds : List Value), Src P φ w y xs (.slice A xs.length cap) olds → u1 = .slice A xs.length cap → cap < xs.length + 1 →
      Does P w (execOp ρv o) fun u w' => ∃ φ' β', Step own (fun l => nx ≤ l ∧ l < nx + 1) φ β w φ' β' w' ∧ V φ' β' w' (.hw nx) u ∧ WInv own φ' β' (upd [(nx, .arr y.sz y xs [d])] (upd [(l, .dead)] get')) w' := by
    intro A cap olds hso hA hlt
    subst hA
    obtain ⟨cap', c', h1, h2, h3, h4⟩ := run_append_out (P := P) w (ty := o.type) hut hud hd (hE.row e re hre) hsz (A := A) (sLen := xs.length) (sCap := cap) (olds := olds) hs hso.first (by simpa using hlt) hb0 hbytes
    obtain ⟨φ', β', g1, g2, g3⟩ := append_newT (nx := nx) (xs := xs) (d := d) (cells := olds ++ ds) (ds := ds) (cap := cap') (c := c') (e := e) (w' := w.drew.alloc (.cells c' e)) hkill hnone (new := fun l => nx ≤ l ∧ l < nx + 1) ⟨Nat.le_refl _, by omega⟩
      (by rw [List.length_append, hso.len, hlen0, Nat.add_mul]; simp) (fun i z hz => by
        obtain ⟨ds', d1', d2'⟩ := hso.typed i z hz
        refine ⟨ds', d1', fun j v hj => ?_⟩
        have := d2' j v hj
        rw [List.getElem?_append_left (List.getElem?_eq_some_iff.1 this).1]
        exact this) d1 hVd (fun j v hj => by
        rw [List.getElem?_append_right (by rw [hso.len]; omega), hso.len, Nat.add_sub_cancel_left]
        exact hj)
      (by have := lim_max hb0 hlim; unfold maxL at this ⊢; omega) (by simpa using h1) (by rw [h2]; simp) h3 (.inl rfl)
    refine .value (w' := w.drew.alloc (.cells c' e)) (u := .slice (some ⟨w.heap.size, 0, none⟩) (xs.length + 1) cap') ?_ ⟨φ', β', g1, g2, g3⟩
    rw [hrun]
    simp [builtin, h4]
  rcases hb : β l with _ | (_ | p)
  · simp only [ObjRel, hb] at hrl
  ·
    simp only [ObjRel, hb] at hrl2
    simp only [V, hb] at hV1
    obtain ⟨A, rfl⟩ := hV1
    obtain ⟨hx0, _⟩ := hrl2
    subst hx0
    exact grow A 0 [] (src_empty A) rfl (by simp)
  · have hl0 := hrl2
    simp only [ObjRel, hb] at hl0
    obtain ⟨q1, q2, q3, qM, q4, q5, q6, q7, _, _⟩ := hl0
    simp only [V, hb] at hV1
    obtain ⟨cap, hu, hcap, hcm, hroom⟩ := hV1
    have hpl : p.len = xs.length := by rw [q3]; simp
    have hold1 := obj_elems hrl2 hb (ys := []) (by simp [decAll]) rfl
    rw [List.append_nil] at hold1
    obtain ⟨olds, hso, hco⟩ := src_cells (P := P) (cap := cap) hold1
    rw [hpl] at hu hcap
    by_cases hfit : xs.length + [z2].length ≤ cap
    ·
      subst hu
      have hlive : get' l ≠ .dead := by rw [hgl']; intro h; cases h
      obtain ⟨cc, ct', cfr, hcc, hcs⟩ := hroom
      rw [q1] at hcs
      have hthere : ∀ j, j < ds.length → (w.cell? ⟨p.block, p.off + xs.length * y.sz + j, none⟩).isSome = true := fun j hj => by
        rw [hlen0] at hj
        have : (xs.length + [z2].length) * y.sz ≤ cap * y.sz := Nat.mul_le_mul_right _ hfit
        rw [Nat.add_mul] at this
        simp only [List.length_singleton, Nat.one_mul] at this
        simp only [World.cell?, hcc]
        simp
        omega
      have hrun' := run_append_in (P := P) w (ty := o.type) hut hud hd (hE.row e re hre) hsz (b := p.block) (off := p.off) (sLen := xs.length) (sCap := cap) hs hfit hthere (fun j _ => q6 _)
      obtain ⟨f1, f2, f3, f4, f5, f6⟩ := setCells_facts (w := w) hthere
      obtain ⟨w1, hw1⟩ : ∃ w1, w1 = w.setCells p.block (p.off + xs.length * y.sz) ds := ⟨_, rfl⟩
      rw [← hw1] at hrun' f1 f2 f3 f4 f5 f6
      have hk : Keeps φ w φ w1 := ⟨fun _ => Nat.le_refl _, fun b o v hb hv => by
          have hne : b ≠ p.block := fun e => by rw [e, q5] at hb; omega
          rw [cell_of_heap (w := w) (f1 b hne)]; exact hv, fun b n hr => by
          by_cases hb : b = p.block
          · rw [hb] at hr ⊢; exact f3 n hr
          · exact hr.of_heap (f1 b hb), by rw [hw1]; exact setCells_out.1, by rw [hw1]; exact setCells_out.2⟩
      have hm := hW.mine l p hlive hb
      have hx : Ext β (setB β nx (some ⟨p.block, p.off, y.sz, xs.length, xs.length + [d].length⟩)) := ext_setB hnone
      have hobj : ObjRel φ (setB β nx (some ⟨p.block, p.off, y.sz, xs.length, xs.length + [d].length⟩)) w1 nx (.arr y.sz y xs [d]) := by
        simp only [ObjRel, setB, if_true]
        refine ⟨trivial, trivial, trivial, ?_, fun _ => trivial, q5, fun o => by rw [f6]; exact q6 o, f3 _ ⟨cc, ct', cfr, hcc, ?_⟩, fun i z hz => ?_, fun q e hq => ?_⟩
        · have := lim_max hb0 hlim
          unfold maxL at this ⊢
          simp only [List.length_singleton]
          omega
        · have : (xs.length + [d].length) * y.sz ≤ cap * y.sz := Nat.mul_le_mul_right _ (by simpa using hfit)
          omega
        · obtain ⟨ds', d1', d2'⟩ := hold1 i z hz
          refine ⟨ds', Vt.keep hk _ _ _ d1', fun j v hj => ?_⟩
          have hlt' := (List.getElem?_eq_some_iff.1 hz).1
          have hjl : j < y.sz := by rw [← Vt.length _ _ _ d1']; exact (List.getElem?_eq_some_iff.1 hj).1
          have hle : (i + 1) * y.sz ≤ xs.length * y.sz := Nat.mul_le_mul_right _ hlt'
          rw [Nat.add_mul] at hle
          rw [f5 _ (.inl (by omega))]
          exact d2' j v hj
        · have hq0 : q = 0 := by
            have := (List.getElem?_eq_some_iff.1 hq).1
            simp at this; exact this
          subst hq0
          simp at hq
          subst hq
          refine ⟨d1, ds, VL.keep hk hx _ _ hVd, fun j v hj => ?_⟩
          have := f4 j v hj
          simpa using this
      have hWI := hkill.change (β' := setB β nx (some ⟨p.block, p.off, y.sz, xs.length, xs.length + [d].length⟩)) hk hx (by omega) nx (.arr y.sz y xs [d]) (fun m hm' hd' q hq => by
          rw [upd_one] at hd'
          by_cases hlm : l = m
          · subst hlm; simp at hd'
          · rw [if_neg hlm] at hd'
            exact ⟨f1 _ (fun e => hW.dist l m p q hlm hlive hd' hb hq e.symm), rfl⟩) hobj (fun m hm' => by unfold setB; rw [if_neg hm'])
        (fun _ q hq => by
          simp only [setB, if_true, Option.some.injEq] at hq
          subst hq
          refine ⟨hm.1, by simp only; omega, fun m hm' hd' q hq => ?_⟩
          rw [upd_one] at hd'
          by_cases hlm : l = m
          · subst hlm; simp at hd'
          · rw [if_neg hlm] at hd'
            exact fun e => hW.dist l m p q hlm hlive hd' hb hq e.symm) (fun b hb => (hW.fresh b (by omega)).2)
      refine .value (w' := w1) (u := .slice (some ⟨p.block, p.off, none⟩) (xs.length + [z2].length) cap) ?_ ⟨φ, _, ⟨hk, hx, fun m hm' => ?_, by omega, fun b hb hnb => ⟨f1 b (fun e => hnb (by rw [e]; exact hm.1)), rfl⟩⟩, ?_, hWI⟩
      · rw [hrun]
        simp [builtin, hrun']
      · unfold setB; rw [if_neg (fun (e : m = nx) => hm' (by rw [e]; exact ⟨Nat.le_refl _, by omega⟩))]
      · simp only [V, setB, if_true]
        exact ⟨cap, by simp, by simpa using hfit, hcm, f3 _ ⟨cc, ct', cfr, hcc, hcs⟩⟩
    · exact grow _ cap olds hso hu (by simp at hfit; omega)
end
end Go.Sim
