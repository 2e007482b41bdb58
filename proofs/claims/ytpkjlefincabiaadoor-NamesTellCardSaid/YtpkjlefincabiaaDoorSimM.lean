/-
  SimM: append; a row that is made; a row that is written out.
-/
import Derived.Test.YtpkjlefincabiaaDoorSimL
namespace Go.Sim
set_option linter.unusedSectionVars false
set_option linter.unusedSimpArgs false
set_option linter.unusedVariables false
section
variable {P : Program} [Tabs P] {o : Oper} {get : Nat → AObj} {nx : Nat} {ρ : Operand → AV}
variable {own : Own P} {φ φ' : Nat → Nat} {β β' : Beta} {w w' : World}

theorem ty_size {E : Env} (hE : EnvOK P E) {e : TypeId} {re : TRow} {t : Ty} (hr : E.row e = some re) (ht : E.tyOf e = some t) : re.size = t.sz := by
  obtain ⟨i, z, hi, hs, _⟩ := (hE.row e re hr).info
  have h := hE.ty e t ht
  cases t with
  | bool => obtain ⟨_, j, hj, hjs, _⟩ := h; rw [hi] at hj; cases hj; rw [← hs, hjs]; rfl
  | int k => obtain ⟨_, j, hj, hjs, _⟩ := h; rw [hi] at hj; cases hj; rw [← hs, hjs]; rfl
  | str => obtain ⟨_, j, hj, hjs, _⟩ := h; rw [hi] at hj; cases hj; rw [← hs, hjs]; rfl
  | sl y => obtain ⟨j, _, hj, hjs, _⟩ := h; rw [hi] at hj; cases hj; rw [← hs, hjs]
  | pair a b => obtain ⟨j, _, hj, hjs, _⟩ := h; rw [hi] at hj; cases hj; rw [← hs, hjs]

/-- No whole number: what may be appended. -/
def NoInt (d : TypeDesc) : Prop := (∃ e, d = .slice e) ∨ d = .string

theorem run_append_in (w : World) {t u e : TypeId} {ty : TypeId} {d : TypeDesc} {re : TRow} {y : Ty} (ht : P.underlying t = some (.slice e)) (hu : P.underlying u = some d) (hd : NoInt d) (he : RowOK P e re) (hsz : re.size = y.sz)
    {b off sLen sCap : Nat} {x : Value} {ys : List y.den} {news : List Value} (hs : Src P φ w y ys x news) (hroom : sLen + ys.length ≤ sCap)
    (hc : ∀ j, j < news.length → (w.cell? ⟨b, off + sLen * y.sz + j, none⟩).isSome = true) (hf : ∀ j, j < news.length → w.frozen? ⟨b, off + sLen * y.sz + j, none⟩ = false) :
    (Builtin.append_ #[t, u] ty #[.slice (some ⟨b, off, none⟩) sLen sCap, x]).run P w = .ok (.slice (some ⟨b, off, none⟩) (sLen + ys.length) sCap) (w.setCells b (off + sLen * y.sz) news) := by
  obtain ⟨i, z, hi, his, hib, hz, _⟩ := he.info
  have hst := run_storeCells_cells (P := P) b (off + sLen * y.sz) news 0 w (by simpa using hc) (by simpa using hf) hs.one
  simp only [Nat.add_zero] at hst
  have hl := hs.lenOf w
  have hfc := hs.first w rfl
  rcases hd with ⟨e', rfl⟩ | rfl <;> simp [Builtin.append_, run_underlying ht, run_underlying hu, sizeOf, typeInfo, hi, his, hsz, hl, hroom, hfc, addr_add, hst]

theorem run_append_in_nil (w : World) {t u e : TypeId} {ty : TypeId} {d : TypeDesc} {re : TRow} {y : Ty} (ht : P.underlying t = some (.slice e)) (hu : P.underlying u = some d) (hd : NoInt d) (he : RowOK P e re) (hsz : re.size = y.sz)
    {A : Option Addr} {x : Value} {news : List Value} (hs : Src P φ w y [] x news) :
    (Builtin.append_ #[t, u] ty #[.slice A 0 0, x]).run P w = .ok (.slice A 0 0) w := by
  obtain ⟨i, z, hi, his, hib, hz, _⟩ := he.info
  have hl := hs.lenOf w
  have hfc := hs.first w rfl
  have hn : news = [] := by have := hs.len; simpa using this
  subst hn
  simp only [List.length_nil] at hl hfc
  rcases hd with ⟨e', rfl⟩ | rfl <;> cases A <;> simp [Builtin.append_, run_underlying ht, run_underlying hu, sizeOf, typeInfo, hi, his, hsz, hl, hfc, storeCells]

theorem run_append_out (w : World) {t u e : TypeId} {ty : TypeId} {d : TypeDesc} {re : TRow} {y : Ty} (ht : P.underlying t = some (.slice e)) (hu : P.underlying u = some d) (hd : NoInt d) (he : RowOK P e re) (hsz : re.size = y.sz)
    {A : Option Addr} {sLen sCap : Nat} {x : Value} {ys : List y.den} {news olds : List Value} (hs : Src P φ w y ys x news) (hold : ∀ w2 : World, w2.heap = w.heap → (Builtin.firstCells y.sz sLen (.slice A sLen sCap)).run P w2 = .ok olds.toArray w2)
    (hroom : sCap < sLen + ys.length) (hb0 : re.bytes ≠ 0) (hb : (sLen + ys.length) * re.bytes ≤ 140737488355328) :
    ∃ cap c, sLen + ys.length ≤ cap ∧ c.size = (olds.length + news.length) + (cap - (sLen + ys.length)) * y.sz ∧ (∀ (j : Nat) v, (olds ++ news)[j]? = some v → c[j]? = some v) ∧
      (Builtin.append_ #[t, u] ty #[.slice A sLen sCap, x]).run P w = .ok (.slice (some ⟨w.heap.size, 0, none⟩) (sLen + ys.length) cap) (w.drew.alloc (.cells c e)) := by
  obtain ⟨i, z, hi, his, hib, hz, hzl, _⟩ := he.info
  have hl := hs.lenOf w
  have hfc := hs.first w.drew rfl
  have hfo := hold w.drew rfl
  have hn : ¬ (sLen + ys.length ≤ sCap) := by omega
  have hfit := growslice_fits hroom hb
  have h48' : ¬ (281474976710656 < Builtin.nextslicecap (sLen + ys.length) sCap * i.bytes) := by rw [hib]; omega
  have hbn : ¬ (i.bytes = 0) := by rw [hib]; exact hb0
  refine ⟨grownCap w (sLen + ys.length) sCap e, olds.toArray ++ news.toArray ++ Builtin.zeroCells z.cells (grownCap w (sLen + ys.length) sCap e - (sLen + ys.length)), grownCap_ge _ _ _ _, ?_, fun j v hv => ?_, ?_⟩
  · simp only [Array.size_append, List.size_toArray, size_zeroCells]
    have : z.cells.size = y.sz := by rw [← hsz, ← hzl]; simp
    rw [this]
  · have hj := (List.getElem?_eq_some_iff.1 hv).1
    rw [Array.getElem?_append_left (by simpa using hj)]
    simpa using hv
  · rcases hd with ⟨e', rfl⟩ | rfl <;> (simp [Builtin.append_, run_underlying ht, run_underlying hu, sizeOf, typeInfo, zeroValue, hi, his, hz, hl, hn, h48', hbn, hsz, Question.forced, hfc, hfo, newRow, grownCap]; congr 2; apply Array.ext'; simp [List.append_assoc])

theorem two_patch {get : Nat → AObj} {l nx : Nat} {a : AObj} : upd [(nx, a), (l, .dead)] get = upd [(nx, a)] (upd [(l, .dead)] get) := upd_append [(nx, a)] [(l, .dead)] get

theorem lim_max {n b : Nat} (hb : b ≠ 0) (h : n * b ≤ 140737488355328) : n ≤ maxL := by
  have : n * 1 ≤ n * b := Nat.mul_le_mul_left n (by omega)
  unfold maxL; omega

/-- What append makes where there was no room. -/
theorem append_new (hW : WInv own φ β get w) {nx : Nat} (hn : β nx = none) {new : Nat → Prop} (hnew : new nx) {t : Ty} {xs : List t.den} {cells : List Value} (hlen : cells.length = xs.length * t.sz)
    (htyped : ∀ i y, xs[i]? = some y → ∃ ds, Vt φ w t y ds ∧ ∀ j v, ds[j]? = some v → cells[i * t.sz + j]? = some v) {c : Array Value} {e : TypeId} {cap : Nat} (hmx : xs.length ≤ maxL) (hcap : xs.length ≤ cap) (hcs : c.size = cells.length + (cap - xs.length) * t.sz)
    (hc : ∀ (j : Nat) v, cells[j]? = some v → c[j]? = some v) {w' : World} (hw' : w' = w.drew.alloc (.cells c e) ∨ w' = w.alloc (.cells c e)) :
    ∃ φ' β', Step own new φ β w φ' β' w' ∧ V φ' β' w' (.hw nx) (.slice (some ⟨w.heap.size, 0, none⟩) xs.length cap) ∧ WInv own φ' β' (upd [(nx, .arr t.sz t xs [])] get) w' := by
  have hh : w'.heap = w.heap.push (.cells c e) := by rcases hw' with rfl | rfl <;> rfl
  have hou : w'.os = w.os ∧ w'.output = w.output := by rcases hw' with rfl | rfl <;> exact ⟨rfl, rfl⟩
  have hk := keeps_push (fun b hb => (hW.fresh b hb).2) hh hou
  have hH : Holds φ (setB β nx (some ⟨w.heap.size, 0, t.sz, xs.length, xs.length + ([] : List (List AV)).length⟩)) w' t.sz t xs [] cells := by
    refine ⟨by simpa using hmx, fun _ => rfl, by simp [hlen], fun i x hi => ?_, fun q e hq => by simp at hq⟩
    obtain ⟨ds, h1, h2⟩ := htyped i x hi
    exact ⟨ds, Vt.keep hk _ _ _ h1, h2⟩
  have hself : w'.heap[w.heap.size]? = some (.cells c e (0, 0)) := by rw [hh]; simp
  have hobj := hH.obj (l := nx) (c := c) (e := e) (b := w.heap.size) hself hc (by simp [setB]) (hW.fresh _ (Nat.le_refl _)).2
  obtain ⟨h1, h2⟩ := hW.push hh hou hn (p := ⟨w.heap.size, 0, t.sz, xs.length, xs.length + ([] : List (List AV)).length⟩) rfl hobj hnew
  refine ⟨φ, _, h1, ?_, h2⟩
  simp only [V, setB, if_true]
  refine ⟨cap, by simp, by simpa using hcap, c, e, _, hself, ?_⟩
  rw [hcs, hlen]
  have : cap * t.sz = xs.length * t.sz + (cap - xs.length) * t.sz := by rw [← Nat.add_mul]; congr 1; omega
  omega

/-- 'append' onto nothing. -/
theorem good_append_nil {E : Env} (hE : EnvOK P E) {c : Call} {t u e : TypeId} {rt ru re : TRow} (ho : o.op = .call c) (hc : c.callee = .builtin .append) (hat : c.argTypes.toList = [t, u]) (hrt : E.row t = some rt) (hkt : rt.kind = .slice e) (hru : E.row u = some ru) (hku : (∃ e', ru.kind = .slice e') ∨ ru.kind = .str)
    (hre : E.row e = some re) {y : Ty} (hty : E.tyOf e = some y) (hb0 : re.bytes ≠ 0) {s : AV} (hargs : c.args.toList.map ρ = [.nils, s]) {ys : List y.den} {rd : List Nat} (he : elems get y s = some (ys, rd)) (hlim : ys.length * re.bytes ≤ 140737488355328) :
    if ys = [] then OpGood P o get nx ρ .nils [] rd nx else OpGood P o get nx ρ (.hw nx) [(nx, .arr re.size y ys [])] rd (nx + 1) := by
  have hsz := ty_size hE hre hty
  have hut := (hE.row t rt hrt).slice_kind hkt
  have huu : ∃ d, P.underlying u = some d ∧ NoInt d := by
    rcases hku with ⟨e', h⟩ | h
    · exact ⟨_, (hE.row u ru hru).slice_kind h, .inl ⟨_, rfl⟩⟩
    · exact ⟨_, (hE.row u ru hru).str_kind h, .inr rfl⟩
  obtain ⟨d, hud, hd⟩ := huu
  have hat' : c.argTypes = #[t, u] := by apply Array.ext'; simpa using hat
  have main : ∀ (own : Own P) get' φ β w (ρv : Operand → Value), (∀ l, l ∈ rd → get' l = get l) → (∀ x, x ∈ o.op.operands.toList → V φ β w (ρ x) (ρv x)) → WInv own φ β get' w →
      ∃ A x cs news, Src P φ w y ys x news ∧ execOp ρv o = builtin .append #[t, u] o.type cs #[.slice A 0 0, x] := by
    intro own get' φ β w ρv hget hv hW
    have ha := call_args ho hv
    rw [hargs] at ha
    simp only [VL] at ha
    obtain ⟨u1, us, hu1, hV1, u2, us', rfl, hV2, rfl⟩ := ha
    obtain ⟨A, rfl⟩ : ∃ A, u1 = .slice A 0 0 := by simpa only [V] using hV1
    obtain ⟨news, hs⟩ := elems_sound he hget hW hV2
    obtain ⟨cs, hrun⟩ := run_builtin hc ho ρv
    rw [map_toList_eq hu1, hat'] at hrun
    exact ⟨A, u2, cs, news, hs, hrun⟩
  by_cases hys : ys = []
  · rw [if_pos hys]
    subst hys
    refine .pure fun own get' φ β w ρv hget hv hW => ?_
    obtain ⟨A, x, cs, news, hs, hrun⟩ := main own get' φ β w ρv hget hv hW
    refine ⟨.slice A 0 0, ?_, by simp only [V]; exact ⟨A, rfl⟩⟩
    rw [hrun]
    have := run_append_in_nil (P := P) w (ty := o.type) hut hud hd (hE.row e re hre) hsz (A := A) hs
    simp [builtin, this]
  · rw [if_neg hys]
    refine ⟨Nat.le_succ _, fun own get' φ β w ρv hget hfr hv hW => ?_⟩
    obtain ⟨A, x, cs, news, hs, hrun⟩ := main own get' φ β w ρv hget hv hW
    have hpos : 0 < ys.length := List.length_pos_iff.2 hys
    obtain ⟨cap, c', h1, h2, h3, h4⟩ := run_append_out (P := P) w (ty := o.type) hut hud hd (hE.row e re hre) hsz (A := A) (sLen := 0) (sCap := 0) (olds := []) hs
      (fun w2 _ => by cases A <;> simp [Builtin.firstCells, loadCells, loadCellsFrom]) (by omega) hb0 (by simpa using hlim)
    simp only [Nat.zero_add, List.length_nil, List.nil_append] at h1 h2 h3 h4
    obtain ⟨φ', β', g1, g2, g3⟩ := append_new (nx := nx) hW (hfr nx (Nat.le_refl _) (by omega)).2 (new := fun l => nx ≤ l ∧ l < nx + 1) ⟨Nat.le_refl _, by omega⟩ hs.len hs.typed (lim_max hb0 hlim) h1 h2 h3 (.inl rfl)
    rw [hsz]
    refine .value (w' := w.drew.alloc (.cells c' e)) (u := .slice (some ⟨w.heap.size, 0, none⟩) ys.length cap) ?_ ⟨φ', β', g1, g2, g3⟩
    rw [hrun]
    simp [builtin, h4]

/-- 'append' onto a row of the call's own. -/
theorem good_append_own {E : Env} (hE : EnvOK P E) {c : Call} {t u e : TypeId} {rt ru re : TRow} (ho : o.op = .call c) (hc : c.callee = .builtin .append) (hat : c.argTypes.toList = [t, u]) (hrt : E.row t = some rt) (hkt : rt.kind = .slice e) (hru : E.row u = some ru) (hku : (∃ e', ru.kind = .slice e') ∨ ru.kind = .str)
    (hre : E.row e = some re) {y : Ty} (hty : E.tyOf e = some y) (hb0 : re.bytes ≠ 0) {s : AV} {l : Nat} (hargs : c.args.toList.map ρ = [.hw l, s]) {xs ys : List y.den} {rd rd' : List Nat} (hx : elems get y (.hw l) = some (xs, rd')) (he : elems get y s = some (ys, rd)) (hlim : (xs ++ ys).length * re.bytes ≤ 140737488355328) :
    OpGood P o get nx ρ (.hw nx) [(nx, .arr re.size y (xs ++ ys) []), (l, .dead)] (l :: rd) (nx + 1) := by
  have hsz := ty_size hE hre hty
  have hut := (hE.row t rt hrt).slice_kind hkt
  have huu : ∃ d, P.underlying u = some d ∧ NoInt d := by
    rcases hku with ⟨e', h⟩ | h
    · exact ⟨_, (hE.row u ru hru).slice_kind h, .inl ⟨_, rfl⟩⟩
    · exact ⟨_, (hE.row u ru hru).str_kind h, .inr rfl⟩
  obtain ⟨d, hud, hd⟩ := huu
  have hat' : c.argTypes = #[t, u] := by apply Array.ext'; simpa using hat
  refine ⟨Nat.le_succ _, fun own get' φ β w ρv hget hfr hv hW => ?_⟩
  have ha := call_args ho hv
  rw [hargs] at ha
  simp only [VL] at ha
  obtain ⟨u1, us, hu1, hV1, x, us', rfl, hV2, rfl⟩ := ha
  obtain ⟨news, hs⟩ := elems_sound (P := P) he (fun m hm => hget m (by simp [hm])) hW hV2
  have hrd' : rd' = [l] := by
    simp only [elems] at hx
    split at hx
    · rename_i sz t' zs tail _
      cases hb : Nat.beq sz y.sz with
      | false => rw [hb] at hx; cases hx
      | true =>
        rw [hb, cond_true] at hx
        split at hx
        · split at hx
          · simp at hx; exact hx.2.symm
          · obtain ⟨_, _, hx⟩ := Option.bind_eq_some_iff.1 hx; simp at hx; exact hx.2.symm
        · split at hx
          · obtain ⟨_, _, hx⟩ := Option.bind_eq_some_iff.1 hx; simp at hx; exact hx.2.symm
          · cases hx
    · cases hx
  obtain ⟨olds, hso⟩ := elems_sound (P := P) hx (fun m hm => hget m (by rw [hrd'] at hm; simp at hm; simp [hm])) hW hV1
  obtain ⟨cs, hrun⟩ := run_builtin hc ho ρv
  rw [map_toList_eq hu1, hat'] at hrun
  have hnone := (hfr nx (Nat.le_refl _) (by omega)).2
  have hll : l ≠ nx := fun h => by
    subst h
    simp only [V, hnone] at hV1
  have hkill := hW.kill l
  rw [hsz]
  have hbytes : (xs.length + ys.length) * re.bytes ≤ 140737488355328 := by simpa using hlim
  -- the growing arm
  have grow : ∀ (A : Option Addr) (sCap : Nat), u1 = .slice A xs.length sCap → sCap < xs.length + ys.length →
      Does P w (execOp ρv o) fun u w' => ∃ φ' β', Step own (fun l => nx ≤ l ∧ l < nx + 1) φ β w φ' β' w' ∧ V φ' β' w' (.hw nx) u ∧ WInv own φ' β' (upd [(nx, .arr y.sz y (xs ++ ys) []), (l, .dead)] get') w' := by
    intro A sCap hA hlt
    subst hA
    obtain ⟨cap, c', h1, h2, h3, h4⟩ := run_append_out (P := P) w (ty := o.type) hut hud hd (hE.row e re hre) hsz (A := A) (sLen := xs.length) (sCap := sCap) (olds := olds) hs hso.first hlt hb0 hbytes
    obtain ⟨φ', β', g1, g2, g3⟩ := append_new (nx := nx) (xs := xs ++ ys) (cells := olds ++ news) (cap := cap) (c := c') (e := e) (w' := w.drew.alloc (.cells c' e)) hkill hnone (new := fun l => nx ≤ l ∧ l < nx + 1) ⟨Nat.le_refl _, by omega⟩
      (by simp [hso.len, hs.len, Nat.add_mul]) (fun i z hz => by
        rcases Nat.lt_or_ge i xs.length with hlt' | hge
        · rw [List.getElem?_append_left hlt'] at hz
          obtain ⟨ds, d1, d2⟩ := hso.typed i z hz
          refine ⟨ds, d1, fun j v hj => ?_⟩
          have := d2 j v hj
          rw [List.getElem?_append_left (List.getElem?_eq_some_iff.1 this).1]
          exact this
        · rw [List.getElem?_append_right hge] at hz
          obtain ⟨ds, d1, d2⟩ := hs.typed _ z hz
          refine ⟨ds, d1, fun j v hj => ?_⟩
          have := d2 j v hj
          have e1 : i * y.sz = xs.length * y.sz + (i - xs.length) * y.sz := by rw [← Nat.add_mul]; congr 1; omega
          rw [List.getElem?_append_right (by rw [hso.len]; omega), hso.len]
          rwa [show i * y.sz + j - xs.length * y.sz = (i - xs.length) * y.sz + j by omega])
      (lim_max hb0 hlim) (by simpa using h1) (by rw [h2]; simp) h3 (.inl rfl)
    rw [two_patch]
    refine .value (w' := w.drew.alloc (.cells c' e)) (u := .slice (some ⟨w.heap.size, 0, none⟩) (xs ++ ys).length cap) ?_ ⟨φ', β', g1, g2, g3⟩
    rw [hrun]
    simp [builtin, h4]
  have hV1' := hV1
  rcases hb : β l with _ | (_ | p)
  · simp only [V, hb] at hV1
  · simp only [V, hb] at hV1
    obtain ⟨A, rfl⟩ := hV1
    have hx0 : xs.length = 0 := by have := hso.lenOf w; simp [Builtin.lenOf] at this; omega
    by_cases hys : ys = []
    · subst hys
      have hxn : xs = [] := List.eq_nil_of_length_eq_zero hx0
      subst hxn
      have hrun' := run_append_in_nil (P := P) w (ty := o.type) hut hud hd (hE.row e re hre) hsz (A := A) hs
      rw [two_patch]
      refine .value (w' := w) (u := .slice A 0 0) (by rw [hrun]; simp [builtin, hrun']) ⟨φ, setB β nx none, ⟨.refl _ _, ext_setB hnone, fun m hm => ?_, Nat.le_refl _, fun _ _ _ => ⟨rfl, rfl⟩⟩, ?_, ?_⟩
      · unfold setB; rw [if_neg (fun (e : m = nx) => hm (by rw [e]; exact ⟨Nat.le_refl _, by omega⟩))]
      · simp only [V, setB, if_true]; exact ⟨A, rfl⟩
      · refine hkill.change (.refl _ _) (ext_setB hnone) (Nat.le_refl _) nx _ (fun _ _ _ _ _ => ⟨rfl, rfl⟩) ?_ (fun m hm => by unfold setB; rw [if_neg hm]) (fun _ q hq => ?_) (fun b hb => (hW.fresh b hb).2)
        · simp only [ObjRel, setB, if_true]; simp
        · simp [setB] at hq
    · have hpos : 0 < ys.length := List.length_pos_iff.2 hys
      exact grow A 0 (by rw [hx0]) (by omega)
  · simp only [V, hb] at hV1
    obtain ⟨cap, rfl, hcap, hroom⟩ := hV1
    have hxl : xs.length = p.len := by have := hso.lenOf w; simp [Builtin.lenOf] at this; exact this.symm
    by_cases hfit : xs.length + ys.length ≤ cap
    · -- in place
      have hlive : get' l ≠ .dead := by
        intro h
        rw [hget l (by simp)] at h
        simp [elems, h] at hx
      have hrel := hW.rel l
      obtain ⟨sz0, t0, xs0, tail0, hg0⟩ : ∃ sz t xs tail, get' l = .arr sz t xs tail := by
        cases hg : get l with
        | arr sz t' zs tail => exact ⟨sz, t', zs, tail, by rw [hget l (by simp), hg]⟩
        | _ => simp [elems, hg] at hx
      rw [hg0] at hrel
      simp only [ObjRel, hb] at hrel
      obtain ⟨q1, q2, q3, qM, q4, q5, q6, q7, _, _⟩ := hrel
      have hps : p.sz = y.sz := by
        have hg : get l = .arr sz0 t0 xs0 tail0 := by rw [← hget l (by simp)]; exact hg0
        simp only [elems, hg] at hx
        cases hbq : Nat.beq sz0 y.sz with
        | false => rw [hbq] at hx; cases hx
        | true => rw [q1]; exact Nat.eq_of_beq_eq_true hbq
      obtain ⟨cc, ct, cfr, hcc, hcs⟩ := hroom
      rw [hps] at hcs
      have hthere : ∀ j, j < news.length → (w.cell? ⟨p.block, p.off + xs.length * y.sz + j, none⟩).isSome = true := fun j hj => by
        rw [hs.len] at hj
        have : (xs.length + ys.length) * y.sz ≤ cap * y.sz := Nat.mul_le_mul_right _ hfit
        rw [Nat.add_mul] at this
        simp [World.cell?, hcc]
        omega
      have hrun' := run_append_in (P := P) w (ty := o.type) hut hud hd (hE.row e re hre) hsz (b := p.block) (off := p.off) (sLen := xs.length) (sCap := cap) hs hfit hthere (fun j _ => q6 _)
      obtain ⟨f1, f2, f3, f4, f5, f6⟩ := setCells_facts (w := w) hthere
      obtain ⟨w1, hw1⟩ : ∃ w1, w1 = w.setCells p.block (p.off + xs.length * y.sz) news := ⟨_, rfl⟩
      rw [← hw1] at hrun' f1 f2 f3 f4 f5 f6
      have hk : Keeps φ w φ w1 := ⟨fun _ => Nat.le_refl _, fun b o v hb hv => by
          have hne : b ≠ p.block := fun e => by rw [e, q5] at hb; omega
          rw [cell_of_heap (w := w) (f1 b hne)]; exact hv, fun b n hr => by
          by_cases hb : b = p.block
          · rw [hb] at hr ⊢; exact f3 n hr
          · exact hr.of_heap (f1 b hb), by rw [hw1]; exact setCells_out.1, by rw [hw1]; exact setCells_out.2⟩
      have hm := hW.mine l p hlive hb
      -- the cells of the elder elements
      have holdc : ∀ i z, xs[i]? = some z → ∃ ds, Vt φ w y z ds ∧ CellsAt w p.block (p.off + i * y.sz) ds := by
        intro i z hz
        have hsrc := hso.first w rfl
        obtain ⟨ds, d1, d2⟩ := hso.typed i z hz
        have hd := hW.rel l
        -- read off the object
        have hg : get l = .arr sz0 t0 xs0 tail0 := by rw [← hget l (by simp)]; exact hg0
        simp only [elems, hg] at hx
        have hbq : Nat.beq sz0 y.sz = true := by rw [← q1, hps]; exact Nat.beq_refl _
        rw [hbq, cond_true] at hx
        rw [hg0] at hd
        have hszy : sz0 = y.sz := by rw [← q1, hps]
        split at hx
        · rename_i h
          subst h
          split at hx
          · simp at hx
            obtain ⟨rfl, _⟩ := hx
            exact obj_elems hd hb (ys := []) (by simp [decAll]) hszy i z (by simpa using hz)
          · obtain ⟨zs, hzs, hx⟩ := Option.bind_eq_some_iff.1 hx
            simp at hx
            obtain ⟨rfl, _⟩ := hx
            exact obj_elems hd hb hzs hszy i z hz
        · split at hx
          · obtain ⟨zs, hzs, hx⟩ := Option.bind_eq_some_iff.1 hx
            simp at hx
            obtain ⟨rfl, _⟩ := hx
            have hd' : ObjRel φ β w l (.arr sz0 y [] tail0) := by
              simp only [ObjRel, hb] at hd ⊢
              obtain ⟨h1, h2, h3, hM, h4, h5, h6, h7, h8, h9⟩ := hd
              exact ⟨h1, h2, h3, hM, fun h => absurd rfl h, h5, h6, h7, fun i x hi => by simp at hi, h9⟩
            exact obj_elems hd' hb hzs hszy i z (by simpa using hz)
          · cases hx
      have hobj : ObjRel φ (setB β nx (some ⟨p.block, p.off, y.sz, (xs ++ ys).length, (xs ++ ys).length⟩)) w1 nx (.arr y.sz y (xs ++ ys) []) := by
        simp only [ObjRel, setB, if_true]
        refine ⟨trivial, trivial, by simp, lim_max hb0 hlim, fun _ => trivial, q5, fun o => by rw [f6]; exact q6 o, f3 _ ⟨cc, ct, cfr, hcc, ?_⟩, fun i z hz => ?_, fun q e hq => by simp at hq⟩
        · have : (xs ++ ys).length * y.sz ≤ cap * y.sz := Nat.mul_le_mul_right _ (by simpa using hfit)
          omega
        · rcases Nat.lt_or_ge i xs.length with hlt' | hge
          · rw [List.getElem?_append_left hlt'] at hz
            obtain ⟨ds, d1, d2⟩ := holdc i z hz
            refine ⟨ds, Vt.keep hk _ _ _ d1, fun j v hj => ?_⟩
            have hjl : j < y.sz := by rw [← Vt.length _ _ _ d1]; exact (List.getElem?_eq_some_iff.1 hj).1
            have hle : (i + 1) * y.sz ≤ xs.length * y.sz := Nat.mul_le_mul_right _ hlt'
            rw [Nat.add_mul] at hle
            rw [f5 _ (.inl (by omega))]
            exact d2 j v hj
          · rw [List.getElem?_append_right hge] at hz
            obtain ⟨ds, d1, d2⟩ := hs.typed _ z hz
            refine ⟨ds, Vt.keep hk _ _ _ d1, fun j v hj => ?_⟩
            have := f4 _ v (d2 j v hj)
            have e1 : i * y.sz = xs.length * y.sz + (i - xs.length) * y.sz := by rw [← Nat.add_mul]; congr 1; omega
            rwa [show p.off + xs.length * y.sz + ((i - xs.length) * y.sz + j) = p.off + i * y.sz + j by omega] at this
      have hWI := hkill.change (β' := setB β nx (some ⟨p.block, p.off, y.sz, (xs ++ ys).length, (xs ++ ys).length⟩)) hk (ext_setB hnone) (by omega) nx (.arr y.sz y (xs ++ ys) []) (fun m hm' hd' q hq => by
          rw [upd_one] at hd'
          by_cases hlm : l = m
          · subst hlm; simp at hd'
          · rw [if_neg hlm] at hd'
            exact ⟨f1 _ (fun e => hW.dist l m p q hlm hlive hd' hb hq e.symm), rfl⟩) hobj (fun m hm' => by unfold setB; rw [if_neg hm'])
        (fun _ q hq => by
          simp only [setB, if_true, Option.some.injEq] at hq
          subst hq
          refine ⟨hm.1, by simp only; omega, fun m hm' hd' q hq => ?_⟩
          rw [upd_one] at hd'
          by_cases hlm : l = m
          · subst hlm; simp at hd'
          · rw [if_neg hlm] at hd'
            exact fun e => hW.dist l m p q hlm hlive hd' hb hq e.symm) (fun b hb => (hW.fresh b (by omega)).2)
      rw [two_patch]
      refine .value (w' := w1) (u := .slice (some ⟨p.block, p.off, none⟩) (xs.length + ys.length) cap) ?_ ⟨φ, _, ⟨hk, ext_setB hnone, fun m hm' => ?_, by omega, fun b hb hnb => ⟨f1 b (fun e => hnb (by rw [e]; exact hm.1)), rfl⟩⟩, ?_, hWI⟩
      · rw [hrun, ← hxl]
        simp [builtin, hrun']
      · unfold setB; rw [if_neg (fun (e : m = nx) => hm' (by rw [e]; exact ⟨Nat.le_refl _, by omega⟩))]
      · simp only [V, setB, if_true]
        exact ⟨cap, by simp, by simpa using hfit, f3 _ ⟨cc, ct, cfr, hcc, hcs⟩⟩
    · exact grow _ cap (by rw [hxl]) (by omega)
end
end Go.Sim
