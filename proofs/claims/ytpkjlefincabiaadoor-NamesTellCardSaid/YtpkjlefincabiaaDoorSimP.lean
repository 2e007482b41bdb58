/-
  SimP: lookup, update, delete; calls of functions whose contract is known.
-/
import Derived.Test.YtpkjlefincabiaaDoorSimO
namespace Go.Sim
set_option linter.unusedSectionVars false
set_option linter.unusedSimpArgs false
set_option linter.unusedVariables false
section
variable {P : Program} [Tabs P] {o : Oper} {get : Nat → AObj} {nx : Nat} {ρ : Operand → AV}
variable {own : Own P} {φ φ' : Nat → Nat} {β β' : Beta} {w w' : World}

theorem keyEq_symm : ∀ (t : Ty) (a b : t.den), keyEq t a b = keyEq t b a
  | .bool, a, b => by simp only [keyEq]; exact Bool.beq_comm
  | .int _, a, b => by simp only [keyEq]; rw [Bool.eq_iff_iff]; simp; exact eq_comm
  | .str, a, b => by simp only [keyEq]; rw [Bool.eq_iff_iff]; simp; exact eq_comm
  | .sl _, _, _ => rfl
  | .pair _ _, _, _ => rfl

theorem mset_len {kt vt : Ty} {k : kt.den} {v : vt.den} : ∀ (es : List (kt.den × vt.den)), (mset k v es).length ≤ es.length + 1
  | [] => Nat.le_refl _
  | e :: es => by
    simp only [mset]
    cases keyEq kt k e.1 with
    | true => simp
    | false => simp; exact mset_len es
theorem mdel_len {kt vt : Ty} {k : kt.den} : ∀ (es : List (kt.den × vt.den)), (mdel k es).length ≤ es.length
  | [] => Nat.le_refl _
  | e :: es => by
    simp only [mdel]
    cases keyEq kt k e.1 with
    | true => simp
    | false => simp; exact mdel_len es
theorem sz_pos : ∀ t : Ty, 0 < t.sz
  | .bool => Nat.one_pos
  | .int _ => Nat.one_pos
  | .str => Nat.one_pos
  | .sl _ => Nat.one_pos
  | .pair a b => by simp only [Ty.sz]; have := sz_pos a; omega

theorem run_getObj_map' {r : Nat} {es : Array MapEntry} {clock : Nat} (h : w.heap[r]? = some (.map es clock)) : (getObj r).run P w = .ok (.map es clock) w := by simp [getObj, Sem.run, h]
theorem run_setObj_map' {r : Nat} {es : Array MapEntry} {clock : Nat} (ob : Obj) (h : w.heap[r]? = some (.map es clock)) : (setObj r ob).run P w = .ok () { w with heap := w.heap.setIfInBounds r ob } := by simp [setObj, Sem.run, h]

theorem dec_one {kt : Ty} (hk : okKey kt = true) {c : AV} {k : kt.den} (hd : dec kt [c] = some k) {v : Value} (h : V φ β w c v) : Vt φ w kt k [v] := dec_sound kt [c] k [v] hd (.cons h rfl)

theorem isTy_eq {a : Option Ty} {b : Ty} (h : isTy a b = true) : a = some b := by
  cases a with
  | none => simp [isTy] at h
  | some c => simp [isTy] at h; rw [h]

theorem map_at (hW : WInv own φ β get w) {l : Nat} {kt vt : Ty} {es : List (kt.den × vt.den)} (hg : get l = .map kt vt es) {x : Value} (hV : V φ β w (.mp l) x) :
    ∃ p ents clock, β l = some (some p) ∧ x = .map (some p.block) ∧ w.heap[p.block]? = some (.map ents clock) ∧ φ p.block = 0 ∧ okKey kt = true ∧ Entries φ w kt vt es ents.toList ∧ es.length ≤ maxL := by
  have hrel := hW.rel l
  rw [hg] at hrel
  simp only [ObjRel] at hrel
  obtain ⟨hM, p, ents, clock, hb, hheap, h1, h2, h3⟩ := hrel
  simp only [V] at hV
  obtain ⟨q, hq, hx⟩ := hV
  rw [hb] at hq; cases hq
  exact ⟨p, ents, clock, hb, hx, hheap, h1, h2, h3, hM⟩

theorem val_whole {vt : Ty} {x : vt.den} {u : Value} (h : Vt φ w vt x u.cells.toList) (h1 : vt.sz = 1 → u.cells = #[u]) (h2 : 1 < vt.sz → u = .agg u.cells) {v : AV} (hw : whole (Nat.blt 1 vt.sz) (enc vt x) = some v) : V φ β w v u := by
  have hv := Vt.enc (β := β) _ _ _ h
  obtain ⟨hV, _⟩ := whole_sound hw hv
  cases hb : Nat.blt 1 vt.sz with
  | true =>
    rw [hb] at hV
    have : 1 < vt.sz := by have := hb; simpa [Nat.blt_eq] using this
    rw [h2 this]
    simpa using hV
  | false =>
    rw [hb] at hV
    have hn : ¬ 1 < vt.sz := by intro hh; have : Nat.blt 1 vt.sz = true := by simpa [Nat.blt_eq] using hh
                                rw [hb] at this; cases this
    have := sz_pos vt
    rw [h1 (by omega)] at hV
    simpa using hV

theorem run_findKey {k : TypeId} {d : TypeDesc} (hu : P.underlying k = some d) {kv : Value} {es : List MapEntry} {r : Option (Nat × Value)} (h : Instr.findNow d kv es 0 = some r) : (Instr.findKey k kv es).run P w = .ok r w := by
  simp [Instr.findKey, run_underlying hu, h]

theorem tyWhole {E : Env} (hE : EnvOK P E) {e : TypeId} {t : Ty} (ht : E.tyOf e = some t) : ∃ i z, P.info? e = some i ∧ i.zero = some z ∧ (t.sz = 1 → z.cells = #[z]) ∧ (1 < t.sz → z = .agg z.cells) ∧ Vt φ w t t.zero z.cells.toList := by
  have h := hE.ty e t ht
  cases t with
  | bool => obtain ⟨_, i, h1, h2, h3⟩ := h; exact ⟨i, _, h1, h3, fun _ => rfl, fun h => by simp [Ty.sz] at h, rfl⟩
  | int k => obtain ⟨_, i, h1, h2, h3⟩ := h; exact ⟨i, _, h1, h3, fun _ => rfl, fun h => by simp [Ty.sz] at h, rfl, In.zero k⟩
  | str => obtain ⟨_, i, h1, h2, h3⟩ := h; exact ⟨i, _, h1, h3, fun _ => rfl, fun h => by simp [Ty.sz] at h, rfl, Nat.zero_le _⟩
  | sl a => obtain ⟨i, z, h1, h2, h3, h4, h5, h6⟩ := h; exact ⟨i, z, h1, h3, h6, h5, h4 φ w⟩
  | pair a b => obtain ⟨i, z, h1, h2, h3, h4, h5, h6⟩ := h; exact ⟨i, z, h1, h3, h6, h5, h4 φ w⟩

theorem good_lookup {E : Env} (hE : EnvOK P E) {t kt0 vt0 : TypeId} {x k : Operand} {ok : Bool} {rw_ : TRow} (ho : o.op = .lookup t x k ok) (hr : E.row t = some rw_) (hk : rw_.kind = .map kt0 vt0) {l : Nat} (hx : ρ x = .mp l)
    {kt vt : Ty} {es : List (kt.den × vt.den)} (hg : get l = .map kt vt es) (h1 : isTy (E.tyOf kt0) kt = true) (h2 : isTy (E.tyOf vt0) vt = true) {key : kt.den} (hd : dec kt [ρ k] = some key) {v : AV}
    (hw : whole (Nat.blt 1 vt.sz) (enc vt ((mget key es).getD vt.zero)) = some v) : OpGood P o get nx ρ (cond ok (.tup [v, .bool (mget key es).isSome]) v) [] [l] nx :=
  .pure fun own get' φ β w ρv hget hvs hW => by
    have hX := hvs x (by simp [ho, Op.operands])
    have hK := hvs k (by simp [ho, Op.operands])
    rw [hx] at hX
    obtain ⟨p, ents, clock, hb, hxv, hheap, hφ, hok, hent, _⟩ := map_at hW (by rw [hget l (by simp)]; exact hg) hX
    have hkv := dec_one hok hd hK
    obtain ⟨d, hud, hsame, hcheck, _⟩ := key_now (w := w) (φ := φ) hE (isTy_eq h1) hok
    have hu := (hE.row t rw_ hr).map_kind hk
    have key : ∃ u, V φ β w v u ∧ (Instr.lookup t (ρv x) (ρv k) ok).run P w = .ok (if ok then .tuple #[u, .bool (mget key es).isSome] else u) w := by
      rcases find_now hkv hsame es ents.toList 0 hent with ⟨g1, g2, _⟩ | ⟨j, y, e, g1, g2, g3, g4, g5, g6, _⟩
      · obtain ⟨i, z, q1, q2, q3, q4, q5⟩ := tyWhole (φ := φ) (w := w) hE (isTy_eq h2)
        rw [g1] at hw
        refine ⟨z, val_whole q5 q3 q4 hw, ?_⟩
        cases ok <;> simp [Instr.lookup, run_underlying hu, hxv, run_getObj_map' hheap, hcheck _ _ _ _ hkv, run_findKey hud g2, zeroValue, typeInfo, q1, q2, g1]
      · rw [g1] at hw
        refine ⟨e.val, val_whole g4 g5 g6 hw, ?_⟩
        cases ok <;> simp [Instr.lookup, run_underlying hu, hxv, run_getObj_map' hheap, hcheck _ _ _ _ hkv, run_findKey hud g2, g1]
    obtain ⟨u, hV, hrun⟩ := key
    refine ⟨_, by simp only [execOp, ho]; simp [hrun]; rfl, ?_⟩
    cases ok with
    | true => simp only [V, cond_true, if_true]; exact ⟨[u, .bool (mget key es).isSome], rfl, .cons hV (.cons (by simp [V]) rfl)⟩
    | false => simpa using hV

theorem Entries.snoc {kt vt : Ty} {k : kt.den} {v : vt.den} {e : MapEntry} (g1 : Vt φ w kt k [e.key]) (g2 : Vt φ w vt v e.val.cells.toList) (g3 : vt.sz = 1 → e.val.cells = #[e.val]) (g4 : 1 < vt.sz → e.val = .agg e.val.cells) :
    ∀ {es : List (kt.den × vt.den)} {l : List MapEntry}, Entries φ w kt vt es l → Entries φ w kt vt (es ++ [(k, v)]) (l ++ [e])
  | [], l, h => by simp only [Entries] at h; subst h; exact ⟨e, [], rfl, g1, g2, g3, g4, rfl⟩
  | x :: es, l, h => by
    simp only [Entries] at h
    obtain ⟨e', r, rfl, a1, a2, a3, a4, a5⟩ := h
    exact ⟨e', _, rfl, a1, a2, a3, a4, Entries.snoc g1 g2 g3 g4 a5⟩

theorem val_cells {c : AV} {u : Value} (h : V φ β w c u) {vt : Ty} {x : vt.den} (hd : dec vt c.cells = some x) (hc : aggOk c vt.sz = true) :
    Vt φ w vt x u.cells.toList ∧ (vt.sz = 1 → u.cells = #[u]) ∧ (1 < vt.sz → u = .agg u.cells) := by
  have hne : c ≠ .undef := by
    intro e
    subst e
    have : ∀ t : Ty, dec t [] = none := by
      intro t
      induction t with
      | pair a b iha ihb => simp [dec, iha]
      | _ => rfl
    simp only [AV.cells] at hd
    rw [this] at hd; cases hd
  have hv := dec_sound vt _ _ _ hd (V_cells h hne)
  have hlen := Vt.length _ _ _ hv
  refine ⟨hv, ?_⟩
  by_cases ha : ∃ cs, c = .agg cs
  · obtain ⟨cs, rfl⟩ := ha
    simp only [V] at h
    obtain ⟨vs, rfl, _⟩ := h
    have : 1 < vt.sz := by simpa [aggOk, Nat.blt_eq] using hc
    exact ⟨fun e => by omega, fun _ => rfl⟩
  · have hone : u.cells = #[u] := by
      have hcs : c.cells = [c] := by cases c <;> first | rfl | exact absurd rfl hne | exact absurd ⟨_, rfl⟩ ha
      have h1 := V_cells h hne
      rw [hcs] at h1
      simp only [VL] at h1
      obtain ⟨u', us, e1, hV, rfl⟩ := h1
      by_cases hu : ∃ vs, u = .agg vs
      · obtain ⟨vs, rfl⟩ := hu
        exfalso
        have key : ∀ c : AV, (∀ cs, c ≠ .agg cs) → c ≠ .undef → ¬ V φ β w c (.agg vs) := by
          intro c hca hcu hV
          cases c with
          | agg cs => exact hca _ rfl
          | undef => exact hcu rfl
          | hw l => rcases hb : β l with _ | (_ | p) <;> simp [V, hb] at hV
          | hs l a n => rcases hb : β l with _ | (_ | p) <;> simp [V, hb] at hV
          | vl t xs => simp only [V, Vt] at hV; obtain ⟨_, A, cap, he, _⟩ := hV; simp at he
          | _ => simp [V] at hV
        exact key c (fun cs e => ha ⟨cs, e⟩) hne h
      · cases u <;> first | rfl | exact absurd ⟨_, rfl⟩ hu
    rw [hone] at hlen
    simp at hlen
    exact ⟨fun _ => hone, fun e => by omega⟩

theorem good_mapUpdate {E : Env} (hE : EnvOK P E) {t kt0 vt0 : TypeId} {x k y : Operand} {rw_ : TRow} (ho : o.op = .mapUpdate t x k y) (hr : E.row t = some rw_) (hk : rw_.kind = .map kt0 vt0) {l : Nat} (hx : ρ x = .mp l)
    {kt vt : Ty} {es : List (kt.den × vt.den)} (hg : get l = .map kt vt es) (h1 : isTy (E.tyOf kt0) kt = true) {key : kt.den} (hd : dec kt [ρ k] = some key) {val : vt.den} (hdv : dec vt (ρ y).cells = some val)
    (hc : aggOk (ρ y) vt.sz = true) (hlt : es.length < 9223372036854775807) : OpGood P o get nx ρ .undef [(l, .map kt vt (mset key val es))] [l] nx := by
  refine ⟨Nat.le_refl _, fun own get' φ β w ρv hget _ hvs hW => ?_⟩
  have hX := hvs x (by simp [ho, Op.operands])
  have hK := hvs k (by simp [ho, Op.operands])
  have hY := hvs y (by simp [ho, Op.operands])
  rw [hx] at hX
  have hgl := hget l (by simp)
  rw [hg] at hgl
  obtain ⟨p, ents, clock, hb, hxv, hheap, hφ, hok, hent, hML⟩ := map_at hW hgl hX
  have hkv := dec_one hok hd hK
  obtain ⟨v1, v2, v3⟩ := val_cells hY hdv hc
  obtain ⟨d, hud, hsame, hcheck, hstay⟩ := key_now (w := w) (φ := φ) hE (isTy_eq h1) hok
  have hu := (hE.row t rw_ hr).map_kind hk
  have key : ∃ ents' clock', (Instr.mapUpdate t (ρv x) (ρv k) (ρv y)).run P w = .ok () { w with heap := w.heap.setIfInBounds p.block (.map ents' clock') } ∧ Entries φ w kt vt (mset key val es) ents'.toList := by
    rcases find_now hkv hsame es ents.toList 0 hent with ⟨g1, g2, g3, _⟩ | ⟨j, z, e, g1, g2, g3, g4, g5, g6, ⟨k0, q1, q2⟩, g8, _⟩
    · refine ⟨ents.push { key := ρv k, val := ρv y, born := clock }, clock + 1, ?_, ?_⟩
      · simp [Instr.mapUpdate, run_underlying hu, hxv, run_getObj_map' hheap, hcheck _ _ _ _ hkv, run_findKey hud g2, run_setObj_map' _ hheap]
      · rw [g3]
        simp only [Array.toList_push]
        exact hent.snoc hkv v1 v2 v3
    · have hej : ents[j]? = some e := by simpa using g3
      refine ⟨ents.modify j fun e => { e with key := ρv k, val := ρv y }, clock, ?_, ?_⟩
      · have hs := hstay k0 key e.key (ρv k) w q1 hkv (by rw [keyEq_symm]; exact q2)
        simp [Instr.mapUpdate, run_underlying hu, hxv, run_getObj_map' hheap, hcheck _ _ _ _ hkv, run_findKey hud g2, hej, hs, run_setObj_map' _ hheap]
      · simp only [Array.toList_modify]
        exact g8 val (ρv y) (ρv k) _ rfl hkv v1 v2 v3
  obtain ⟨ents', clock', hrun, hent'⟩ := key
  obtain ⟨w', hw', hstep, hWI⟩ := hW.setObj (a := .map kt vt (mset key val es)) (ob' := .map ents' clock') (new := fun l => nx ≤ l ∧ l < nx)
    (by rw [hgl]; intro h; cases h) hb hheap (fun _ _ _ h => by cases h) hφ (fun w' h hk => by simp only [ObjRel]; exact ⟨by have := mset_len (k := key) (v := val) es; unfold maxL; omega, p, ents', clock', hb, h, hφ, hok, hent'.keep hk⟩)
  refine .skip (w' := w') ?_ ⟨φ, β, hstep, by simp [V], hWI⟩
  simp only [execOp, ho]
  simp [hrun, hw']

theorem good_delete {E : Env} (hE : EnvOK P E) {c : Call} {t kt0 vt0 : TypeId} {rw_ : TRow} (ho : o.op = .call c) (hc : c.callee = .builtin .delete) (ht : c.argTypes[0]? = some t) (hr : E.row t = some rw_) (hk : rw_.kind = .map kt0 vt0) {l : Nat} {ka : AV}
    (hargs : c.args.toList.map ρ = [.mp l, ka]) {kt vt : Ty} {es : List (kt.den × vt.den)} (hg : get l = .map kt vt es) (h1 : isTy (E.tyOf kt0) kt = true) {key : kt.den} (hd : dec kt [ka] = some key) :
    OpGood P o get nx ρ (.tup []) [(l, .map kt vt (mdel key es))] [l] nx := by
  refine ⟨Nat.le_refl _, fun own get' φ β w ρv hget _ hvs hW => ?_⟩
  have ha := call_args ho hvs
  rw [hargs] at ha
  simp only [VL] at ha
  obtain ⟨u1, us, hu1, hX, u2, us', rfl, hK, rfl⟩ := ha
  obtain ⟨cs, hrun0⟩ := run_builtin hc ho ρv
  rw [map_toList_eq hu1] at hrun0
  have hgl := hget l (by simp)
  rw [hg] at hgl
  obtain ⟨p, ents, clock, hb, hxv, hheap, hφ, hok, hent, hML⟩ := map_at hW hgl hX
  have hkv := dec_one hok hd hK
  obtain ⟨d, hud, hsame, hcheck, _⟩ := key_now (w := w) (φ := φ) hE (isTy_eq h1) hok
  have hu := (hE.row t rw_ hr).map_kind hk
  have key : ∃ ents', (Builtin.delete_ c.argTypes o.type #[u1, u2]).run P w = .ok (.tuple #[]) { w with heap := w.heap.setIfInBounds p.block (.map ents' clock) } ∧ Entries φ w kt vt (mdel key es) ents'.toList := by
    rcases find_now hkv hsame es ents.toList 0 hent with ⟨g1, g2, _, g4⟩ | ⟨j, z, e, g1, g2, g3, _, _, _, _, _, g9⟩
    · refine ⟨ents, ?_, by rw [g4]; exact hent⟩
      simp [Builtin.delete_, ht, run_underlying hu, hxv, run_getObj_map' hheap, hcheck _ _ _ _ hkv, run_findKey hud g2, run_setObj_map' _ hheap]
    · refine ⟨ents.eraseIdxIfInBounds j, ?_, ?_⟩
      · simp [Builtin.delete_, ht, run_underlying hu, hxv, run_getObj_map' hheap, hcheck _ _ _ _ hkv, run_findKey hud g2, run_setObj_map' _ hheap]
      · rw [Array.toList_eraseIdxIfInBounds]; exact g9
  obtain ⟨ents', hrun, hent'⟩ := key
  obtain ⟨w', hw', hstep, hWI⟩ := hW.setObj (a := .map kt vt (mdel key es)) (ob' := .map ents' clock) (new := fun l => nx ≤ l ∧ l < nx)
    (by rw [hgl]; intro h; cases h) hb hheap (fun _ _ _ h => by cases h) hφ (fun w' h hk => by simp only [ObjRel]; exact ⟨Nat.le_trans (mdel_len es) hML, p, ents', clock, hb, h, hφ, hok, hent'.keep hk⟩)
  refine .value (w' := w') (u := .tuple #[]) ?_ ⟨φ, β, hstep, by simp only [V]; exact ⟨[], rfl, rfl⟩, hWI⟩
  rw [hrun0]
  simp [builtin, hrun, hw']

end
end Go.Sim
