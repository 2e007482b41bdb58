/-
  SimZ: functions: what the abstract machine comes to in a function, a call of it comes to.
-/
import Derived.Test.YtpkjlefincabiaaDoorSimY
import Derived.Laws.Sem
namespace Go.Sim
set_option linter.unusedSectionVars false
set_option linter.unusedSimpArgs false
set_option linter.unusedVariables false
section
variable {P : Program} [Tabs P] {E : Env} {H : Hint}
variable {own : Own P} {φ φ' : Nat → Nat} {β β' β2 : Beta} {w w' : World}
variable {R : Type} {k0 : Nat}

def resRun (tmps : Array Value) : ResultVar → Sem Value
  | .tmp t => pure (tmps.getD t undef)
  | .cell a t => do loadVar t (← asAddr (tmps.getD a undef))

theorem results_eq (fn : Func) (tmps : Array Value) : results fn tmps = (do
    let vs ← fn.results.mapM (resRun tmps)
    pure (if h : vs.size = 1 then vs[0] else .tuple vs)) := by
  rfl

theorem result_sound (hE : EnvOK P E) {s : St} {a : Act} (hrel : Rel H k0 own φ β s a w) {x : ResultVar} {v : AV} (hv : resultOf E s x = some v) :
    ∃ u : Value, (resRun a.tmps x).run P w = .ok u w ∧ V φ β w v u := by
  cases x with
  | tmp t =>
    simp [resultOf] at hv
    subst hv
    exact ⟨a.tmps.getD t undef, by simp [resRun], hrel.slots t⟩
  | cell t ty =>
    simp only [resultOf] at hv
    obtain ⟨rw_, hr, hv⟩ := bind_some hv
    split at hv
    · rename_i l e j hx
      split at hv
      · rename_i sz ty' xs tail hg
        obtain ⟨hlen, hv⟩ := cond_none hv
        have hlen := Nat.eq_of_beq_eq_true hlen
        have hV := hrel.slots t
        unfold slotAt at hV
        rw [hx] at hV
        simp only [V] at hV
        obtain ⟨p, hp, hval, hlt, hty⟩ := hV
        have hval : a.tmps.getD t undef = .pointer (some ⟨p.block, p.off + e.num p.nty * p.sz + j, none⟩) := hval
        have hob := hrel.inv.rel l
        rw [hg] at hob
        obtain ⟨ds, hd, hc, _, _⟩ := elt_cells hob hp hlt hty
        have hcut : VL φ β w (((eltCells ty' xs tail e).drop j).take rw_.size) ((ds.drop j).take rw_.size) := (hd.drop j).take _
        obtain ⟨hV, h1c⟩ := whole_sound hv hcut
        have hlen2 : ((ds.drop j).take rw_.size).length = rw_.size := by rw [hcut.length]; exact hlen
        have hload := run_loadVar_cells (hE.row ty rw_ hr) w p.block (p.off + e.num p.nty * p.sz + j) ((ds.drop j).take rw_.size) hlen2 (hc.drop.take) (fun hk => by rw [← hlen2]; exact h1c hk)
        refine ⟨_, ?_, hV⟩
        simp [resRun, hval, asAddr, hload]
      · cases hv
    · cases hv

theorem results_sound (hE : EnvOK P E) {s : St} {a : Act} (hrel : Rel H k0 own φ β s a w) : ∀ (l : List ResultVar) (vs : List AV), resultsOf E s l = some vs →
    ∃ us : List Value, (l.mapM (resRun a.tmps)).run P w = .ok us w ∧ VL φ β w vs us
  | [], vs, h => by
    simp [resultsOf] at h; subst h
    exact ⟨[], by simp, rfl⟩
  | x :: l, vs, h => by
    simp only [resultsOf] at h
    obtain ⟨v, hv, h⟩ := bind_some h
    obtain ⟨vs', hvs, h⟩ := bind_some h
    simp at h
    subst h
    obtain ⟨us, h1, h2⟩ := results_sound hE hrel l vs' hvs
    obtain ⟨u, g1, g2⟩ := result_sound hE hrel hv
    exact ⟨u :: us, by simp [List.mapM_cons, h1, g1], .cons g2 h2⟩

theorem oneOr_sound {vs : List AV} {us : List Value} (h : VL φ β w vs us) : V φ β w (oneOr vs) (if h : us.toArray.size = 1 then us.toArray[0] else .tuple us.toArray) := by
  have hl := h.length
  match vs, us, h with
  | [], [], h => simp only [oneOr]; simp [V, VL]
  | [v], [u], h =>
    simp only [VL] at h
    obtain ⟨u', us', he, h1, _⟩ := h
    cases he
    simpa [oneOr] using h1
  | v :: v2 :: vs, [], h => simp at hl
  | v :: v2 :: vs, [u], h => simp at hl
  | v :: v2 :: vs, u :: u2 :: us, h =>
    simp only [oneOr]
    have : ¬ (u :: u2 :: us).toArray.size = 1 := by simp
    rw [dif_neg this]
    simp only [V]
    exact ⟨_, rfl, h⟩

/-- What is asked of a function's hints. -/
def fnOk (H : Hint) (fn : Func) (n : Nat) : Bool :=
  Nat.beq H.nt fn.ntmps && Nat.ble n fn.ntmps

theorem evFn_sound (hE : EnvOK P E) (hg : GlobOK P E) (hm : P.follows .mixedOrders = true) {n : FuncId} {fn : Func} (hf : P.funcs[n]? = some fn) {args : List AV} {objs : List AObj} (hok : fnOk H fn args.length = true) {c : Code} (hb : fn.body = some c)
    {LP : Loops (AV × List AObj)} (hL : LoopsGood P H objs.length LP c) {r : AV} {objs' : List AObj} (h : evFn E H LP fn args objs (finK objs.length) = some (r, objs')) : EffGood P n args objs r objs' := by
  unfold fnOk at hok
  simp only [Bool.and_eq_true] at hok
  obtain ⟨hnt, hle⟩ := hok
  have hnt := Nat.eq_of_beq_eq_true hnt
  have hle := Nat.le_of_ble_eq_true hle
  unfold evFn at h
  rw [hb] at h
  simp only at h
  obtain ⟨e, s', h, hC⟩ := ev_sound hE hg hm c hL _ _ _ h
  have key : ∃ vs, resultsOf E s' fn.results.toList = some vs ∧ finK objs.length (oneOr vs) s' = some (r, objs') ∧ (e.out = .normal ∨ e.out = .ret) := by
    cases e with
    | exit i => cases h
    | normal => obtain ⟨vs, h1, h2⟩ := bind_some h; exact ⟨vs, h1, h2, .inl rfl⟩
    | ret => obtain ⟨vs, h1, h2⟩ := bind_some h; exact ⟨vs, h1, h2, .inr rfl⟩
  obtain ⟨avs, hres, hfin, he⟩ := key
  intro own φ β w vs hV hW htop
  have hvl := hV.length
  refine calls_of_wp hf hb ?_
  have hrel : Rel H objs.length own φ β (initSt args objs) { tmps := vs.toArray ++ Array.replicate (fn.ntmps - vs.toArray.size) undef, defers := [] } w := by
    refine ⟨?_, rfl, fun x => ?_, ?_, fun l hl => ⟨?_, htop l hl⟩, Nat.le_refl _⟩
    · simp only [Array.size_append, List.size_toArray, Array.size_replicate]; omega
    · unfold slotAt initSt
      rw [lk_numbered]
      simp only [Nat.zero_le, if_true, Nat.sub_zero]
      cases ha : args[x]? with
      | none => simp [V]
      | some v =>
        obtain ⟨u, hu, hVu⟩ := hV.get ha
        simp only [Option.getD_some]
        have : (Act.eval { tmps := vs.toArray ++ Array.replicate (fn.ntmps - vs.toArray.size) undef, defers := [] } (.tmp x)) = u := by
          have hlt := (List.getElem?_eq_some_iff.1 hu).1
          simp only [Act.eval, Array.getD_eq_getD_getElem?]
          rw [Array.getElem?_append_left (by simpa using hlt)]
          simp [hu]
        rw [this]; exact hVu
    · have : getO (initSt args objs).objs = fun l => (objs[l]?).getD .dead := funext fun l => getO_numbered objs l
      rw [this]; exact hW
    · unfold initSt
      rw [getO_numbered]
      have : objs[l]? = none := by simpa [initSt] using hl
      rw [this]; rfl
  refine hC own φ β _ w hrel _ fun φ' β' a' w' hr hrun => ?_
  obtain ⟨us, g1, g2⟩ := results_sound hE hr _ _ hres
  have hrunR : (results fn a'.tmps).run P w' = .ok (if h : us.toArray.size = 1 then us.toArray[0] else .tuple us.toArray) w' := by
    rw [results_eq, Array.mapM_eq_mapM_toList]
    simp [g1]
  unfold finK at hfin
  obtain ⟨hc, hfin⟩ := cond_none hfin
  simp only [Bool.and_eq_true] at hc
  generalize reach (getO s'.objs) reachFuel (List.range objs.length ++ (oneOr avs).locs) [] = ls at hc hfin
  simp only [Option.some.injEq, Prod.mk.injEq] at hfin
  obtain ⟨rfl, rfl⟩ := hfin
  have hpost : a'.defers = [] ∧ ∃ v, (results fn a'.tmps).run P w' = .ok v w' ∧ ∃ u φ2 β2, Ending.returned v = .returned u ∧ Run objs.length own φ β w φ2 β2 w' ∧ V φ2 β2 w' ((oneOr avs).ren (idx ls 0)) u ∧
      WInv own φ2 β2 (fun l => ((ls.map fun l => (getO s'.objs l).ren (idx ls 0))[l]?).getD .dead) w' ∧ ∀ l, (ls.map fun l => (getO s'.objs l).ren (idx ls 0)).length ≤ l → β2 l = none := by
    refine ⟨hr.defers, _, hrunR, _, φ', subB ls β', rfl, ⟨hrun.keeps, fun l hl => ?_, hrun.grow, hrun.old⟩, V.ren subB_idx _ _ (oneOr_sound g2), ?_, fun l hl => ?_⟩
    · have := (startsNum_spec hc.2).2 l hl
      rw [Nat.zero_add] at this
      rw [← hrun.agree l hl]
      simp [subB, this]
    · have := hr.inv.sub hc.1
      have e2 : (fun l => ((ls.map fun l => (getO s'.objs l).ren (idx ls 0))[l]?).getD .dead) = getO (numbered 0 (ls.map fun l => (getO s'.objs l).ren (idx ls 0))) := funext fun l => (getO_numbered _ l).symm
      rw [e2]; exact this
    · have : ls[l]? = none := by simpa using hl
      simp [subB, this]
  rcases he with he | he <;> rw [he] <;> exact hpost

/-- A function that meets no objects. -/
theorem EffGood.pure {n : FuncId} {args : List AV} {r : AV} {objs' : List AObj} (h : EffGood P n args [] r objs') (hargs : closedL args = true) (hr : r.closed = true) (φ : Nat → Nat) (β : Beta) (w : World) (vs : List Value) (hV : VL φ β w args vs) (hφ : ∀ b, w.heap.size ≤ b → φ b = 0) (hL : LaidT P φ w) :
    Calls P n vs.toArray w fun e w' => ∃ v φ', e = .returned v ∧ Keeps φ w φ' w' ∧ w.heap.size ≤ w'.heap.size ∧ (∀ b, b < w.heap.size → w'.heap[b]? = w.heap[b]? ∧ φ' b = φ b) ∧
      (∀ b, w'.heap.size ≤ b → φ' b = 0) ∧ V φ' β w' r v := by
  refine (h (fun b => w.heap.size ≤ b) φ (fun _ => none) w vs (VL.closed _ _ _ hargs hV) ⟨fun l => by simp [ObjRel], fun l p hl => by simp at hl, fun l m p q _ hl => by simp at hl, fun b hb => ⟨hb, hφ b hb⟩, hL⟩ (fun _ _ => rfl)).mono fun e w' ⟨v, φ', β', he, hrun, hVr, hWI, _⟩ => ?_
  exact ⟨v, φ', he, hrun.keeps, hrun.grow, fun b hb => hrun.old b hb (by omega), fun b hb => (hWI.fresh b hb).2, V.closed _ _ _ hr hVr⟩
end
end Go.Sim
