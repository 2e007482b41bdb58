/-
  SimPb: calls of functions whose contract is known.
-/
import Derived.Test.YtpkjlefincabiaaDoorSimPa
namespace Go.Sim
set_option linter.unusedSectionVars false
set_option linter.unusedSimpArgs false
set_option linter.unusedVariables false
section
variable {P : Program} [Tabs P] {o : Oper} {get : Nat → AObj} {nx : Nat} {ρ : Operand → AV}

theorem pickK_sound {R α : Type} {K : α → Option R} {r : R} : ∀ {l : List (Bool × α)}, pickK K l = some r → ∃ v, pick l = some v ∧ K v = some r
  | [], h => by cases h
  | (c, v) :: l, h => by
    simp only [pickK] at h
    simp only [pick]
    cases c with
    | true => exact ⟨v, rfl, h⟩
    | false => exact pickK_sound h

theorem enter_run {c : Call} {f : Operand} {n : FuncId} (ho : o.op = .call c) (hc : c.callee = .value f) {ρv : Operand → Value} {us vs : List Value} (hfv : ρv f = .func (.func n) us.toArray vs.toArray) (hcal : Called P n) (w : World) :
    (execOp ρv o).run P w = .ok (.enter n (us ++ c.args.toList.map ρv ++ vs).toArray) w := by
  obtain ⟨fn, hfn, hname, hbody⟩ := hcal
  have hname' : ¬ fn.name = "runtime.NumGoroutine" := by simpa using hname
  have hbody' : ¬ fn.body = none := by intro e; rw [e] at hbody; cases hbody
  simp [execOp, ho, resolve, hc, hfv, Deferred.ofValue, invoke, callFunc, hfn, hname', hbody']

theorem call_vals {c : Call} {f : Operand} {n : FuncId} (ho : o.op = .call c) (hc : c.callee = .value f) {first cap : List AV} (hf : ρ f = .fn (.func n) first cap) {φ : Nat → Nat} {β : Beta} {w : World} {ρv : Operand → Value}
    (hvs : ∀ x, x ∈ o.op.operands.toList → V φ β w (ρ x) (ρv x)) : ∃ us vs : List Value, ρv f = .func (.func n) us.toArray vs.toArray ∧ VL φ β w (first ++ c.args.toList.map ρ ++ cap) (us ++ c.args.toList.map ρv ++ vs) := by
  have hF := hvs f (by simp [ho, Op.operands, Call.operands, hc])
  rw [hf] at hF
  simp only [V] at hF
  obtain ⟨us, vs, hfv, h1, h2⟩ := hF
  exact ⟨us, vs, hfv, (h1.append (call_args ho hvs)).append h2⟩

theorem good_call {E : Env} (hE : EnvOK P E) {c : Call} {f : Operand} {n : FuncId} (ho : o.op = .call c) (hc : c.callee = .value f) {first cap : List AV} (hf : ρ f = .fn (.func n) first cap) {G : List AV → List (Bool × AV)} (hcon : E.con n = .pure G) {r : AV}
    (hr : pick (G (first ++ c.args.toList.map ρ ++ cap)) = some r) (hcl : closedL (first ++ c.args.toList.map ρ ++ cap) = true) (hrc : r.closed = true) : OpGood P o get nx ρ r [] [] nx := by
  refine ⟨Nat.le_refl _, fun own get' φ β w ρv hget _ hvs hW => ?_⟩
  obtain ⟨us, vs, hfv, hall⟩ := call_vals ho hc hf hvs
  have hcn := hE.con n
  rw [hcon] at hcn
  obtain ⟨hP, hcal⟩ := hcn
  have hcl := hP _ _ hr hcl hrc φ β w _ hall (fun b hb => (hW.fresh b hb).2) hW.laid
  unfold Does
  rw [enter_run ho hc hfv hcal]
  refine hcl.mono fun e w' ⟨v, φ', he, hk, hg, hold, hfr, hV⟩ => ⟨v, he, φ', β, ⟨hk, .refl _, fun _ _ => rfl, hg, fun b hb _ => hold b hb⟩, hV, ?_⟩
  rw [upd_nil]
  refine ⟨fun m => ?_, fun m p hm hp => ?_, fun m k p q hmk hm hk' hp hq => hW.dist m k p q hmk hm hk' hp hq, fun b hb => ⟨(hW.fresh b (by omega)).1, hfr b hb⟩, hW.laid.keep hk⟩
  · by_cases hd : get' m = .dead
    · rw [hd]; trivial
    · exact (hW.rel m).keep hk (.refl _) (fun p hp => hold _ (hW.mine m p hd hp).2)
  · have := hW.mine m p hm hp
    exact ⟨this.1, by omega⟩

theorem allBelow_spec : ∀ {l : List Nat} {n : Nat}, allBelow l n = true → ∀ x ∈ l, x < n
  | [], _, _, x, hx => by cases hx
  | a :: r, n, h, x, hx => by
    simp only [allBelow, Bool.and_eq_true, Nat.blt_eq] at h
    rcases List.mem_cons.1 hx with rfl | hx
    · exact h.1
    · exact allBelow_spec h.2 x hx
theorem backI_spec {ls : List Nat} {nx n i m : Nat} (h : backI ls nx n i = some m) : (i < ls.length ∧ ls[i]? = some m) ∨ (ls.length ≤ i ∧ i < n ∧ m = nx + (i - ls.length)) := by
  unfold backI at h
  cases hb : Nat.blt i ls.length with
  | true => rw [hb] at h; exact .inl ⟨by simpa [Nat.blt_eq] using hb, h⟩
  | false =>
    rw [hb] at h
    have hge : ls.length ≤ i := by
      have : ¬ i < ls.length := fun h => by rw [← Nat.blt_eq] at h; rw [hb] at h; cases h
      omega
    simp only [cond_false] at h
    obtain ⟨h1, h2⟩ := cond_none h
    exact .inr ⟨hge, by simpa [Nat.blt_eq] using h1, by simpa using h2.symm⟩
theorem backI_lt {ls : List Nat} {nx n i : Nat} (h : i < ls.length) : backI ls nx n i = ls[i]? := by
  unfold backI
  have : Nat.blt i ls.length = true := by simpa [Nat.blt_eq] using h
  rw [this]; rfl
theorem backI_ge {ls : List Nat} {nx n i : Nat} (h : ls.length ≤ i) (h' : i < n) : backI ls nx n i = some (nx + (i - ls.length)) := by
  unfold backI
  have e1 : Nat.blt i ls.length = false := by
    cases hb : Nat.blt i ls.length with
    | false => rfl
    | true => rw [Nat.blt_eq] at hb; omega
  have e2 : Nat.blt i n = true := by simpa [Nat.blt_eq] using h'
  rw [e1, e2]; rfl

theorem patch_lk {ls : List Nat} {nx : Nat} {objs : List AObj} (hinj : ∀ i j m, backI ls nx objs.length i = some m → backI ls nx objs.length j = some m → i = j) (m : Nat) :
    (∃ i ob, backI ls nx objs.length i = some m ∧ objs[i]? = some ob ∧ lk? (patch ls nx objs) m = some (ob.ren (backI ls nx objs.length))) ∨
    ((∀ i, i < objs.length → backI ls nx objs.length i ≠ some m) ∧ lk? (patch ls nx objs) m = none) := by
  unfold patch
  have key : ∀ (is : List Nat), (∀ i ∈ is, i < objs.length) → (∃ i ob, backI ls nx objs.length i = some m ∧ objs[i]? = some ob ∧ lk? (is.filterMap fun i => (backI ls nx objs.length i).bind fun m => (objs[i]?).map fun o => (m, o.ren (backI ls nx objs.length))) m = some (ob.ren (backI ls nx objs.length))) ∨
      ((∀ i ∈ is, backI ls nx objs.length i ≠ some m) ∧ lk? (is.filterMap fun i => (backI ls nx objs.length i).bind fun m => (objs[i]?).map fun o => (m, o.ren (backI ls nx objs.length))) m = none) := by
    intro is
    induction is with
    | nil => intro _; exact .inr ⟨by simp, rfl⟩
    | cons i is ih =>
      intro hlt
      obtain ⟨ob, hob⟩ : ∃ ob, objs[i]? = some ob := ⟨objs[i]'(hlt i (by simp)), List.getElem?_eq_getElem _⟩
      have ih := ih fun j hj => hlt j (List.mem_cons_of_mem _ hj)
      simp only [List.filterMap_cons, hob, Option.map_some]
      cases hb : backI ls nx objs.length i with
      | none =>
        simp only [Option.bind_none]
        rcases ih with h | ⟨h1, h2⟩
        · exact .inl h
        · exact .inr ⟨fun j hj => by
            rcases List.mem_cons.1 hj with rfl | hj
            · rw [hb]; simp
            · exact h1 j hj, h2⟩
      | some k =>
        simp only [Option.bind_some, lk?]
        cases hk : Nat.beq k m with
        | true =>
          have := Nat.eq_of_beq_eq_true hk
          subst this
          exact .inl ⟨i, ob, hb, hob, rfl⟩
        | false =>
          simp only [cond_false]
          have hne : k ≠ m := fun h => by subst h; simp [Nat.beq_refl] at hk
          rcases ih with h | ⟨h1, h2⟩
          · exact .inl h
          · exact .inr ⟨fun j hj => by
              rcases List.mem_cons.1 hj with rfl | hj
              · rw [hb]; simpa using hne
              · exact h1 j hj, h2⟩
  rcases key (List.range objs.length) (fun i hi => List.mem_range.1 hi) with h | ⟨h1, h2⟩
  · exact .inl h
  · exact .inr ⟨fun i hi => h1 i (List.mem_range.2 hi), h2⟩

theorem good_call_eff {E : Env} (hE : EnvOK P E) {c : Call} {f : Operand} {n : FuncId} (ho : o.op = .call c) (hc : c.callee = .value f) {first cap : List AV} (hf : ρ f = .fn (.func n) first cap) {F : List AV → List AObj → List (Bool × AV × List AObj)} (hcon : E.con n = .eff F)
    {ls : List Nat} (hn : nodupB ls = true) (hb : allBelow ls nx = true) {r : AV} {objs' : List AObj} (hr : pick (F (renL (idx ls 0) (first ++ c.args.toList.map ρ ++ cap)) (ls.map fun l => (get l).ren (idx ls 0))) = some (r, objs')) (hlen : ls.length ≤ objs'.length) :
    OpGood P o get nx ρ (r.ren (backI ls nx objs'.length)) (patch ls nx objs') ls (nx + (objs'.length - ls.length)) := by
  refine ⟨by omega, fun own get' φ β w ρv hget hfr hvs hW => ?_⟩
  obtain ⟨us, vs, hfv, hall⟩ := call_vals ho hc hf hvs
  have hcn := hE.con n
  rw [hcon] at hcn
  obtain ⟨hP, hcal⟩ := hcn
  have hbel := allBelow_spec hb
  have hcl := hP _ _ _ _ hr (by simpa using hlen)
  -- what the call may touch
  let ownS : Own P := fun b => (∃ l p, l ∈ ls ∧ get l ≠ .dead ∧ β l = some (some p) ∧ p.block = b) ∨ w.heap.size ≤ b
  have hgl : ∀ l, l ∈ ls → get' l = get l := hget
  have hmapeq : (ls.map fun l => (get l).ren (idx ls 0)) = ls.map fun l => (get' l).ren (idx ls 0) := List.map_congr_left fun l hl => by rw [hgl l hl]
  have hsub := hW.sub hn
  have hgetS : (fun l => ((ls.map fun l => (get l).ren (idx ls 0))[l]?).getD .dead) = getO (numbered 0 (ls.map fun l => (get' l).ren (idx ls 0))) := by
    funext m; rw [getO_numbered, hmapeq]
  have hWS : WInv ownS φ (subB ls β) (fun l => ((ls.map fun l => (get l).ren (idx ls 0))[l]?).getD .dead) w := by
    rw [hgetS]
    refine ⟨hsub.rel, fun m p hm hp => ⟨?_, (hsub.mine m p hm hp).2⟩, hsub.dist, fun b hb => ⟨.inr hb, (hW.fresh b hb).2⟩, hsub.laid⟩
    rw [getO_numbered] at hm
    simp only [List.getElem?_map] at hm
    cases hl : ls[m]? with
    | none => rw [hl] at hm; exact absurd rfl hm
    | some l =>
      rw [hl] at hm
      have hmem := List.mem_of_getElem? hl
      refine .inl ⟨l, p, hmem, fun h => hm ?_, by simpa [subB, hl] using hp, rfl⟩
      simp [hgl l hmem, h, AObj.ren]
  have hcl := hcl ownS φ (subB ls β) w _ (VL.ren subB_idx _ _ hall) hWS (fun l hl => by
    have : ls[l]? = none := by simp at hl ⊢; exact hl
    simp [subB, this])
  unfold Does
  rw [enter_run ho hc hfv hcal]
  refine hcl.mono fun e w' ⟨u, φ', βs, he, hrun, hV, hWI, htop⟩ => ?_
  have hinj : ∀ i j m, backI ls nx objs'.length i = some m → backI ls nx objs'.length j = some m → i = j := fun i j m h1 h2 => by
    rcases backI_spec h1 with ⟨a1, a2⟩ | ⟨a1, a2, a3⟩ <;> rcases backI_spec h2 with ⟨b1, b2⟩ | ⟨b1, b2, b3⟩
    · exact nodupB_spec hn i j m a2 b2
    · have := hbel m (List.mem_of_getElem? a2); omega
    · have := hbel m (List.mem_of_getElem? b2); omega
    · omega
  let β' : Beta := fun l => if nx ≤ l ∧ l < nx + (objs'.length - ls.length) then βs (ls.length + (l - nx)) else β l
  have hβ' : ∀ i m, backI ls nx objs'.length i = some m → β' m = βs i := fun i m h => by
    show (if _ then _ else _) = _
    rcases backI_spec h with ⟨a1, a2⟩ | ⟨a1, a2, a3⟩
    · have := hbel m (List.mem_of_getElem? a2)
      rw [if_neg (by omega), hrun.agree i (by simpa using a1)]
      simp [subB, a2]
    · rw [if_pos (by omega)]; congr 1; omega
  have hext : Ext β β' := fun l x hx => by
    show (if _ then _ else _) = _
    by_cases hl : nx ≤ l ∧ l < nx + (objs'.length - ls.length)
    · have := (hfr l hl.1 hl.2).2; rw [this] at hx; cases hx
    · rw [if_neg hl]; exact hx
  have hsubown : ∀ b, ownS b → own b ∨ w.heap.size ≤ b := fun b hb => by
    rcases hb with ⟨l, p, h1, h2, h3, rfl⟩ | hb
    · exact .inl (hW.mine l p (by rw [hgl l h1]; exact h2) h3).1
    · exact .inr hb
  have hown : ∀ b, ownS b → own b := fun b hb => (hsubown b hb).elim id fun h => (hW.fresh b h).1
  have hup : ∀ m, (∃ i ob, backI ls nx objs'.length i = some m ∧ objs'[i]? = some ob ∧ upd (patch ls nx objs') get' m = ob.ren (backI ls nx objs'.length)) ∨ ((∀ i, i < objs'.length → backI ls nx objs'.length i ≠ some m) ∧ m ∉ ls ∧ upd (patch ls nx objs') get' m = get' m) := fun m => by
    rcases patch_lk (objs := objs') hinj m with ⟨i, ob, h1, h2, h3⟩ | ⟨h1, h2⟩
    · exact .inl ⟨i, ob, h1, h2, by simp [upd, h3]⟩
    · refine .inr ⟨h1, fun hm => ?_, by simp [upd, h2]⟩
      obtain ⟨i, hi⟩ := List.getElem?_of_mem hm
      have hlt := (List.getElem?_eq_some_iff.1 hi).1
      exact h1 i (by omega) (by rw [backI_lt hlt]; exact hi)
  -- blocks of objects that the call did not meet
  have hapart : ∀ m p, m ∉ ls → get' m ≠ .dead → β m = some (some p) → ¬ ownS p.block ∧ p.block < w.heap.size := fun m p hm hd hp => by
    have h1 := hW.mine m p hd hp
    refine ⟨fun ho => ?_, h1.2⟩
    rcases ho with ⟨l, q, h2, h3, h4, h5⟩ | ho
    · exact hW.dist l m q p (fun h => hm (h ▸ h2)) (by rw [hgl l h2]; exact h3) hd h4 hp h5
    · omega
  refine ⟨u, he, φ', β', ⟨hrun.keeps, hext, fun l hl => if_neg hl, hrun.grow, fun b hb ho => hrun.old b hb fun h => ho (hown b h)⟩, V.ren hβ' _ _ hV, ?_⟩
  have hold : ∀ m p, m ∉ ls → get' m ≠ .dead → β' m = some (some p) → (∀ i, i < objs'.length → backI ls nx objs'.length i ≠ some m) → β m = some (some p) := fun m p hm hd hp hno => by
    have : ¬ (nx ≤ m ∧ m < nx + (objs'.length - ls.length)) := fun h => by
      have := (hfr m h.1 h.2).1
      exact hd this
    have e : β' m = β m := if_neg this
    rw [← e]; exact hp
  have liveS : ∀ (i : Nat) (ob : AObj), objs'[i]? = some ob → ob.ren (backI ls nx objs'.length) ≠ .dead → (objs'[i]?).getD .dead ≠ .dead := fun i ob h1 h2 h3 => by
    rw [h1] at h3
    simp at h3
    subst h3
    exact h2 rfl
  refine ⟨fun m => ?_, fun m p hm hp => ?_, fun m k p q hmk hm hk hp hq => ?_, fun b hb => ⟨(hW.fresh b (Nat.le_trans hrun.grow hb)).1, (hWI.fresh b hb).2⟩, hWI.laid⟩
  · rcases hup m with ⟨i, ob, h1, h2, h3⟩ | ⟨h1, h2, h3⟩
    · rw [h3]
      have := hWI.rel i
      rw [h2] at this
      exact ObjRel.ren hβ' (hβ' i m h1) this
    · rw [h3]
      by_cases hd : get' m = .dead
      · rw [hd]; trivial
      · exact (hW.rel m).keep hrun.keeps hext fun p hp => by
          have := hapart m p h2 hd hp
          exact hrun.old _ this.2 this.1
  · rcases hup m with ⟨i, ob, h1, h2, h3⟩ | ⟨h1, h2, h3⟩
    · rw [h3] at hm
      have := hWI.mine i p (liveS i ob h2 hm) (by rw [← hβ' i m h1]; exact hp)
      exact ⟨hown _ this.1, this.2⟩
    · rw [h3] at hm
      have := hW.mine m p hm (hold m p h2 hm hp h1)
      exact ⟨this.1, Nat.lt_of_lt_of_le this.2 hrun.grow⟩
  · rcases hup m with ⟨i, ob, h1, h2, h3⟩ | ⟨h1, h2, h3⟩ <;> rcases hup k with ⟨j, ob', g1, g2, g3⟩ | ⟨g1, g2, g3⟩
    · rw [h3] at hm
      rw [g3] at hk
      exact hWI.dist i j p q (fun h => hmk (by subst h; rw [h1] at g1; cases g1; rfl)) (liveS i ob h2 hm) (liveS j ob' g2 hk) (by rw [← hβ' i m h1]; exact hp) (by rw [← hβ' j k g1]; exact hq)
    · rw [h3] at hm
      rw [g3] at hk
      have a := (hWI.mine i p (liveS i ob h2 hm) (by rw [← hβ' i m h1]; exact hp)).1
      have b := (hapart k q g2 hk (hold k q g2 hk hq g1)).1
      exact fun h => b (h ▸ a)
    · rw [h3] at hm
      rw [g3] at hk
      have a := (hWI.mine j q (liveS j ob' g2 hk) (by rw [← hβ' j k g1]; exact hq)).1
      have b := (hapart m p h2 hm (hold m p h2 hm hp h1)).1
      exact fun h => b (h ▸ a)
    · rw [h3] at hm
      rw [g3] at hk
      exact hW.dist m k p q hmk hm hk (hold m p h2 hm hp h1) (hold k q g2 hk hq g1)
end
end Go.Sim
