/-
  SimF: further operations that leave the world alone.
-/
import Derived.Test.YtpkjlefincabiaaDoorSimE
namespace Go.Sim
set_option linter.unusedSectionVars false
set_option linter.unusedSimpArgs false
set_option linter.unusedVariables false
section
variable {P : Program} [Tabs P] {o : Oper} {get : Nat → AObj} {nx : Nat} {ρ : Operand → AV}

theorem good_nilCheck {x : Operand} (ho : o.op = .nilCheck x) (hx : (∃ l e j, ρ x = .ptr l e j) ∨ ∃ cs, ρ x = .eptr cs) : OpGood P o get nx ρ (ρ x) [] [] nx :=
  .pure fun own get' φ β w ρv _ hv _ => by
    have h1 := hv x (by simp [ho, Op.operands])
    have hp : ∃ a, ρv x = .pointer (some a) := by
      rcases hx with ⟨l, e, j, hx⟩ | ⟨cs, hx⟩
      · rw [hx] at h1; simp only [V] at h1; obtain ⟨p, _, hv1, _⟩ := h1; exact ⟨_, hv1⟩
      · rw [hx] at h1; simp only [V] at h1; obtain ⟨a, _, hv1, _⟩ := h1; exact ⟨_, hv1⟩
    obtain ⟨a, ha⟩ := hp
    exact ⟨ρv x, by simp [execOp, ho, ha], h1⟩

theorem good_binOp {op : BinOp} {t t' : TypeId} {x y : Operand} (ho : o.op = .binOp op t x y t') {v : AV}
    (h : ∀ φ β (w : World) t x' y' u1 u2, V φ β w (ρ x) u1 → V φ β w (ρ y) u2 → ∃ u, (do eqGuard op t x' y' u1 u2; binOp op t u1 u2).run P w = .ok u w ∧ V φ β w v u) : OpGood P o get nx ρ v [] [] nx :=
  .pure fun own get' φ β w ρv _ hv _ => by
    obtain ⟨u, hu, hV⟩ := h φ β w t x y (ρv x) (ρv y) (hv x (by simp [ho, Op.operands])) (hv y (by simp [ho, Op.operands]))
    refine ⟨u, ?_, hV⟩
    simp only [execOp, ho]
    rw [Sem.run_bind, hu]
    simp

theorem good_binOp_at {op : BinOp} {t t' : TypeId} {x y : Operand} (ho : o.op = .binOp op t x y t') {v : AV}
    (h : ∀ φ β (w : World) u1 u2, V φ β w (ρ x) u1 → V φ β w (ρ y) u2 → ∃ u, (do eqGuard op t x y u1 u2; binOp op t u1 u2).run P w = .ok u w ∧ V φ β w v u) : OpGood P o get nx ρ v [] [] nx :=
  .pure fun own get' φ β w ρv _ hv _ => by
    obtain ⟨u, hu, hV⟩ := h φ β w (ρv x) (ρv y) (hv x (by simp [ho, Op.operands])) (hv y (by simp [ho, Op.operands]))
    refine ⟨u, ?_, hV⟩
    simp only [execOp, ho]
    rw [Sem.run_bind, hu]
    simp

/-- '==' of two lists of plain cells. -/
theorem run_eqFields_cells (w : World) (φ : Nat → Nat) (β : Beta) (d : Nat) (us vs : List Value) : ∀ (fs : List Field) (ts : List Ty) (cs ds : List AV) (k : Nat) (q : Bool),
    EqFieldsOK P k fs ts → VL φ β w cs (us.drop k) → VL φ β w ds (vs.drop k) → eqCells ts cs ds = some q →
    (Op.eqFields (d + 1) us.toArray vs.toArray fs).run P w = .ok q w := by
  intro fs
  induction fs with
  | nil =>
    intro ts cs ds k q hf h1 h2 he
    cases ts with
    | cons y ys => exact hf.elim
    | nil =>
      match cs, ds, he with
      | [], [], he => simp [eqCells] at he; subst he; simp [Op.eqFields]
  | cons f fs ih =>
    intro ts cs ds k q hf h1 h2 he
    cases ts with
    | nil => exact hf.elim
    | cons y ys =>
    obtain ⟨hn, hoff, hty, hrestf⟩ := hf
    have key : ∀ (c e : AV) (cs' ds' : List AV) (r q' : Bool), VL φ β w (c :: cs') (us.drop k) → VL φ β w (e :: ds') (vs.drop k) → eqCells ys cs' ds' = some q' →
        (∀ u v, V φ β w c u → V φ β w e v → (Op.equalIn (d + 1) f.type u v).run P w = .ok r w) → (Go.isAgg f.type).run P w = .ok false w → q = (r && q') →
        (Op.eqFields (d + 1) us.toArray vs.toArray (f :: fs)).run P w = .ok q w := by
      intro c e cs' ds' r q' h1 h2 hq' heq hagg hq
      simp only [VL] at h1 h2
      obtain ⟨u, us', hu, hcu, hcs⟩ := h1
      obtain ⟨v, vs', hv, hev, hds⟩ := h2
      have hget : us[k]? = some u := by have := congrArg (·[0]?) hu; simpa using this
      have hget' : vs[k]? = some v := by have := congrArg (·[0]?) hv; simpa using this
      have hus : us.drop (k + 1) = us' := by have := congrArg List.tail hu; simpa using this
      have hvs : vs.drop (k + 1) = vs' := by have := congrArg List.tail hv; simpa using this
      have hpa : (part f.type us.toArray f.offset).run P w = .ok u w := by simp [part, hagg, hoff, hget]
      have hpb : (part f.type vs.toArray f.offset).run P w = .ok v w := by simp [part, hagg, hoff, hget']
      have hrest := ih ys cs' ds' (k + 1) q' hrestf (by rw [hus]; exact hcs) (by rw [hvs]; exact hds) hq'
      subst hq
      simp only [Op.eqFields, if_pos hn, Sem.run_bind, hpa, hpb, heq u v hcu hev, Result.andThen_ok]
      cases r
      · simp
      · simpa using hrest
    cases y with
    | bool =>
      match cs, ds, he with
      | .bool a :: cs', .bool b :: ds', he =>
        obtain ⟨q', hq', he⟩ := Option.bind_eq_some_iff.1 he
        simp at he
        refine key _ _ cs' ds' (a == b) q' h1 h2 hq' (fun u v hu hv => ?_) (by unfold Go.isAgg; simp [run_underlying hty]) he.symm
        rw [hu.bool_inv, hv.bool_inv]
        exact run_equalIn_bool' w d f.type a b hty
    | int n =>
      match cs, ds, he with
      | .int k1 a :: cs', .int k2 b :: ds', he =>
        simp only [eqCells] at he
        by_cases hk : k1 = n ∧ k2 = n
        · obtain ⟨rfl, rfl⟩ := hk
          simp only [decide_true, Bool.and_self, cond_true] at he
          obtain ⟨q', hq', he⟩ := Option.bind_eq_some_iff.1 he
          simp at he
          refine key _ _ cs' ds' (a == b) q' h1 h2 hq' (fun u v hu hv => ?_) (by unfold Go.isAgg; simp [run_underlying hty]) he.symm
          rw [hu.int_inv, hv.int_inv]
          exact run_equalIn_int w d f.type _ _ a b hty
        · have : (decide (k1 = n) && decide (k2 = n)) = false := by simp; intro h1 h2; exact hk ⟨h1, h2⟩
          simp [this] at he
    | str =>
      match cs, ds, he with
      | .str a :: cs', .str b :: ds', he =>
        obtain ⟨q', hq', he⟩ := Option.bind_eq_some_iff.1 he
        simp at he
        refine key _ _ cs' ds' (a == b) q' h1 h2 hq' (fun u v hu hv => ?_) (by unfold Go.isAgg; simp [run_underlying hty]) he.symm
        rw [hu.str_inv, hv.str_inv, run_equalIn_string w d f.type _ _ hty, toList_mk, toList_mk]
    | sl e => exact hty.elim
    | pair a b => exact hty.elim

theorem eq_agg {E : Env} (hE : EnvOK P E) {op : BinOp} {t : TypeId} {rw_ : TRow} (hr : E.row t = some rw_) {fs : List (Nat × Nat)} {k : Ty} {ks : List Ty} (hk : rw_.kind = .struct fs (k :: ks))
    {cs ds : List AV} {q : Bool} (he : eqCells (k :: ks) cs ds = some q) (hop : op = .eql ∨ op = .neq) {φ : Nat → Nat} {β : Beta} {w : World} {x y : Operand} {u1 u2 : Value} (h1 : V φ β w (.agg cs) u1) (h2 : V φ β w (.agg ds) u2) :
    ∃ u, (do eqGuard op t x y u1 u2; binOp op t u1 u2).run P w = .ok u w ∧ V φ β w (.bool (if op = .eql then q else !q)) u := by
  have hR := (hE.row t rw_ hr).kind
  rw [hk] at hR
  obtain ⟨fields, hu, _, _, hq⟩ := hR
  obtain ⟨hst, hg, hf⟩ := hq (by simp)
  simp only [V] at h1 h2
  obtain ⟨us, rfl, hus⟩ := h1
  obtain ⟨vs, rfl, hvs⟩ := h2
  have hfo : P.fieldsOf t = fields := by simp [Program.fieldsOf, hu]
  have hguard := run_eqGuard_agg (P := P) w op t x y us.toArray vs.toArray hg
  have hrun := run_eqFields_cells (P := P) w φ β 9998 us vs fields.toList (k :: ks) cs ds 0 q hf (by simpa using hus) (by simpa using hvs) he
  have heq := run_equalIn_struct (P := P) w 9999 t us.toArray vs.toArray (by rw [hfo]; exact hu) hst
  rw [hfo] at heq
  have hfin : (Op.equalIn 10000 t (.agg us.toArray) (.agg vs.toArray)).run P w = .ok q w := by rw [heq]; exact hrun
  rcases hop with rfl | rfl
  · refine ⟨.bool q, ?_, by simp [V]⟩
    rw [Sem.run_bind, hguard, Result.andThen_ok, run_eql_struct, hfin]
    rfl
  · refine ⟨.bool (!q), ?_, by simp [V]⟩
    rw [Sem.run_bind, hguard, Result.andThen_ok, run_neq_struct, hfin]
    rfl

theorem eq_bool {E : Env} (hE : EnvOK P E) {op : BinOp} {t : TypeId} {rw_ : TRow} (hr : E.row t = some rw_) (hk : rw_.kind = .bool) {a b : Bool} (hop : op = .eql ∨ op = .neq) {φ : Nat → Nat} {β : Beta} {w : World} {x y : Operand} {u1 u2 : Value} (h1 : V φ β w (.bool a) u1) (h2 : V φ β w (.bool b) u2) :
    ∃ u, (do eqGuard op t x y u1 u2; binOp op t u1 u2).run P w = .ok u w ∧ V φ β w (.bool (if op = .eql then (a == b) else !(a == b))) u := by
  have hu := (hE.row t rw_ hr).bool_kind hk
  rw [h1.bool_inv, h2.bool_inv]
  have he : (Op.equalIn 10000 t (.bool a) (.bool b)).run P w = .ok (a == b) w := run_equalIn_bool' w 9999 t a b hu
  rcases hop with rfl | rfl
  · exact ⟨.bool (a == b), by simp [eqGuard, binOp, Op.equal, Op.maxDepth, he], by simp [V]⟩
  · exact ⟨.bool (!(a == b)), by simp [eqGuard, binOp, Op.equal, Op.maxDepth, he], by simp [V]⟩

theorem run_equalIn_ptr (w : World) (d : Nat) {t e : TypeId} (hu : P.underlying t = some (.pointer e)) {A B : Option Addr} (hAB : A = none ∨ B = none) :
    (Op.equalIn (d + 1) t (.pointer A) (.pointer B)).run P w = .ok (A.isNone && B.isNone) w := by
  rcases hAB with rfl | rfl
  · simp [Op.equalIn, run_underlying hu]
  · cases A <;> simp [Op.equalIn, run_underlying hu]
theorem eq_ptr {E : Env} (hE : EnvOK P E) {op : BinOp} {t e : TypeId} {rw_ : TRow} (hr : E.row t = some rw_) (hk : rw_.kind = .ptr e) {w : World} {x y : Operand} {A B : Option Addr} (hAB : A = none ∨ B = none) (hop : op = .eql ∨ op = .neq) :
    (do eqGuard op t x y (.pointer A) (.pointer B); binOp op t (.pointer A) (.pointer B)).run P w = .ok (.bool (if op = .eql then (A.isNone && B.isNone) else !(A.isNone && B.isNone))) w := by
  have hu := (hE.row t rw_ hr).ptr_kind hk
  have he : (Op.equalIn 10000 t (.pointer A) (.pointer B)).run P w = .ok (A.isNone && B.isNone) w := run_equalIn_ptr w 9999 hu hAB
  rcases hop with rfl | rfl
  · have hb : binOp .eql t (.pointer A) (.pointer B) = (do pure (.bool (← Op.equalIn 10000 t (.pointer A) (.pointer B)))) := by cases A <;> cases B <;> rfl
    rw [hb]
    generalize Op.equalIn 10000 t (.pointer A) (.pointer B) = s at he
    simp [eqGuard, he]
  · have hb : binOp .neq t (.pointer A) (.pointer B) = (do pure (.bool (!(← Op.equalIn 10000 t (.pointer A) (.pointer B))))) := by cases A <;> cases B <;> rfl
    rw [hb]
    generalize Op.equalIn 10000 t (.pointer A) (.pointer B) = s at he
    simp [eqGuard, he]
end
end Go.Sim
