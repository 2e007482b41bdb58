/-
  SimI: rows cut with three bounds, lengths, the smaller and the greater, maps that are read, assertions, structs that are built.
-/
import Derived.Test.YtpkjlefincabiaaDoorSimH
namespace Go.Sim
set_option linter.unusedSectionVars false
set_option linter.unusedSimpArgs false
set_option linter.unusedVariables false
section
variable {P : Program} [Tabs P] {o : Oper} {get : Nat → AObj} {nx : Nat} {ρ : Operand → AV}

theorem lit_int {φ : Nat → Nat} {β : Beta} {w : World} {k : IntKind} {n : Int} {lo : Option Operand} {ρv : Operand → Value} {x : AV} (h : (∀ x, lo.map ρ = some x → ∃ v, lo.map ρv = some v ∧ V φ β w x v)) (he : lo.map ρ = some (.int k n)) : lo.map ρv = some (.int k n) := by
  obtain ⟨v, hv, hV⟩ := h _ he
  rw [hv, hV.int_inv]

/-- s[:0:0]. -/
theorem good_slice3_zero {E : Env} (hE : EnvOK P E) {t e : TypeId} {x : Operand} {hi mx : Option Operand} {rw_ re : TRow} (ho : o.op = .slice t x none hi mx) (hr : E.row t = some rw_) (hk : rw_.kind = .slice e) (hre : E.row e = some re)
    {k1 k2 : IntKind} (hhi : hi.map ρ = some (.int k1 0)) (hmx : mx.map ρ = some (.int k2 0)) {rd : List Nat} (hx : (∃ y xs, ρ x = .vl y xs) ∨ (∃ l, ρ x = .hw l) ∨ (∃ l a b, ρ x = .hs l a b) ∨ ρ x = .nils) : OpGood P o get nx ρ .nils [] rd nx :=
  .pure fun own get' φ β w ρv _ hvs _ => by
    have hX := hvs x (by simp [ho, Op.operands])
    have hu := (hE.row t rw_ hr).slice_kind hk
    have hs : ∃ A len cap, ρv x = .slice A len cap := by
      rcases hx with ⟨y, xs, hx⟩ | ⟨l, hx⟩ | ⟨l, a, b, hx⟩ | hx <;> rw [hx] at hX
      · simp only [V, Vt] at hX; obtain ⟨_, A, cap, h, _⟩ := hX; exact ⟨_, _, _, by simpa using h⟩
      · rcases hb : β l with _ | (_ | p) <;> simp only [V, hb] at hX
        · obtain ⟨A, h⟩ := hX; exact ⟨_, _, _, h⟩
        · obtain ⟨cap, h, _⟩ := hX; exact ⟨_, _, _, h⟩
      · rcases hb : β l with _ | (_ | p) <;> simp only [V, hb] at hX
        · exact hX.2.elim
        · obtain ⟨_, _, A, h⟩ := hX; exact ⟨_, _, _, h⟩
        · obtain ⟨_, A, cap, h, _⟩ := hX; exact ⟨_, _, _, h⟩
      · simp only [V] at hX; obtain ⟨A, h⟩ := hX; exact ⟨_, _, _, h⟩
    obtain ⟨A, len, cap, hv1⟩ := hs
    obtain ⟨l3, _⟩ := opt_map_V hvs (lo := hi) (by intro y hy; simp [ho, Op.operands, hy])
    obtain ⟨l5, _⟩ := opt_map_V hvs (lo := mx) (by intro y hy; simp [ho, Op.operands, hy])
    have e1 := lit_int (x := .undef) l3 hhi
    have e2 := lit_int (x := .undef) l5 hmx
    refine ⟨.slice A 0 0, ?_, by simp only [V]; exact ⟨_, rfl⟩⟩
    simp [execOp, ho, hv1, Instr.sliceAt, Instr.slice, run_underlying hu, e1, e2, Instr.sliceBounds, run_sliceBound, (hE.row e re hre).size]

/-- s[:n:n]. -/
theorem good_slice3_vl {E : Env} (hE : EnvOK P E) {t e : TypeId} {x : Operand} {hi mx : Option Operand} {rw_ re : TRow} (ho : o.op = .slice t x none hi mx) (hr : E.row t = some rw_) (hk : rw_.kind = .slice e) (hre : E.row e = some re)
    {k1 k2 : IntKind} {n : Int} (hhi : hi.map ρ = some (.int k1 n)) (hmx : mx.map ρ = some (.int k2 n)) {y : Ty} {xs : List y.den} (hx : ρ x = .vl y xs) (hsz : y.sz = re.size) (h0 : 0 ≤ n) (h1 : n ≤ xs.length) : OpGood P o get nx ρ (.vl y (xs.take n.toNat)) [] [] nx :=
  .pure fun own get' φ β w ρv _ hvs _ => by
    have hX := hvs x (by simp [ho, Op.operands])
    rw [hx] at hX
    simp only [V] at hX
    have hX' := hX
    simp only [Vt] at hX'
    obtain ⟨_, A, cap, hv1, hcap, _⟩ := hX'
    simp at hv1
    have hu := (hE.row t rw_ hr).slice_kind hk
    obtain ⟨l3, _⟩ := opt_map_V hvs (lo := hi) (by intro y hy; simp [ho, Op.operands, hy])
    obtain ⟨l5, _⟩ := opt_map_V hvs (lo := mx) (by intro y hy; simp [ho, Op.operands, hy])
    have e1 := lit_int (x := .undef) l3 hhi
    have e2 := lit_int (x := .undef) l5 hmx
    have hc : n ≤ (cap : Int) := by omega
    rw [hv1] at hX
    have hV := Vt_slice (ys := xs.take n.toNat) hX (l := 0) (n := n.toNat) (by omega) (by simp; omega) (fun i x hx => by
      rw [List.getElem?_take] at hx
      split at hx
      · simpa using hx
      · cases hx)
    have hrun : (execOp ρv o).run P w = .ok (.value (.slice (if n.toNat = 0 then A else A.map (·.add 0)) n.toNat n.toNat)) w := by
      simp [execOp, ho, hv1, Instr.sliceAt, Instr.slice, run_underlying hu, e1, e2, Instr.sliceBounds, run_sliceBound, (hE.row e re hre).size, h0, hc, Int.toNat_of_nonneg h0]
    refine ⟨_, hrun, ?_⟩
    simp only [V, Vt] at hV ⊢
    obtain ⟨hm, A', cap', hA, hle, hel⟩ := hV
    simp at hA
    obtain ⟨rfl, _, rfl⟩ := hA
    have hlen : (xs.take n.toNat).length = n.toNat := by simp; omega
    refine ⟨hm, _, n.toNat, by rw [hlen], by omega, fun i x hx => ?_⟩
    obtain ⟨a, ds, ha, hs, hd, hr⟩ := hel i x hx
    have hne : n.toNat ≠ 0 := by intro e; simp [e] at hx
    rw [if_neg hne]
    by_cases hcz : cap = 0
    · omega
    · rw [if_neg hcz] at ha
      exact ⟨a, ds, by simpa using ha, hs, hd, hr⟩

theorem run_builtin {c : Call} {b : Builtin} (hc : c.callee = .builtin b) (ho : o.op = .call c) (ρv : Operand → Value) :
    ∃ cs, execOp ρv o = builtin b c.argTypes o.type cs (c.args.map ρv) :=
  ⟨_, by simp only [execOp, ho, resolve, hc, invoke, bind, pure, Sem.bind]; rfl⟩

theorem call_args {c : Call} (ho : o.op = .call c) {φ : Nat → Nat} {β : Beta} {w : World} {ρv : Operand → Value} (hvs : ∀ x, x ∈ o.op.operands.toList → V φ β w (ρ x) (ρv x)) : VL φ β w (c.args.toList.map ρ) (c.args.toList.map ρv) :=
  VL.map _ fun x hx => hvs x (by simp [ho, Op.operands, Call.operands]; exact .inr (by simpa using hx))

theorem map_toList_eq {c : Call} {ρv : Operand → Value} {vs : List Value} (h : c.args.toList.map ρv = vs) : c.args.map ρv = vs.toArray := by
  apply Array.ext'; simpa using h

/-- len, of whatever has one. -/
theorem good_len {E : Env} (hE : EnvOK P E) {c : Call} {t : TypeId} {rw_ : TRow} (ho : o.op = .call c) (hc : c.callee = .builtin .len) (ht : c.argTypes[0]? = some t) (hr : E.row t = some rw_) {x : AV} (hx : c.args.toList.map ρ = [x]) {n : Nat} {rd : List Nat}
    (h : (∃ s, rw_.kind = .str ∧ x = .str s ∧ n = s.length) ∨ ((∃ e, rw_.kind = .slice e) ∧ ((∃ y xs, x = .vl y xs ∧ n = xs.length) ∨ (x = .nils ∧ n = 0) ∨ (∃ l a, x = .hs l a n) ∨
      (∃ l sz y xs tail, x = .hw l ∧ l ∈ rd ∧ get l = .arr sz y xs tail ∧ n = xs.length + tail.length))) ∨ ((∃ k e, rw_.kind = .map k e) ∧ ∃ l kt vt es, x = .mp l ∧ l ∈ rd ∧ get l = .map kt vt es ∧ n = es.length)) :
    OpGood P o get nx ρ (.int .i64 (n : Int)) [] rd nx :=
  .pure fun own get' φ β w ρv hget hvs hW => by
    have ha := call_args ho hvs
    rw [hx] at ha
    simp only [VL] at ha
    obtain ⟨u, us, hargs, hV, rfl⟩ := ha
    obtain ⟨cs, hrun⟩ := run_builtin hc ho ρv
    rw [map_toList_eq hargs] at hrun
    clear hargs
    have hn : n ≤ maxL := by
      rcases h with ⟨s, hk, rfl, rfl⟩ | ⟨⟨e, hk⟩, h⟩ | ⟨⟨k, e, hk⟩, l, kt, vt, es, rfl, hl, hg, rfl⟩
      · exact hV.2
      · rcases h with ⟨y, xs, rfl, rfl⟩ | ⟨rfl, rfl⟩ | ⟨l, a, rfl⟩ | ⟨l, sz, y, xs, tail, rfl, hl, hg, rfl⟩
        · simp only [V, Vt] at hV; exact hV.1
        · exact Nat.zero_le _
        · simp only [V] at hV; exact hV.1
        · have hrel := hW.rel l
          rw [hget l hl, hg] at hrel
          rcases hb : β l with _ | (_ | p) <;> simp only [V, hb] at hV <;> simp only [ObjRel, hb] at hrel
          · obtain ⟨rfl, rfl⟩ := hrel; exact Nat.zero_le _
          · rw [← hrel.2.2.1]; exact hrel.2.2.2.1
      · have hrel := hW.rel l
        rw [hget l hl, hg] at hrel
        simp only [ObjRel] at hrel
        exact hrel.1
    refine ⟨.int .i64 (n : Int), ?_, rfl, In.nat hn⟩
    rw [hrun]
    rcases h with ⟨s, hk, rfl, rfl⟩ | ⟨⟨e, hk⟩, h⟩ | ⟨⟨k, e, hk⟩, l, kt, vt, es, rfl, hl, hg, rfl⟩
    · have hu := (hE.row t rw_ hr).str_kind hk
      rw [hV.str_inv]
      have hsz : (⟨s.toArray⟩ : ByteArray).size = s.length := by simp [ByteArray.size]
      simp [builtin, Builtin.len_, ht, run_underlying hu, goInt, hsz]
    · have hu := (hE.row t rw_ hr).slice_kind hk
      have key : ∃ A cap, u = .slice A n cap := by
        rcases h with ⟨y, xs, rfl, rfl⟩ | ⟨rfl, rfl⟩ | ⟨l, a, rfl⟩ | ⟨l, sz, y, xs, tail, rfl, hl, hg, rfl⟩
        · simp only [V, Vt] at hV; obtain ⟨_, A, cap, h, _⟩ := hV; exact ⟨_, _, by simpa using h⟩
        · simp only [V] at hV; obtain ⟨A, h⟩ := hV; exact ⟨_, _, h⟩
        · rcases hb : β l with _ | (_ | p) <;> simp only [V, hb] at hV
          · exact hV.2.elim
          · obtain ⟨_, rfl, A, h⟩ := hV; exact ⟨_, _, h⟩
          · obtain ⟨_, A, cap, h, _⟩ := hV; exact ⟨_, _, h⟩
        · have hrel := hW.rel l
          rw [hget l hl, hg] at hrel
          rcases hb : β l with _ | (_ | p) <;> simp only [V, hb] at hV <;> simp only [ObjRel, hb] at hrel
          · obtain ⟨rfl, rfl⟩ := hrel
            obtain ⟨A, h⟩ := hV
            exact ⟨A, 0, by simpa using h⟩
          · obtain ⟨cap, h, _⟩ := hV
            exact ⟨_, cap, by rw [h, hrel.2.2.1]⟩
      obtain ⟨A, cap, rfl⟩ := key
      simp [builtin, Builtin.len_, ht, run_underlying hu, goInt]
    · have hu := (hE.row t rw_ hr).map_kind hk
      have hrel := hW.rel l
      rw [hget l hl, hg] at hrel
      simp only [ObjRel] at hrel
      obtain ⟨_, p, ents, clock, hb, hheap, _, _, hent⟩ := hrel
      simp only [V] at hV
      obtain ⟨q, hq, rfl⟩ := hV
      rw [hb] at hq
      cases hq
      have hlen : ∀ (es : List (kt.den × vt.den)) (l : List MapEntry), Entries φ w kt vt es l → l.length = es.length := by
        intro es
        induction es with
        | nil => intro l h; simp only [Entries] at h; simp [h]
        | cons x r ih => intro l h; simp only [Entries] at h; obtain ⟨e, r', rfl, _, _, _, _, h⟩ := h; simp [ih _ h]
      have := hlen _ _ hent
      simp at this
      simp [builtin, Builtin.len_, ht, run_underlying hu, goInt, Go.getObj, Sem.run, hheap, this]

theorem good_min {c : Call} (ho : o.op = .call c) (hc : c.callee = .builtin .min) {k k' : IntKind} {a b : Int} (hkk : k' = k) (hx : c.args.toList.map ρ = [.int k a, .int k' b]) : OpGood P o get nx ρ (.int k (cond (decide (b < a)) b a)) [] [] nx :=
  .pure fun own get' φ β w ρv hget hvs hW => by
    have ha := call_args ho hvs
    rw [hx] at ha
    simp only [VL] at ha
    obtain ⟨u, us, hu, hV, u', us', rfl, hV', rfl⟩ := ha
    subst hkk
    have i1 := hV.int_in
    have i2 := hV'.int_in
    rw [hV.int_inv, hV'.int_inv] at hu
    obtain ⟨cs, hrun⟩ := run_builtin hc ho ρv
    rw [map_toList_eq hu] at hrun
    refine ⟨.int k' (cond (decide (b < a)) b a), ?_, rfl, by cases decide (b < a) <;> assumption⟩
    rw [hrun]
    by_cases h : b < a <;> simp [builtin, Builtin.min_, Builtin.min2, h]
theorem good_max {c : Call} (ho : o.op = .call c) (hc : c.callee = .builtin .max) {k k' : IntKind} {a b : Int} (hkk : k' = k) (hx : c.args.toList.map ρ = [.int k a, .int k' b]) : OpGood P o get nx ρ (.int k (cond (decide (b > a)) b a)) [] [] nx :=
  .pure fun own get' φ β w ρv hget hvs hW => by
    have ha := call_args ho hvs
    rw [hx] at ha
    simp only [VL] at ha
    obtain ⟨u, us, hu, hV, u', us', rfl, hV', rfl⟩ := ha
    subst hkk
    have i1 := hV.int_in
    have i2 := hV'.int_in
    rw [hV.int_inv, hV'.int_inv] at hu
    obtain ⟨cs, hrun⟩ := run_builtin hc ho ρv
    rw [map_toList_eq hu] at hrun
    refine ⟨.int k' (cond (decide (b > a)) b a), ?_, rfl, by cases decide (b > a) <;> assumption⟩
    rw [hrun]
    by_cases h : a < b <;> simp [builtin, Builtin.max_, Builtin.max2, h]

theorem RowOK.zero_whole {t : TypeId} {r : TRow} (h : RowOK P t r) {φ : Nat → Nat} {β : Beta} {w : World} {z : AV} (hz : whole r.kind.isAgg r.zero = some z) : ∃ u, (zeroValue t).run P w = .ok u w ∧ V φ β w z u := by
  obtain ⟨i, u, hi, _, _, hzero, _, h1, h2, hV⟩ := h.info
  refine ⟨u, by simp [zeroValue, typeInfo, hi, hzero], ?_⟩
  obtain ⟨hv, _⟩ := whole_sound hz (hV φ β w)
  cases hk : r.kind.isAgg with
  | true => rw [hk] at hv; rw [h1 hk]; simpa using hv
  | false => rw [hk] at hv; rw [h2 hk] at hv; simpa using hv

theorem underlying_of {E : Env} (hE : EnvOK P E) {t : TypeId} {rw_ : TRow} (hr : E.row t = some rw_) (hk : rw_.kind ≠ .iface) : ∃ d, P.underlying t = some d ∧ ∀ ms, d ≠ .interface ms := by
  have h := (hE.row t rw_ hr).kind
  cases hkk : rw_.kind with
  | flat => rw [hkk] at h; obtain ⟨d, hd, hm⟩ := h; exact ⟨d, hd, fun ms e => by subst e; exact hm⟩
  | iface => exact absurd hkk hk
  | struct fs eq => rw [hkk] at h; obtain ⟨fields, hd, _⟩ := h; exact ⟨_, hd, fun ms e => by cases e⟩
  | _ => rw [hkk] at h; exact ⟨_, h, fun ms e => by cases e⟩

theorem good_assert_yes {E : Env} (hE : EnvOK P E) {t t' : TypeId} {x : Operand} {ok : Bool} {rw_ : TRow} (ho : o.op = .typeAssert x t' t ok) (hr : E.row t = some rw_) (hk : rw_.kind ≠ .iface) {v : AV} (hx : ρ x = .iface t v) :
    OpGood P o get nx ρ (cond ok (.tup [v, .bool true]) v) [] [] nx :=
  .pure fun own get' φ β w ρv _ hvs _ => by
    have hX := hvs x (by simp [ho, Op.operands])
    rw [hx] at hX
    simp only [V] at hX
    obtain ⟨u, hu, hV⟩ := hX
    obtain ⟨d, hd, hni⟩ := underlying_of hE hr hk
    cases ok with
    | true =>
      refine ⟨.tuple #[u, .bool true], ?_, by simp only [V, cond_true]; exact ⟨[u, .bool true], rfl, .cons hV (.cons (by simp [V]) rfl)⟩⟩
      cases d <;> first | exact absurd rfl (hni _) | simp [execOp, ho, hu, Instr.typeAssert, run_underlying hd]
    | false =>
      refine ⟨u, ?_, hV⟩
      cases d <;> first | exact absurd rfl (hni _) | simp [execOp, ho, hu, Instr.typeAssert, run_underlying hd]

theorem good_assert_no {E : Env} (hE : EnvOK P E) {t t' : TypeId} {x : Operand} {rw_ : TRow} (ho : o.op = .typeAssert x t' t true) (hr : E.row t = some rw_) (hk : rw_.kind ≠ .iface) (hx : ρ x = .nilif ∨ ∃ u v, u ≠ t ∧ ρ x = .iface u v) {z : AV} (hz : whole rw_.kind.isAgg rw_.zero = some z) :
    OpGood P o get nx ρ (.tup [z, .bool false]) [] [] nx :=
  .pure fun own get' φ β w ρv _ hvs _ => by
    have hX := hvs x (by simp [ho, Op.operands])
    obtain ⟨d, hd, hni⟩ := underlying_of hE hr hk
    obtain ⟨u, hu, hV⟩ := (hE.row t rw_ hr).zero_whole (φ := φ) (β := β) (w := w) hz
    refine ⟨.tuple #[u, .bool false], ?_, by simp only [V]; exact ⟨[u, .bool false], rfl, .cons hV (.cons (by simp [V]) rfl)⟩⟩
    rcases hx with hx | ⟨t2, v, hne, hx⟩
    · rw [hx] at hX
      simp only [V] at hX
      cases d <;> first | exact absurd rfl (hni _) | simp [execOp, ho, hX, Instr.typeAssert, run_underlying hd, hu]
    · rw [hx] at hX
      simp only [V] at hX
      obtain ⟨q, hq, _⟩ := hX
      cases d <;> first | exact absurd rfl (hni _) | simp [execOp, ho, hq, Instr.typeAssert, run_underlying hd, hu, hne]
end
end Go.Sim
