/-
  SimG: further operations that leave the world alone: conversions, fields, elements, parts, lengths.
-/
import Derived.Test.YtpkjlefincabiaaDoorSimF
namespace Go.Sim
set_option linter.unusedSectionVars false
set_option linter.unusedSimpArgs false
set_option linter.unusedVariables false
section
variable {P : Program} [Tabs P] {o : Oper} {get : Nat → AObj} {nx : Nat} {ρ : Operand → AV}

theorem good_unOp {op : UnOp} {t : TypeId} {x : Operand} (ho : o.op = .unOp op t x) {v : AV}
    (h : ∀ φ β (w : World) u1, V φ β w (ρ x) u1 → ∃ u, (Op.unary op u1).run P w = .ok u w ∧ V φ β w v u) : OpGood P o get nx ρ v [] [] nx :=
  .pure fun own get' φ β w ρv _ hv _ => by
    obtain ⟨u, hu, hV⟩ := h φ β w (ρv x) (hv x (by simp [ho, Op.operands]))
    exact ⟨u, by simp [execOp, ho, hu], hV⟩

theorem good_conv_int {E : Env} (hE : EnvOK P E) {s d : TypeId} {x : Operand} {rs rd : TRow} (ho : o.op = .convert s d x) (hs : E.row s = some rs) (hd : E.row d = some rd) {k0 k k1 : IntKind} (hks : rs.kind = .int k0) (hkd : rd.kind = .int k) {n : Int}
    (hx : ρ x = .int k1 n) : OpGood P o get nx ρ (.int k (k.wrap n)) [] [] nx :=
  .pure fun own get' φ β w ρv _ hv _ => by
    have h1 := hv x (by simp [ho, Op.operands])
    rw [hx] at h1
    have h1 := h1.int_inv
    have u1 := (hE.row s rs hs).int_kind hks
    have u2 := (hE.row d rd hd).int_kind hkd
    exact ⟨.int k (k.wrap n), by simp [execOp, ho, h1, convert, run_underlying u1, run_underlying u2, Conv.intToInt], rfl, In.wrap _ _⟩

theorem good_conv_str {E : Env} (hE : EnvOK P E) {s d : TypeId} {x : Operand} {rs rd : TRow} (ho : o.op = .convert s d x) (hs : E.row s = some rs) (hd : E.row d = some rd) (hks : rs.kind = .str) (hkd : rd.kind = .str) {l : List UInt8}
    (hx : ρ x = .str l) : OpGood P o get nx ρ (.str l) [] [] nx :=
  .pure fun own get' φ β w ρv _ hv _ => by
    have h1 := hv x (by simp [ho, Op.operands])
    rw [hx] at h1
    have hl := h1.2
    have h1 := h1.str_inv
    have u1 := (hE.row s rs hs).str_kind hks
    have u2 := (hE.row d rd hd).str_kind hkd
    exact ⟨.string ⟨l.toArray⟩, by simp [execOp, ho, h1, convert, run_underlying u1, run_underlying u2], rfl, hl⟩

theorem good_conv_rune {E : Env} (hE : EnvOK P E) {s d : TypeId} {x : Operand} {rs rd : TRow} (ho : o.op = .convert s d x) (hs : E.row s = some rs) (hd : E.row d = some rd) {k0 k1 : IntKind} (hks : rs.kind = .int k0) (hkd : rd.kind = .str) {n : Int}
    (hx : ρ x = .int k1 n) (hlen : (Utf8.encode n).data.toList.length ≤ 4) : OpGood P o get nx ρ (.str (Utf8.encode n).data.toList) [] [] nx :=
  .pure fun own get' φ β w ρv _ hv _ => by
    have h1 := hv x (by simp [ho, Op.operands])
    rw [hx] at h1
    have h1 := h1.int_inv
    have u1 := (hE.row s rs hs).int_kind hks
    have u2 := (hE.row d rd hd).str_kind hkd
    exact ⟨.string (Utf8.encode n), by simp [execOp, ho, h1, convert, run_underlying u1, run_underlying u2, Conv.intToString], by simp only [V]; exact ⟨by simp, by unfold maxL; omega⟩⟩

theorem good_makeInterface {E : Env} (hE : EnvOK P E) {t : TypeId} {x : Operand} {rw_ : TRow} (ho : o.op = .makeInterface t x) (hr : E.row t = some rw_) (hk : rw_.kind ≠ .iface) : OpGood P o get nx ρ (.iface t (ρ x)) [] [] nx :=
  .pure fun own get' φ β w ρv _ hv _ => by
    have h1 := hv x (by simp [ho, Op.operands])
    have hu : ∃ d, P.underlying t = some d ∧ (∀ ms, d ≠ .interface ms) := by
      have h := (hE.row t rw_ hr).kind
      cases hkk : rw_.kind with
      | flat => rw [hkk] at h; obtain ⟨d, hd, hm⟩ := h; exact ⟨d, hd, fun ms e => by subst e; exact hm⟩
      | iface => exact absurd hkk hk
      | struct fs eq => rw [hkk] at h; obtain ⟨fields, hd, _⟩ := h; exact ⟨_, hd, fun ms e => by cases e⟩
      | _ => rw [hkk] at h; exact ⟨_, h, fun ms e => by cases e⟩
    obtain ⟨d, hd, hni⟩ := hu
    refine ⟨.iface t (ρv x), ?_, by simp only [V]; exact ⟨_, rfl, h1⟩⟩
    cases d <;> simp [execOp, ho, Instr.makeInterface, run_underlying hd]
    exact absurd rfl (hni _)

theorem VL.map {φ : Nat → Nat} {β : Beta} {w : World} {ρv : Operand → Value} : ∀ (l : List Operand), (∀ x, x ∈ l → V φ β w (ρ x) (ρv x)) → VL φ β w (l.map ρ) (l.map ρv)
  | [], _ => rfl
  | x :: l, h => .cons (h x (by simp)) (VL.map l fun y hy => h y (by simp [hy]))

theorem good_makeFunc {f : Fn} {first cap : Array Operand} (ho : o.op = .makeFunc f first cap) : OpGood P o get nx ρ (.fn f (first.toList.map ρ) (cap.toList.map ρ)) [] [] nx :=
  .pure fun own get' φ β w ρv _ hv _ => by
    refine ⟨.func f (first.map ρv) (cap.map ρv), by simp [execOp, ho, Instr.makeFunc], ?_⟩
    simp only [V]
    refine ⟨first.toList.map ρv, cap.toList.map ρv, ?_, VL.map _ fun x hx => hv x ?_, VL.map _ fun x hx => hv x ?_⟩
    · congr 1 <;> (apply Array.ext'; simp)
    · simp [ho, Op.operands]; exact .inl (by simpa using hx)
    · simp [ho, Op.operands]; exact .inr (by simpa using hx)

theorem mapM_get {α β : Type} {g : α → Option β} : ∀ {l : List α} {r : List β} {i : Nat} {y : β}, l.mapM g = some r → r[i]? = some y → ∃ x, l[i]? = some x ∧ g x = some y
  | [], r, i, y, h, hi => by simp at h; subst h; simp at hi
  | a :: l, r, i, y, h, hi => by
    rw [List.mapM_cons] at h
    simp only [bind, Option.bind_eq_some_iff, pure, Option.some.injEq] at h
    obtain ⟨b, hb, bs, hbs, rfl⟩ := h
    cases i with
    | zero => simp at hi; subst hi; exact ⟨a, rfl, hb⟩
    | succ i => simp at hi; simpa using mapM_get hbs hi

theorem struct_field {E : Env} (hE : EnvOK P E) {t : TypeId} {rw_ : TRow} (hr : E.row t = some rw_) {fs : List (Nat × Nat)} {eq : List Ty} (hk : rw_.kind = .struct fs eq) {i : Nat} {p : Nat × Nat} (hp : fs[i]? = some p) :
    ∃ fields f, P.underlying t = some (.struct fields) ∧ fields[i]? = some f ∧ f.offset = p.1 ∧ p.2 ≠ 0 ∧ (∀ w, (sizeOf f.type).run P w = .ok p.2 w) ∧ (∀ w, (Go.isAgg f.type).run P w = .ok (!(p.2 == 1)) w) := by
  have h := (hE.row t rw_ hr).kind
  rw [hk] at h
  obtain ⟨fields, hu, hm, hf, _⟩ := h
  obtain ⟨f, hfi, hg⟩ := mapM_get hm hp
  cases hi : P.info? f.type with
  | none => simp [hi] at hg
  | some ti =>
    simp [hi] at hg
    obtain ⟨h1, d, hd, hagg⟩ := hf f (List.mem_of_getElem? hfi) ti hi
    subst hg
    refine ⟨fields, f, hu, by simpa using hfi, rfl, h1, fun w => by simp [sizeOf, typeInfo, hi], fun w => ?_⟩
    unfold Go.isAgg
    simp only [Sem.run_bind, run_underlying hd, Result.andThen_ok, ← hagg]
    cases d <;> simp [aggB]

theorem good_fieldAddr_ptr {E : Env} (hE : EnvOK P E) {t : TypeId} {x : Operand} {f : Nat} {rw_ : TRow} (ho : o.op = .fieldAddr t x f) (hr : E.row t = some rw_) {fs : List (Nat × Nat)} {eq : List Ty} (hk : rw_.kind = .struct fs eq) {p : Nat × Nat} (hp : fs[f]? = some p)
    {l : Nat} {e : Elt} {j : Nat} (hx : ρ x = .ptr l e j) : OpGood P o get nx ρ (.ptr l e (j + p.1)) [] [] nx :=
  .pure fun own get' φ β w ρv _ hv _ => by
    have h1 := hv x (by simp [ho, Op.operands])
    rw [hx] at h1
    simp only [V] at h1
    obtain ⟨q, hq, hv1, hn, ht⟩ := h1
    obtain ⟨fields, fl, hu, hfi, hoff, hne, hsz, _⟩ := struct_field hE hr hk hp
    refine ⟨.pointer (some ⟨q.block, q.off + e.num q.nty * q.sz + (j + p.1), none⟩), ?_, by simp only [V]; exact ⟨q, hq, rfl, hn, ht⟩⟩
    simp [execOp, ho, hv1, Instr.fieldAt, run_underlying hu, hfi, Instr.sureAddr, fieldPlace, hsz, hne, addr_add, hoff, Nat.add_assoc]

theorem good_fieldAddr_eptr {E : Env} (hE : EnvOK P E) {t : TypeId} {x : Operand} {f : Nat} {rw_ : TRow} (ho : o.op = .fieldAddr t x f) (hr : E.row t = some rw_) {fs : List (Nat × Nat)} {eq : List Ty} (hk : rw_.kind = .struct fs eq) {p : Nat × Nat} (hp : fs[f]? = some p)
    {cs : List AV} (hx : ρ x = .eptr cs) : OpGood P o get nx ρ (.eptr (cs.drop p.1)) [] [] nx :=
  .pure fun own get' φ β w ρv _ hv _ => by
    have h1 := hv x (by simp [ho, Op.operands])
    rw [hx] at h1
    simp only [V] at h1
    obtain ⟨a, vs, hv1, hs, hd, hrow⟩ := h1
    obtain ⟨fields, fl, hu, hfi, hoff, hne, hsz, _⟩ := struct_field hE hr hk hp
    refine ⟨.pointer (some ⟨a.block, a.off + p.1, none⟩), ?_, by simp only [V]; exact ⟨_, vs.drop p.1, rfl, rfl, hd.drop _, hrow.drop⟩⟩
    simp [execOp, ho, hv1, Instr.fieldAt, run_underlying hu, hfi, Instr.sureAddr, fieldPlace, hsz, hne, addr_add' hs, hoff]

theorem good_field {E : Env} (hE : EnvOK P E) {t : TypeId} {x : Operand} {f : Nat} {rw_ : TRow} (ho : o.op = .field t x f) (hr : E.row t = some rw_) {fs : List (Nat × Nat)} {eq : List Ty} (hk : rw_.kind = .struct fs eq) {p : Nat × Nat} (hp : fs[f]? = some p)
    {cs : List AV} (hx : ρ x = .agg cs) (hl : p.1 + p.2 ≤ cs.length) {v : AV} (hv : if p.2 = 1 then cs[p.1]? = some v else v = .agg ((cs.drop p.1).take p.2)) : OpGood P o get nx ρ v [] [] nx :=
  .pure fun own get' φ β w ρv _ hvs _ => by
    have h1 := hvs x (by simp [ho, Op.operands])
    rw [hx] at h1
    simp only [V] at h1
    obtain ⟨vs, hv1, hd⟩ := h1
    obtain ⟨fields, fl, hu, hfi, hoff, hne, hsz, hag⟩ := struct_field hE hr hk hp
    by_cases h1 : p.2 = 1
    · rw [if_pos h1] at hv
      obtain ⟨u, hu2, hVu⟩ := hd.get hv
      refine ⟨u, ?_, hVu⟩
      simp [execOp, ho, hv1, Instr.field, run_underlying hu, hfi, part, hag, h1, hoff, Go.asAgg, hu2]
    · rw [if_neg h1] at hv
      subst hv
      refine ⟨.agg ((vs.drop p.1).take p.2).toArray, ?_, by simp only [V]; exact ⟨_, rfl, (hd.drop _).take _⟩⟩
      simp [execOp, ho, hv1, Instr.field, run_underlying hu, hfi, part, hag, h1, hoff, Go.asAgg, hsz]

theorem alen_eq {t : Ty} (xs : List t.den) (tail : List (List AV)) : alen xs tail = xs.length + tail.length := by
  unfold alen
  split
  · simp
  · split <;> simp

theorem offAdd_eq (a i : Nat) : offAdd a i = a + i := by
  cases a <;> simp [offAdd]

theorem tlK_sound {R : Type} {m : Nat} {K : Nat → Option R} {r : R} : ∀ {p : Nat} {l : List (List AV)}, tlK m K p l = some r → ∃ q, m = q ∧ p ≤ q ∧ q < p + l.length ∧ K q = some r
  | p, [], h => by simp [tlK] at h
  | p, c :: l, h => by
    unfold tlK at h
    by_cases hm : m = p
    · simp [hm] at h; exact ⟨p, hm, Nat.le_refl _, by simp, h⟩
    · simp [hm] at h
      obtain ⟨q, h1, h2, h3, h4⟩ := tlK_sound h
      exact ⟨q, h1, by omega, by simp; omega, h4⟩

theorem placeK_sound {R : Type} {l : Nat} {t : Ty} {xs : List t.den} {tail : List (List AV)} {m : Nat} {K : AV → Option R} {r : R} (h : placeK l xs tail m K = some r) (hm : m < xs.length + tail.length) :
    ∃ e : Elt, K (.ptr l e 0) = some r ∧ e.num xs.length = m ∧ (∀ i, e = .ty i → i < xs.length) := by
  unfold placeK at h
  split at h
  · exact ⟨.ty m, h, rfl, fun i hi => by cases hi; simpa using hm⟩
  · split at h
    · obtain ⟨q, h1, h2, h3, h4⟩ := tlK_sound h
      exact ⟨.tl q, h4, by simp [Elt.num, h1], fun i hi => by cases hi⟩
    · by_cases hlt : m < xs.length
      · simp [hlt] at h
        exact ⟨.ty m, h, rfl, fun i hi => by cases hi; exact hlt⟩
      · simp [hlt] at h
        obtain ⟨q, h1, h2, h3, h4⟩ := tlK_sound h
        exact ⟨.tl q, h4, by simp [Elt.num]; omega, fun i hi => by cases hi⟩

theorem run_indexAt_slice {t e : TypeId} {re : TRow} (hu : P.underlying t = some (.slice e)) (he : RowOK P e re) (w : World) {a : Addr} {len cap : Nat} {k : IntKind} {n : Int} (h0 : 0 ≤ n) (h1 : n < len) :
    (Instr.indexAt t (.slice (some a) len cap) (.int k n)).run P w = .ok (.pointer (some (a.add (n.toNat * re.size)))) w := by
  simp [Instr.indexAt, asIntOf, run_underlying hu, he.size, h0, h1]

theorem good_indexAddr_vl {E : Env} (hE : EnvOK P E) {t e : TypeId} {x i : Operand} {rw_ re : TRow} (ho : o.op = .indexAddr t x i) (hr : E.row t = some rw_) (hk : rw_.kind = .slice e) (hre : E.row e = some re) {k : IntKind} {n : Int} (hi : ρ i = .int k n)
    {y : Ty} {xs : List y.den} (hx : ρ x = .vl y xs) (hsz : y.sz = re.size) (h0 : 0 ≤ n) (h1 : n < xs.length) : OpGood P o get nx ρ (.eptr (enc y (xs.getD n.toNat y.zero))) [] [] nx :=
  .pure fun own get' φ β w ρv _ hvs _ => by
    have hX := hvs x (by simp [ho, Op.operands])
    have hI := hvs i (by simp [ho, Op.operands])
    rw [hx] at hX
    rw [hi] at hI
    have hI := hI.int_inv
    simp only [V, Vt] at hX
    obtain ⟨_, A, cap, hv1, hcap, hel⟩ := hX
    simp at hv1
    have hlt : n.toNat < xs.length := by omega
    obtain ⟨a, ds, ha, hs, hd, hrow⟩ := hel n.toNat xs[n.toNat] (by simp [hlt])
    subst ha
    refine ⟨.pointer (some ⟨a.block, a.off + n.toNat * y.sz, none⟩), ?_, ?_⟩
    · have := run_indexAt_slice ((hE.row t rw_ hr).slice_kind hk) (hE.row e re hre) w (a := a) (cap := cap) (k := k) h0 h1
      simp [execOp, ho, hv1, hI, this, addr_add' hs, hsz]
    · simp only [V]
      refine ⟨_, ds, rfl, rfl, ?_, hrow⟩
      rw [List.getD_eq_getElem?_getD, List.getElem?_eq_getElem hlt]
      exact Vt.enc y _ _ hd

theorem run_indexAt_array {t e : TypeId} {re : TRow} {m : Nat} (hu : P.underlying t = some (.array m e)) (he : RowOK P e re) (w : World) {a : Addr} {k : IntKind} {n : Int} (h0 : 0 ≤ n) (h1 : n < m) :
    (Instr.indexAt t (.pointer (some a)) (.int k n)).run P w = .ok (.pointer (some (a.add (n.toNat * re.size)))) w := by
  simp [Instr.indexAt, asIntOf, Instr.sureAddr, run_underlying hu, he.size, h0, h1]
theorem good_indexAddr_ap {E : Env} (hE : EnvOK P E) {t e : TypeId} {m : Nat} {x i : Operand} {rw_ re : TRow} (ho : o.op = .indexAddr t x i) (hr : E.row t = some rw_) (hk : rw_.kind = .array m e) (hre : E.row e = some re) {k : IntKind} {n : Int} (hi : ρ i = .int k n)
    {y : Ty} {xs : List y.den} (hx : ρ x = .ap y xs) (hsz : y.sz = re.size) (hm : m = xs.length) (h0 : 0 ≤ n) (h1 : n < xs.length) : OpGood P o get nx ρ (.eptr (enc y (xs.getD n.toNat y.zero))) [] [] nx :=
  .pure fun own get' φ β w ρv _ hvs _ => by
    have hX := hvs x (by simp [ho, Op.operands])
    have hI := hvs i (by simp [ho, Op.operands])
    rw [hx] at hX
    rw [hi] at hI
    have hI := hI.int_inv
    simp only [V, Vt] at hX
    obtain ⟨a, cap, hv1, hs0, _, A, cap', hA, hcap, hel⟩ := hX
    have hlt : n.toNat < xs.length := by omega
    obtain ⟨a', ds, ha, hs, hd, hrow⟩ := hel n.toNat xs[n.toNat] (by simp [hlt])
    simp at hA
    rw [ha] at hA
    obtain rfl : a = a' := by simpa using hA.1
    refine ⟨.pointer (some ⟨a.block, a.off + n.toNat * y.sz, none⟩), ?_, ?_⟩
    · have := run_indexAt_array ((hE.row t rw_ hr).array_kind hk) (hE.row e re hre) w (a := a) (k := k) h0 (by rw [hm]; exact h1)
      simp [execOp, ho, hv1, hI, this, addr_add' hs, hsz]
    · simp only [V]
      refine ⟨_, ds, rfl, rfl, ?_, hrow⟩
      rw [List.getD_eq_getElem?_getD, List.getElem?_eq_getElem hlt]
      exact Vt.enc y _ _ hd

/-- The place of an element of an object, as its row's slice comes to it. -/
theorem good_indexAddr_obj {E : Env} (hE : EnvOK P E) {t e : TypeId} {x i : Operand} {rw_ re : TRow} (ho : o.op = .indexAddr t x i) (hr : E.row t = some rw_) (hk : rw_.kind = .slice e) (hre : E.row e = some re) {k : IntKind} {n : Int} (hi : ρ i = .int k n)
    {l sz : Nat} {y : Ty} {xs : List y.den} {tail : List (List AV)} (hg : get l = .arr sz y xs tail) (hsz : sz = re.size) (h0 : 0 ≤ n) {off : Nat} (hx : (ρ x = .hw l ∧ off = 0 ∧ n < (xs.length + tail.length : Nat)) ∨ ∃ m, ρ x = .hs l off m ∧ n < m)
    {el : Elt} (hnum : off + n.toNat < xs.length + tail.length → el.num xs.length = off + n.toNat ∧ (∀ i, el = .ty i → i < xs.length)) : OpGood P o get nx ρ (.ptr l el 0) [] [l] nx :=
  .pure fun own get' φ β w ρv hget hvs hW => by
    have hX := hvs x (by simp [ho, Op.operands])
    have hI := hvs i (by simp [ho, Op.operands])
    rw [hi] at hI
    have hI := hI.int_inv
    have hrel := hW.rel l
    rw [hget l (by simp), hg] at hrel
    have key : ∃ p A len cap, β l = some (some p) ∧ ρv x = .slice (some A) len cap ∧ A = ⟨p.block, p.off + off * p.sz, none⟩ ∧ n < len ∧ off + n.toNat < p.len ∧ p.sz = sz ∧ p.nty = xs.length ∧ p.len = xs.length + tail.length := by
      rcases hb : β l with _ | (_ | p)
      · simp only [ObjRel, hb] at hrel
      · simp only [ObjRel, hb] at hrel
        obtain ⟨rfl, rfl⟩ := hrel
        rcases hx with ⟨hx, rfl, hlt⟩ | ⟨m, hx, hlt⟩
        · simp at hlt; omega
        · rw [hx] at hX
          simp only [V, hb] at hX
          omega
      · skip
        simp only [ObjRel, hb] at hrel
        obtain ⟨h1, h2, h3, _⟩ := hrel
        rcases hx with ⟨hx, rfl, hlt⟩ | ⟨m, hx, hlt⟩
        · rw [hx] at hX
          simp only [V, hb] at hX
          obtain ⟨cap, hv1, hc, _⟩ := hX
          exact ⟨p, _, _, cap, rfl, hv1, by simp, by omega, by omega, h1, h2, h3⟩
        · rw [hx] at hX
          simp only [V, hb] at hX
          obtain ⟨_, A, cap, hv1, hc, hA⟩ := hX
          obtain ⟨rfl, hle⟩ := hA (by omega)
          exact ⟨p, _, m, cap, rfl, hv1, rfl, hlt, by omega, h1, h2, h3⟩
    obtain ⟨p, A, len, cap, hb, hv1, rfl, hlt, hoff, hps, hpn, hpl⟩ := key
    obtain ⟨hn1, hn2⟩ := hnum (by omega)
    refine ⟨.pointer (some ⟨p.block, p.off + el.num p.nty * p.sz + 0, none⟩), ?_, ?_⟩
    · have := run_indexAt_slice ((hE.row t rw_ hr).slice_kind hk) (hE.row e re hre) w (a := ⟨p.block, p.off + off * p.sz, none⟩) (cap := cap) (k := k) h0 hlt
      have e1 : off * p.sz + n.toNat * re.size = el.num p.nty * p.sz := by rw [hpn, hn1, hps, hsz, Nat.add_mul]
      simp [execOp, ho, hv1, hI, this, addr_add, ← e1, Nat.add_assoc]
    · simp only [V]
      exact ⟨p, hb, rfl, by rw [hpn, hn1]; exact hoff, fun i hi => by rw [hpn]; exact hn2 i hi⟩

theorem bytes_get (s : List UInt8) (i : Nat) : (⟨s.toArray⟩ : ByteArray)[i]? = s[i]? := by
  by_cases h : i < s.length
  · have h' : i < (⟨s.toArray⟩ : ByteArray).size := by simpa [ByteArray.size] using h
    rw [getElem?_pos (⟨s.toArray⟩ : ByteArray) i h', getElem?_pos s i h]
    rfl
  · have h' : ¬ i < (⟨s.toArray⟩ : ByteArray).size := by simpa [ByteArray.size] using h
    rw [getElem?_neg (⟨s.toArray⟩ : ByteArray) i h', getElem?_neg s i h]

theorem good_index_str {E : Env} (hE : EnvOK P E) {t : TypeId} {x i : Operand} {rw_ : TRow} (ho : o.op = .index t x i) (hr : E.row t = some rw_) (hk : rw_.kind = .str) {k : IntKind} {n : Int} (hi : ρ i = .int k n) {s : List UInt8} (hx : ρ x = .str s)
    (h0 : 0 ≤ n) (h1 : n < s.length) : OpGood P o get nx ρ (.int .u8 ((s.getD n.toNat 0).toNat : Int)) [] [] nx :=
  .pure fun own get' φ β w ρv _ hvs _ => by
    have hX := hvs x (by simp [ho, Op.operands])
    have hI := hvs i (by simp [ho, Op.operands])
    rw [hx] at hX
    rw [hi] at hI
    have hX := hX.str_inv
    have hI := hI.int_inv
    have hu := (hE.row t rw_ hr).str_kind hk
    have hlt : n.toNat < s.length := by omega
    refine ⟨.int .u8 ((s.getD n.toNat 0).toNat : Int), ?_, rfl, In.u8 _⟩
    simp [execOp, ho, hX, hI, Instr.index, asIntOf, run_underlying hu, h0, bytes_get, hlt]

theorem good_extract {x : Operand} {i : Nat} (ho : o.op = .extract x i) {vs : List AV} (hx : ρ x = .tup vs) {v : AV} (hv : vs[i]? = some v) : OpGood P o get nx ρ v [] [] nx :=
  .pure fun own get' φ β w ρv _ hvs _ => by
    have hX := hvs x (by simp [ho, Op.operands])
    rw [hx] at hX
    simp only [V] at hX
    obtain ⟨us, hv1, hd⟩ := hX
    obtain ⟨u, hu, hV⟩ := hd.get hv
    exact ⟨u, by simp [execOp, ho, hv1, Instr.extract, hu], hV⟩
end
end Go.Sim
