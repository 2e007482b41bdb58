/-
  SimT: a region's operations, one after the other.
-/
import Derived.Test.YtpkjlefincabiaaDoorSimS
namespace Go.Sim
set_option linter.unusedSectionVars false
set_option linter.unusedSimpArgs false
set_option linter.unusedVariables false
section
variable {P : Program} [Tabs P]
variable {own : Own P} {φ φ' : Nat → Nat} {β β' : Beta} {w w' : World}
variable {R : Type}

def slotAt (s : St) (x : Nat) : AV := lk .undef s.slots x

theorem below_spec : ∀ {pat : List (Nat × AObj)} {n : Nat}, below pat n = true → ∀ k, k ∈ keysOf pat → k < n
  | [], _, _, k, hk => by simp [keysOf] at hk
  | (a, x) :: r, n, h, k, hk => by
    simp only [below, Bool.and_eq_true, Nat.blt_eq] at h
    simp only [keysOf, List.mem_cons] at hk
    rcases hk with rfl | hk
    · exact h.1
    · exact below_spec h.2 k hk
theorem keysOf_append (a b : List (Nat × AObj)) : keysOf (a ++ b) = keysOf a ++ keysOf b := by
  induction a with
  | nil => rfl
  | cons x r ih => obtain ⟨k, v⟩ := x; simp [keysOf, ih]
theorem lk?_none_of {pat : List (Nat × AObj)} {l : Nat} (h : l ∉ keysOf pat) : lk? pat l = none := by
  induction pat with
  | nil => rfl
  | cons x r ih =>
    obtain ⟨k, v⟩ := x
    simp only [keysOf, List.mem_cons, not_or] at h
    have : Nat.beq k l = false := by
      cases hb : Nat.beq k l with
      | false => rfl
      | true => exact absurd (Nat.eq_of_beq_eq_true hb).symm h.1
    simp [lk?, this, ih h.2]
theorem lk?_some_of {pat : List (Nat × AObj)} {l : Nat} (h : l ∈ keysOf pat) : ∃ v, lk? pat l = some v := by
  induction pat with
  | nil => simp [keysOf] at h
  | cons x r ih =>
    obtain ⟨k, v⟩ := x
    simp only [keysOf, List.mem_cons] at h
    simp only [lk?]
    cases hb : Nat.beq k l with
    | true => exact ⟨v, rfl⟩
    | false =>
      rcases h with rfl | h
      · rw [Nat.beq_refl] at hb; cases hb
      · exact ih h
theorem upd_out {pat : List (Nat × AObj)} {get : Nat → AObj} {l : Nat} (h : l ∉ keysOf pat) : upd pat get l = get l := by simp [upd, lk?_none_of h]
theorem upd_in {pat : List (Nat × AObj)} {get get' : Nat → AObj} {l : Nat} (h : l ∈ keysOf pat) : upd pat get l = upd pat get' l := by
  obtain ⟨v, hv⟩ := lk?_some_of h
  simp [upd, hv]

/-- What an operation's run is, whatever else went before it that has nothing to do with it. -/
structure RecGood (P : Program) [Tabs P] (H : Hint) (all : Array Oper) (i : Nat) (o : Oper) (s : St) (t : Tr) (s' : St) (v : AV) (pat : List (Nat × AObj)) : Prop where
  slots : ∀ x, slotAt s' x = if o.dst = some x then v else slotAt s x
  objs : s'.objs = pat ++ s.objs
  idx : t.i = i
  wr : t.wr = keysOf pat
  n0 : t.n0 = s.nx
  n1 : t.n1 = s'.nx
  grow : s.nx ≤ s'.nx
  keys : ∀ k, k ∈ keysOf pat → k < s'.nx
  dst : ∀ d, o.dst = some d → d < H.nt
  run : ∀ (own : Own P) get' φ β (a : Act) w, (∀ l, l ∈ t.rd → get' l = getO s.objs l) → (∀ l, s.nx ≤ l → l < s'.nx → get' l = .dead ∧ β l = none) → a.tmps.size = H.nt →
    (∀ x, x ∈ o.looksAt all → V φ β w (slotAt s x) (a.eval (.tmp x))) → WInv own φ β get' w → ∀ (Q : Exit → Act → World → Prop) (K : Act → World → Prop),
    (∀ φ' β' u w', Step own (fun l => s.nx ≤ l ∧ l < s'.nx) φ β w φ' β' w' → V φ' β' w' v u → WInv own φ' β' (upd pat get') w' → K (a.put o.dst u) w') → wpOp P all Q i K a w

theorem putS_at (dst : Option Tmp) (v : AV) (s : Slots) (x : Nat) : lk .undef (putS dst v s) x = if dst = some x then v else lk .undef s x := by
  cases dst with
  | none => simp [putS]
  | some d =>
    simp only [putS, lk]
    by_cases h : d = x
    · subst h; simp
    · have : Nat.beq d x = false := by
        cases hb : Nat.beq d x with
        | false => rfl
        | true => exact absurd (Nat.eq_of_beq_eq_true hb) h
      simp [this, h]

theorem cst_V (v : Value) : V φ β w (cst v) v := by
  unfold cst
  split
  · simp [V]
  · rename_i k n
    cases h : (decide (k.min ≤ n) && decide (n ≤ k.max)) with
    | true => simp at h; exact ⟨rfl, h⟩
    | false => simp [V]
  · rename_i s
    cases h : Nat.ble s.size 9223372036854775807 with
    | true =>
      have := Nat.le_of_ble_eq_true h
      have e : s.data.toList.length = s.size := by rw [Array.length_toList]; rfl
      refine ⟨?_, by rw [e]; exact this⟩
      cases s; rfl
    | false => simp [V]
  · simp [V]
  · simp only [V]; exact ⟨none, rfl⟩
  · simp [V]
  · simp [V]

/-- Slots as they are met: one of them may be written out. -/
def Slotted (s s0 : St) : Prop := s.objs = s0.objs ∧ s.nx = s0.nx ∧ ∀ x, slotAt s x = slotAt s0 x

theorem operand_V {E : Env} (hg : GlobOK P E) (hL : LaidT P φ w) {s : St} {a : Act} {x : Operand} (h : ∀ t, x = .tmp t → V φ β w (slotAt s t) (a.eval (.tmp t))) : V φ β w (operand E s.slots x) (a.eval x) := by
  cases x with
  | tmp t => exact h t rfl
  | const v => exact cst_V v
  | global g =>
    simp only [operand, Act.eval]
    rcases hg g with h | ⟨x, hx, hb, h⟩
    · rw [h]; simp [V]
    · rw [h, ← hb]
      simp only [V]
      exact ⟨⟨x.block, 0, none⟩, _, rfl, rfl, hL x hx⟩
  | func f => simp only [operand, V, Act.eval]; exact ⟨[], [], rfl, rfl, rfl⟩

theorem Does.wp {o : Oper} {a : Act} {Q : Exit → Act → World → Prop} {K : Act → World → Prop} {Z : Value → World → Prop} (h : Does P w (execOp a.eval o) Z) (hK : ∀ u w', Z u w' → K (a.put o.dst u) w') : o.wp P a w K Q := by
  unfold Does at h
  unfold Oper.wp
  split at h
  · rename_i v w' hr; rw [hr]; exact hK _ _ h
  · rename_i w' hr; rw [hr]; exact hK _ _ h
  · rename_i f args w' hr
    rw [hr]
    exact h.mono fun e w'' ⟨v, he, hz⟩ => by subst he; exact hK _ _ hz
  · exact h.elim

theorem runK_sound {E : Env} {H : Hint} (hE : EnvOK P E) (hg : GlobOK P E) {all : Array Oper} {i : Nat} {o : Oper} (hi : all[i]? = some o) {s s0 : St} (hs : Slotted s s0) (hd : dstOk H o = true) {K : St → Tr → Option R} {r : R} (h : runK E H i o s K = some r)
    (hwant : ∀ φ β (a : Act) w, a.tmps.size = H.nt → (∀ x, x ∈ o.looksAt all → V φ β w (slotAt s0 x) (a.eval (.tmp x))) → Region.wanted o (yielded all a.tmps) = true) :
    ∃ s' t v pat, K s' t = some r ∧ RecGood P H all i o s0 t s' v pat := by
  unfold runK at h
  obtain ⟨v, pat, rd, nx1, h, hG⟩ := evalOp_sound hE h
  obtain ⟨hb, h⟩ := cond_none h
  obtain ⟨v', pat', rd', nx2, h, hA⟩ := adjK_sound (P := P) h
  obtain ⟨hb', h⟩ := cond_none h
  obtain ⟨hso, hsn, hss⟩ := hs
  refine ⟨_, _, v', pat' ++ pat, h, ⟨fun x => ?_, by simp [hso], rfl, rfl, hsn, rfl, by rw [← hsn]; exact Nat.le_trans hG.1 hA.1, fun k hk => ?_, fun d hdd => ?_, ?_⟩⟩
  · rw [← hss x]
    exact putS_at _ _ _ _
  · rw [keysOf_append] at hk
    rcases List.mem_append.1 hk with hk | hk
    · exact below_spec hb' k hk
    · exact Nat.lt_of_lt_of_le (below_spec hb k hk) hA.1
  · unfold dstOk at hd; rw [hdd] at hd; simpa [Nat.blt_eq] using hd
  · intro own get' φ β a w hrd hfr hsz hv hW Q K' hK
    have hw := hwant φ β a w hsz hv
    unfold wpOp
    rw [hi]
    simp only [hw, if_true]
    refine .inl ?_
    have hn1 : s0.nx ≤ nx1 := by rw [← hsn]; exact hG.1
    have hdo := hG.2 own get' φ β w a.eval (fun l hl => by rw [hrd l (List.mem_append_right _ hl), hso]) (fun l h1 h2 => hfr l (by rw [← hsn]; exact h1) (Nat.lt_of_lt_of_le h2 hA.1))
      (fun x hx => operand_V hg hW.laid (fun t ht => by
        rw [hss t]
        exact hv t (by subst ht; exact List.mem_append_left _ (List.mem_filterMap.2 ⟨.tmp t, hx, rfl⟩)))) hW
    refine hdo.wp fun u w' ⟨φ1, β1, hst, hV, hW1⟩ => ?_
    obtain ⟨φ2, β2, hst2, hV2, hW2⟩ := hA.2 own (upd pat get') φ1 β1 w' u (fun l hl => by
        rw [getO_append]
        by_cases hk : l ∈ keysOf pat
        · exact upd_in hk
        · rw [upd_out hk, upd_out hk, hrd l (List.mem_append_left _ hl), hso]) (fun l h1 h2 => by
        have hk : l ∉ keysOf pat := fun hk => by have := below_spec hb l hk; omega
        have := hfr l (by omega) h2
        exact ⟨by rw [upd_out hk]; exact this.1, by rw [hst.agree l (fun hh => by omega)]; exact this.2⟩) hV hW1
    refine hK φ2 β2 u w' (hst.trans hst2 (fun l hl => ?_)) hV2 (by rw [upd_append]; exact hW2)
    have h1 := hG.1
    have h2 := hA.1
    show s0.nx ≤ l ∧ l < nx2
    rcases hl with ⟨a1, a2⟩ | ⟨a1, a2⟩ <;> constructor <;> omega

theorem skipK_sound {H : Hint} {all : Array Oper} {i : Nat} {o : Oper} (hi : all[i]? = some o) {s s0 : St} (hs : Slotted s s0) (hd : dstOk H o = true) {K : St → Tr → Option R} {r : R} (h : skipK i o s K = some r)
    (hwant : ∀ φ β (a : Act) w, a.tmps.size = H.nt → (∀ x, x ∈ o.looksAt all → V φ β w (slotAt s0 x) (a.eval (.tmp x))) → Region.wanted o (yielded all a.tmps) = false) :
    ∃ s' t v pat, K s' t = some r ∧ RecGood P H all i o s0 t s' v pat := by
  obtain ⟨hso, hsn, hss⟩ := hs
  refine ⟨_, _, .tup [], [], h, ⟨fun x => ?_, by simp [hso], rfl, rfl, hsn, rfl, by simp [hsn], fun k hk => by simp [keysOf] at hk, fun d hdd => ?_, ?_⟩⟩
  · rw [← hss x]; exact putS_at _ _ _ _
  · unfold dstOk at hd; rw [hdd] at hd; simpa [Nat.blt_eq] using hd
  · intro own get' φ β a w hrd hfr hsz hv hW Q K' hK
    have hw := hwant φ β a w hsz hv
    unfold wpOp
    rw [hi]
    simp only [hw, if_false, Bool.false_eq_true]
    exact hK φ β undef w .refl (by simp [V, VL, undef]) (by rw [upd_nil]; exact hW)

theorem slotted_refl (s : St) : Slotted s s := ⟨rfl, rfl, fun _ => rfl⟩
theorem slotted_lit {s : St} {d : Nat} {v : AV} (h : lk .undef s.slots d = v) : Slotted { s with slots := (d, v) :: s.slots } s :=
  ⟨rfl, rfl, fun x => by
    simp only [slotAt, lk]
    cases hb : Nat.beq d x with
    | true => rw [← Nat.eq_of_beq_eq_true hb]; simp [h]
    | false => rfl⟩

theorem opK_sound {E : Env} {H : Hint} (hE : EnvOK P E) (hg : GlobOK P E) {all : Array Oper} {i : Nat} {o : Oper} (hi : all[i]? = some o) {s : St} {K : St → Tr → Option R} {r : R} (h : opK E H all i o s K = some r) :
    ∃ s' t v pat, K s' t = some r ∧ RecGood P H all i o s t s' v pat := by
  unfold opK at h
  obtain ⟨hd, h⟩ := cond_none h
  split at h
  · rename_i hgd
    exact runK_sound hE hg hi (slotted_refl s) hd h (fun φ β a w _ _ => by simp [Region.wanted, hgd])
  · rename_i j want hgd
    split at h
    · rename_i d hdd
      obtain ⟨hlt, h⟩ := cond_none h
      have hlt : d < H.nt := by simpa [Nat.blt_eq] using hlt
      split at h
      · rename_i g hgv
        have hy : ∀ φ β (a : Act) w, a.tmps.size = H.nt → (∀ x, x ∈ o.looksAt all → V φ β w (slotAt s x) (a.eval (.tmp x))) → Region.wanted o (yielded all a.tmps) = (g == want) := by
          intro φ β a w hsz hv
          have h1 := hv d (by simp [Oper.looksAt, hgd, hdd])
          unfold slotAt at h1
          rw [hgv] at h1
          have h1 := h1.bool_inv
          have hlt' : d < a.tmps.size := by rw [hsz]; exact hlt
          simp only [Act.eval, Array.getD, hlt', dif_pos] at h1
          have h1' : a.tmps[d]? = some (.bool g) := by rw [Array.getElem?_eq_getElem hlt', ← h1]; rfl
          have : yielded all a.tmps j = some g := by unfold yielded; rw [hdd]; simp [h1']
          simp [Region.wanted, hgd, this]
        cases hgg : g <;> cases hww : want <;> rw [hgg, hww] at h <;> simp only [cond_true, cond_false] at h <;> rw [hgg] at hgv hy <;> rw [hww] at hy
        · exact runK_sound hE hg hi (slotted_lit hgv) hd h (fun φ β a w h1 h2 => by rw [hy φ β a w h1 h2]; rfl)
        · exact skipK_sound hi (slotted_lit hgv) hd h (fun φ β a w h1 h2 => by rw [hy φ β a w h1 h2]; rfl)
        · exact skipK_sound hi (slotted_lit hgv) hd h (fun φ β a w h1 h2 => by rw [hy φ β a w h1 h2]; rfl)
        · exact runK_sound hE hg hi (slotted_lit hgv) hd h (fun φ β a w h1 h2 => by rw [hy φ β a w h1 h2]; rfl)
      · rename_i hgv
        refine skipK_sound hi (slotted_refl s) hd h (fun φ β a w hsz hv => ?_)
        have h1 := hv d (by simp [Oper.looksAt, hgd, hdd])
        unfold slotAt at h1
        rw [hgv] at h1
        simp only [V, VL] at h1
        obtain ⟨vs, h1, rfl⟩ := h1
        have hlt' : d < a.tmps.size := by rw [hsz]; exact hlt
        simp only [Act.eval, Array.getD, hlt', dif_pos] at h1
        have h1' : a.tmps[d]? = some (.tuple #[]) := by rw [Array.getElem?_eq_getElem hlt']; exact congrArg some h1
        have : yielded all a.tmps j = none := by unfold yielded; rw [hdd]; simp [h1']
        simp [Region.wanted, hgd, this]
      · cases h
    · cases h

/-- A row of operations, from place i on. -/
inductive Chain (P : Program) [Tabs P] (H : Hint) (all : Array Oper) : Nat → List Oper → St → List Tr → St → List Tr → Prop where
  | nil {i s tr} : Chain P H all i [] s tr s tr
  | cons {i o r s tr s1 t v pat s2 tr2} : RecGood P H all i o s t s1 v pat → Chain P H all (i + 1) r s1 (t :: tr) s2 tr2 → Chain P H all i (o :: r) s tr s2 tr2

theorem evalOps_sound {E : Env} {H : Hint} (hE : EnvOK P E) (hg : GlobOK P E) {all : Array Oper} : ∀ (l : List Oper) (i : Nat) (s : St) (tr : List Tr) (K : St → List Tr → Option R) (r : R),
    (∀ j o, l[j]? = some o → all[i + j]? = some o) → evalOps E H all l i s tr K = some r → ∃ s' tr', K s' tr' = some r ∧ Chain P H all i l s tr s' tr'
  | [], i, s, tr, K, r, _, h => ⟨s, tr, h, .nil⟩
  | o :: l, i, s, tr, K, r, hl, h => by
    unfold evalOps at h
    obtain ⟨s1, t, v, pat, h, hR⟩ := opK_sound hE hg (hl 0 o rfl) h
    obtain ⟨s2, tr2, h, hC⟩ := evalOps_sound hE hg l (i + 1) s1 (t :: tr) K r (fun j o hj => by
      have := hl (j + 1) o (by simpa using hj)
      rw [← this]; congr 1; omega) h
    exact ⟨s2, tr2, h, .cons hR hC⟩

/-- What holds between the abstract state and the run's. -/
structure Rel (H : Hint) (k0 : Nat) (own : Own P) (φ : Nat → Nat) (β : Beta) (s : St) (a : Act) (w : World) : Prop where
  size : a.tmps.size = H.nt
  defers : a.defers = []
  slots : ∀ x, V φ β w (slotAt s x) (a.eval (.tmp x))
  inv : WInv own φ β (getO s.objs) w
  top : ∀ l, s.nx ≤ l → getO s.objs l = .dead ∧ β l = none
  low : k0 ≤ s.nx

theorem Run.refl {k0 : Nat} : Run k0 own φ β w φ β w := ⟨.refl _ _, fun _ _ => rfl, Nat.le_refl _, fun _ _ _ => ⟨rfl, rfl⟩⟩
theorem Run.trans {k0 : Nat} {φ'' : Nat → Nat} {β'' : Beta} {w'' : World} (h : Run k0 own φ β w φ' β' w') (h' : Run k0 own φ' β' w' φ'' β'' w'') : Run k0 own φ β w φ'' β'' w'' :=
  ⟨h.keeps.trans h'.keeps, fun l hl => (h'.agree l hl).trans (h.agree l hl), Nat.le_trans h.grow h'.grow,
   fun b hb ho => ⟨(h'.old b (Nat.lt_of_lt_of_le hb h.grow) ho).1.trans (h.old b hb ho).1, (h'.old b (Nat.lt_of_lt_of_le hb h.grow) ho).2.trans (h.old b hb ho).2⟩⟩
theorem Step.run {k0 n m : Nat} (h : Step own (fun l => n ≤ l ∧ l < m) φ β w φ' β' w') (hn : k0 ≤ n) : Run k0 own φ β w φ' β' w' :=
  ⟨h.keeps, fun l hl => h.agree l (fun hh => by omega), h.grow, h.old⟩

theorem put_size (a : Act) (dst : Option Tmp) (u : Value) : (a.put dst u).tmps.size = a.tmps.size := by cases dst <;> simp [Act.put]
theorem put_defers (a : Act) (dst : Option Tmp) (u : Value) : (a.put dst u).defers = a.defers := by cases dst <;> rfl
theorem put_at {a : Act} {dst : Option Tmp} {u : Value} {x : Nat} (hd : ∀ d, dst = some d → d < a.tmps.size) : (a.put dst u).eval (.tmp x) = if dst = some x then u else a.eval (.tmp x) := by
  cases dst with
  | none => simp [Act.put]
  | some d =>
    have hlt := hd d rfl
    by_cases h : d = x
    · subst h; simp [Act.put, Act.eval, hlt]
    · simp [Act.put, Act.eval, h, Array.getElem?_setIfInBounds_ne h]

theorem RecGood.step {H : Hint} {all : Array Oper} {i : Nat} {o : Oper} {s s' : St} {t : Tr} {v : AV} {pat : List (Nat × AObj)} (hR : RecGood P H all i o s t s' v pat) {k0 : Nat} {a : Act} (hrel : Rel H k0 own φ β s a w) {Q : Exit → Act → World → Prop} {K : Act → World → Prop}
    (hK : ∀ φ' β' a' w', Rel H k0 own φ' β' s' a' w' → Run k0 own φ β w φ' β' w' → K a' w') : wpOp P all Q i K a w := by
  refine hR.run own (getO s.objs) φ β a w (fun _ _ => rfl) (fun l h1 _ => hrel.top l h1) hrel.size (fun x _ => hrel.slots x) hrel.inv Q K (fun φ' β' u w' hst hV hW => hK φ' β' _ w' ?_ (hst.run hrel.low))
  refine ⟨by rw [put_size]; exact hrel.size, by rw [put_defers]; exact hrel.defers, fun x => ?_, by rw [hR.objs, getO_append]; exact hW, fun l hl => ?_, Nat.le_trans hrel.low hR.grow⟩
  · rw [hR.slots, put_at (fun d hd => by rw [hrel.size]; exact hR.dst d hd)]
    split
    · exact hV
    · exact V.keep hst.keeps hst.ext _ _ (hrel.slots x)
  · have hk : l ∉ keysOf pat := fun hk => by have := hR.keys l hk; omega
    have h1 := hR.grow
    have := hrel.top l (by omega)
    exact ⟨by rw [hR.objs, getO_append, upd_out hk]; exact this.1, by rw [hst.agree l (fun hh => by omega)]; exact this.2⟩

theorem Chain.wp {H : Hint} {all : Array Oper} {Q : Exit → Act → World → Prop} : ∀ {l : List Oper} {i : Nat} {s s' : St} {tr tr' : List Tr}, Chain P H all i l s tr s' tr' → i + l.length = all.size → ∀ {k0 φ β a w}, Rel H k0 own φ β s a w →
    (∀ φ' β' a' w', Rel H k0 own φ' β' s' a' w' → Run k0 own φ β w φ' β' w' → Q .normal a' w') → wpOps P all Q (List.range' i l.length) a w
  | [], i, s, s', tr, tr', hC, hn, k0, φ, β, a, w, hrel, hQ => by
    cases hC
    simp [wpOps]
    exact hQ φ β a w hrel .refl
  | o :: l, i, s, s', tr, tr', hC, hn, k0, φ, β, a, w, hrel, hQ => by
    cases hC with
    | cons hR hC =>
      simp only [List.length_cons, List.range'_succ]
      rw [wpOps_cons]
      refine hR.step hrel fun φ1 β1 a1 w1 hrel1 hrun1 => ?_
      refine hC.wp (by simp at hn; omega) hrel1 fun φ2 β2 a2 w2 hrel2 hrun2 => hQ φ2 β2 a2 w2 hrel2 (hrun1.trans hrun2)
end
end Go.Sim
