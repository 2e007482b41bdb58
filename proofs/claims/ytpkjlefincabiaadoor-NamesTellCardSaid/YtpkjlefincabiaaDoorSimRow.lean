/-
  SimRow: what is known of a program's types, by computation.
-/
import Derived.Test.YtpkjlefincabiaaDoorSimCon
namespace Go.Sim
set_option linter.unusedSectionVars false
set_option linter.unusedSimpArgs false
set_option linter.unusedVariables false

def zeroB : AV → Value → Bool
  | .bool a, .bool b => a == b
  | .int k n, .int k' m => k == k' && n == m && n == 0
  | .str s, .string b => s.isEmpty && b.data.toList.isEmpty
  | .nilp, .pointer none => true
  | .nils, .slice none 0 0 => true
  | .nilif, .nilIface => true
  | .undef, _ => true
  | _, _ => false
def zeroLB : List AV → List Value → Bool
  | [], [] => true
  | a :: r, v :: s => zeroB a v && zeroLB r s
  | _, _ => false
def isAggV : Value → Bool
  | .agg _ => true
  | _ => false
def fieldB (P : Program) (f : Field) : Bool := match P.info? f.type with
  | some i => (!(i.size == 0)) && (match P.underlying f.type with | some d => aggB d == !(i.size == 1) | none => false)
  | none => false
def eqFieldsB (P : Program) : Nat → List Field → List Ty → Bool
  | _, [], [] => true
  | k, f :: fs, y :: ys => (!(f.name == "_")) && f.offset == k && (match y, P.underlying f.type with | .bool, some .bool => true | .str, some .string => true | .int n, some (.int m) => m == n | _, _ => false) && eqFieldsB P (k + 1) fs ys
  | _, _, _ => false
def kindB (P : Program) (t : TypeId) (k : Row) : Bool := match k, P.underlying t with
  | .flat, some (.struct _) => false
  | .flat, some (.array _ _) => false
  | .flat, some (.interface _) => false
  | .flat, some _ => true
  | .int k, some (.int k') => k' == k
  | .bool, some .bool => true
  | .str, some .string => true
  | .struct fs eq, some (.struct fields) => decide (fields.toList.mapM (fun (f : Field) => (P.info? f.type).map fun i => (f.offset, i.size)) = some fs) && fields.toList.all (fieldB P) &&
      (eq.isEmpty || (!P.stoodInHeld t && !P.eqGuardType P.depth t && eqFieldsB P 0 fields.toList eq))
  | .slice e, some (.slice e') => e' == e
  | .ptr e, some (.pointer e') => e' == e
  | .map a b, some (.map a' b') => a' == a && b' == b
  | .iface, some (.interface _) => true
  | .array n e, some (.array n' e') => n' == n && e' == e
  | _, _ => false
def rowB (P : Program) (t : TypeId) (r : TRow) : Bool := (match P.info? t with
  | some i => i.size == r.size && i.bytes == r.bytes && (match i.zero with
    | some z => z.cells.toList.length == r.size && isAggV z == r.kind.isAgg && zeroLB r.zero z.cells.toList
    | none => false)
  | none => false) && kindB P t r.kind
def vtZeroB : Ty → List Value → Bool
  | .bool, [.bool b] => !b
  | .int k, [.int k' n] => k' == k && n == 0
  | .str, [.string s] => s.data.toList.isEmpty
  | .sl _, [.slice none 0 0] => true
  | .pair a b, cs => vtZeroB a (cs.take a.sz) && vtZeroB b (cs.drop a.sz)
  | _, _ => false
def tyB (P : Program) (t : TypeId) (y : Ty) : Bool := match P.info? t with
  | some i => i.size == y.sz && (match i.zero with
    | some z => vtZeroB y z.cells.toList && isAggV z == Nat.blt 1 y.sz
    | none => false) && (match y, P.underlying t with | .bool, some .bool => true | .int k, some (.int k') => k' == k | .str, some .string => true | .sl _, _ => true | .pair _ _, _ => true | _, _ => false)
  | none => false
def allB (P : Program) (rows : List (TypeId × TRow)) (tys : List (TypeId × Ty)) : Bool := rows.all (fun x => rowB P x.1 x.2) && tys.all fun x => tyB P x.1 x.2

section
variable {P : Program} [Tabs P]
theorem zeroB_V {φ : Nat → Nat} {β : Beta} {w : World} {a : AV} {v : Value} (h : zeroB a v = true) : V φ β w a v := by
  cases a with
  | undef => simp [V]
  | bool a => cases v with
    | bool b => simp [zeroB] at h; subst h; rfl
    | _ => simp [zeroB] at h
  | int k a => cases v with
    | int k' b => simp [zeroB] at h; obtain ⟨⟨rfl, rfl⟩, rfl⟩ := h; exact ⟨rfl, In.zero _⟩
    | _ => simp [zeroB] at h
  | str a => cases v with
    | string s =>
      simp [zeroB] at h
      obtain ⟨rfl, h⟩ := h
      cases s with
      | mk a => simp at h; subst h; exact ⟨rfl, Nat.zero_le _⟩
    | _ => simp [zeroB] at h
  | nilp => cases v with
    | pointer p => cases p with
      | none => rfl
      | some q => simp [zeroB] at h
    | _ => simp [zeroB] at h
  | nils =>
    match v, h with
    | .slice none 0 0, h => exact ⟨none, rfl⟩
  | nilif => cases v with
    | nilIface => rfl
    | _ => simp [zeroB] at h
  | _ => simp [zeroB] at h
theorem zeroLB_V {φ : Nat → Nat} {β : Beta} {w : World} : ∀ {a : List AV} {v : List Value}, zeroLB a v = true → VL φ β w a v
  | [], [], _ => rfl
  | [], _ :: _, h => by simp [zeroLB] at h
  | _ :: _, [], h => by simp [zeroLB] at h
  | a :: r, v :: s, h => by
    simp only [zeroLB, Bool.and_eq_true] at h
    exact .cons (zeroB_V h.1) (zeroLB_V h.2)
theorem agg_cells {z : Value} (h : isAggV z = true) : z = .agg z.cells := by cases z <;> simp [isAggV] at h; rfl
theorem one_cells {z : Value} (h : isAggV z = false) : z.cells = #[z] := by cases z <;> simp [isAggV] at h <;> rfl
theorem eqFieldsB_ok : ∀ {k : Nat} {fs : List Field} {ys : List Ty}, eqFieldsB P k fs ys = true → EqFieldsOK P k fs ys
  | _, [], [], _ => trivial
  | _, [], _ :: _, h => by simp [eqFieldsB] at h
  | _, _ :: _, [], h => by simp [eqFieldsB] at h
  | k, f :: fs, y :: ys, h => by
    simp only [eqFieldsB, Bool.and_eq_true] at h
    refine ⟨by simpa using h.1.1.1, by simpa using h.1.1.2, ?_, eqFieldsB_ok h.2⟩
    have h1 := h.1.2
    revert h1
    cases y <;> cases hu : P.underlying f.type with
    | none => simp
    | some d => cases d <;> simp
theorem kindB_ok {t : TypeId} {k : Row} (h : kindB P t k = true) : match (generalizing := false) k with
    | .flat => ∃ d, P.underlying t = some d ∧ (match d with | .struct _ | .array _ _ | .interface _ => False | _ => True)
    | .int k => P.underlying t = some (.int k)
    | .bool => P.underlying t = some .bool
    | .str => P.underlying t = some .string
    | .struct fs eq => ∃ fields, P.underlying t = some (.struct fields) ∧ fields.toList.mapM (fun (f : Field) => (P.info? f.type).map fun i => (f.offset, i.size)) = some fs ∧
        (∀ (f : Field), f ∈ fields.toList → ∀ i, P.info? f.type = some i → i.size ≠ 0 ∧ ∃ d, P.underlying f.type = some d ∧ aggB d = !(i.size == 1)) ∧
        (eq ≠ [] → P.stoodInHeld t = false ∧ P.eqGuardType P.depth t = false ∧ EqFieldsOK P 0 fields.toList eq)
    | .slice e => P.underlying t = some (.slice e)
    | .ptr e => P.underlying t = some (.pointer e)
    | .map k v => P.underlying t = some (.map k v)
    | .iface => ∃ ms, P.underlying t = some (.interface ms)
    | .array n e => P.underlying t = some (.array n e) := by
  unfold kindB at h
  cases hu : P.underlying t with
  | none => rw [hu] at h; cases k <;> simp at h
  | some d =>
    rw [hu] at h
    cases k with
    | flat => cases d <;> simp at h ⊢
    | struct fs eq =>
      cases d with
      | struct fields =>
        simp only [Bool.and_eq_true, decide_eq_true_eq, Bool.or_eq_true, Bool.not_eq_true', List.all_eq_true] at h
        refine ⟨fields, rfl, h.1.1, fun f hf i hi => ?_, fun hne => ?_⟩
        · have := h.1.2 f hf
          unfold fieldB at this
          rw [hi] at this
          simp only [Bool.and_eq_true] at this
          refine ⟨by simpa using this.1, ?_⟩
          cases hd : P.underlying f.type with
          | none => rw [hd] at this; simp at this
          | some d => rw [hd] at this; exact ⟨d, rfl, by simpa using this.2⟩
        · rcases h.2 with h2 | h2
          · simp at h2; exact absurd h2 hne
          · exact ⟨h2.1.1, h2.1.2, eqFieldsB_ok h2.2⟩
      | _ => simp at h
    | int k => cases d <;> simp at h ⊢; exact h
    | bool => cases d <;> simp at h ⊢
    | str => cases d <;> simp at h ⊢
    | slice e => cases d <;> simp at h ⊢; exact h
    | ptr e => cases d <;> simp at h ⊢; exact h
    | map a b => cases d <;> simp at h ⊢; exact h
    | iface => cases d <;> simp at h ⊢
    | array n e => cases d <;> simp at h ⊢; exact h
theorem rowB_ok {t : TypeId} {r : TRow} (h : rowB P t r = true) : RowOK P t r := by
  unfold rowB at h
  simp only [Bool.and_eq_true] at h
  refine ⟨?_, kindB_ok h.2⟩
  have h := h.1
  cases hi : P.info? t with
  | none => rw [hi] at h; cases h
  | some i =>
    rw [hi] at h
    simp only [Bool.and_eq_true] at h
    cases hz : i.zero with
    | none => rw [hz] at h; simp at h
    | some z =>
      rw [hz] at h
      simp only [Bool.and_eq_true, beq_iff_eq] at h
      obtain ⟨⟨h1, h2⟩, ⟨h3, h4⟩, h5⟩ := h
      exact ⟨i, z, rfl, h1, h2, hz, h3, fun hk => agg_cells (h4.trans hk), fun hk => one_cells (h4.trans hk), fun φ β w => zeroLB_V h5⟩
theorem vtZeroB_ok {φ : Nat → Nat} {w : World} : ∀ {y : Ty} {cs : List Value}, vtZeroB y cs = true → Vt φ w y y.zero cs := by
  intro y
  induction y with
  | bool =>
    intro cs h
    match cs, h with
    | [.bool b], h => simp [vtZeroB] at h; subst h; rfl
  | int k =>
    intro cs h
    match cs, h with
    | [.int k' n], h => simp [vtZeroB] at h; obtain ⟨rfl, rfl⟩ := h; exact ⟨rfl, In.zero _⟩
  | str =>
    intro cs h
    match cs, h with
    | [.string s], h =>
      simp [vtZeroB] at h
      simp only [Vt, Ty.zero]
      cases s with
      | mk a => simp at h; subst h; exact ⟨rfl, Nat.zero_le _⟩
  | sl e _ =>
    intro cs h
    match cs, h with
    | [.slice none 0 0], h => exact Vt.nilSl e none
  | pair a b iha ihb =>
    intro cs h
    simp only [vtZeroB, Bool.and_eq_true] at h
    exact ⟨cs.take a.sz, cs.drop a.sz, by simp, iha h.1, ihb h.2⟩
theorem tyB_ok {t : TypeId} {y : Ty} (h : tyB P t y = true) : TyOK P t y := by
  unfold tyB at h
  cases hi : P.info? t with
  | none => rw [hi] at h; cases h
  | some i =>
    rw [hi] at h
    simp only [Bool.and_eq_true, beq_iff_eq] at h
    obtain ⟨⟨h1, h2⟩, h3⟩ := h
    cases hz : i.zero with
    | none => rw [hz] at h2; cases h2
    | some z =>
      rw [hz] at h2
      simp only [Bool.and_eq_true, beq_iff_eq] at h2
      obtain ⟨h2, h4⟩ := h2
      have hV : ∀ φ w, Vt φ w y y.zero z.cells.toList := fun φ w => vtZeroB_ok h2
      have gen : ∃ i z, P.info? t = some i ∧ i.size = y.sz ∧ i.zero = some z ∧ (∀ φ w, Vt φ w y y.zero z.cells.toList) ∧ (1 < y.sz → z = .agg z.cells) ∧ (y.sz = 1 → z.cells = #[z]) :=
        ⟨i, z, hi, h1, hz, hV, fun hk => agg_cells (by rw [h4]; simpa [Nat.blt_eq] using hk), fun hk => one_cells (by rw [h4, hk]; rfl)⟩
      have one : y.sz = 1 → z.cells = #[z] := fun hk => one_cells (by rw [h4, hk]; rfl)
      cases y with
      | bool =>
        have hc := one rfl
        have := hV (fun _ => 0) default
        rw [hc] at this
        simp only [Vt, Ty.zero] at this
        refine ⟨?_, i, hi, h1, by rw [hz]; simp at this; simp [this]⟩
        cases hu : P.underlying t with
        | none => rw [hu] at h3; simp at h3
        | some d => rw [hu] at h3; cases d <;> simp at h3; rfl
      | int k =>
        have hc := one rfl
        have := hV (fun _ => 0) default
        rw [hc] at this
        simp only [Vt, Ty.zero] at this
        refine ⟨?_, i, hi, h1, by rw [hz]; simp at this; simp [this]⟩
        cases hu : P.underlying t with
        | none => rw [hu] at h3; simp at h3
        | some d => rw [hu] at h3; cases d <;> simp at h3; rw [h3]
      | str =>
        have hc := one rfl
        have := hV (fun _ => 0) default
        rw [hc] at this
        simp only [Vt, Ty.zero] at this
        refine ⟨?_, i, hi, h1, by rw [hz]; simp at this; simp [this]⟩
        cases hu : P.underlying t with
        | none => rw [hu] at h3; simp at h3
        | some d => rw [hu] at h3; cases d <;> simp at h3; rfl
      | sl e => exact gen
      | pair a b => exact gen

theorem lk?_mem {β : Type} : ∀ {l : List (Nat × β)} {k : Nat} {v : β}, lk? l k = some v → (k, v) ∈ l
  | [], k, v, h => by cases h
  | (a, b) :: l, k, v, h => by
    simp only [lk?] at h
    cases hb : Nat.beq a k with
    | true => rw [hb] at h; simp at h; have := Nat.eq_of_beq_eq_true hb; subst this; subst h; simp
    | false => rw [hb] at h; exact List.mem_cons_of_mem _ (lk?_mem h)
theorem lk_mem {β : Type} {d : β} : ∀ {l : List (Nat × β)} {k : Nat}, lk d l k = d ∨ (k, lk d l k) ∈ l
  | [], k => .inl rfl
  | (a, b) :: l, k => by
    simp only [lk]
    cases hb : Nat.beq a k with
    | true => have := Nat.eq_of_beq_eq_true hb; subst this; exact .inr (by simp)
    | false => exact (lk_mem (l := l)).imp id (List.mem_cons_of_mem _)

/-- What is known of a program and some of its functions. -/
def mkEnv (rows : List (TypeId × TRow)) (tys : List (TypeId × Ty)) (cons : List (FuncId × Con)) (glob : List (Nat × AV) := []) : Env := { rows := rows, ty := tys, con := fun n => lk .none cons n, glob := glob }
theorem mkEnv_ok {rows : List (TypeId × TRow)} {tys : List (TypeId × Ty)} {cons : List (FuncId × Con)} {glob : List (Nat × AV)} (h : allB P rows tys = true) (hc : ∀ x ∈ cons, HoldsC P x.1 x.2) : EnvOK P (mkEnv rows tys cons glob) := by
  unfold allB at h
  simp only [Bool.and_eq_true, List.all_eq_true] at h
  refine ⟨fun t r hr => rowB_ok (h.1 _ (lk?_mem hr)), fun t y hy => tyB_ok (h.2 _ (lk?_mem hy)), fun n => ?_⟩
  show HoldsC P n (lk .none cons n)
  rcases lk_mem (d := Con.none) (l := cons) (k := n) with h0 | h0
  · rw [h0]; trivial
  · exact hc _ h0
end
end Go.Sim
