/-
  SimD: objects and worlds; what an operation does; operations that leave the world alone.
-/
import Derived.Test.YtpkjlefincabiaaDoorSimC
import Derived.Laws.Cells
import Derived.Laws.Append
import Derived.Laws.Tables
import Derived.Laws.StructEq
import Derived.Laws.Slices
import Derived.Laws.MakeOwn
import Derived.Laws.BytesString
import Derived.Lib.ConvBytes
namespace Go.Sim
set_option linter.unusedSectionVars false

def CellsAt (w : World) (b o : Nat) (cs : List Value) : Prop := ∀ i v, cs[i]? = some v → w.cell? ⟨b, o + i, none⟩ = some v
/-- No cell of a block is barred. -/
def Free (w : World) (b : Nat) : Prop := ∀ o, w.frozen? ⟨b, o, none⟩ = false

def Entries (φ : Nat → Nat) (w : World) (kt vt : Ty) : List (kt.den × vt.den) → List MapEntry → Prop
  | [], es => es = []
  | x :: xs, es => ∃ e r, es = e :: r ∧ Vt φ w kt x.1 [e.key] ∧ Vt φ w vt x.2 e.val.cells.toList ∧ (vt.sz = 1 → e.val.cells = #[e.val]) ∧ (1 < vt.sz → e.val = .agg e.val.cells) ∧ Entries φ w kt vt xs r

def ObjRel (φ : Nat → Nat) (β : Beta) (w : World) (l : Nat) : AObj → Prop
  | .dead => True
  | .arr sz t xs tail => match β l with
    | none => False
    | some none => xs = [] ∧ tail = []
    | some (some p) => p.sz = sz ∧ p.nty = xs.length ∧ p.len = xs.length + tail.length ∧ p.len ≤ maxL ∧ (xs ≠ [] → sz = t.sz) ∧ φ p.block = 0 ∧ Free w p.block ∧
        Room w p.block (p.off + p.len * sz) ∧
        (∀ i x, xs[i]? = some x → ∃ ds, Vt φ w t x ds ∧ CellsAt w p.block (p.off + i * sz) ds) ∧
        (∀ q e, tail[q]? = some e → e.length = sz ∧ ∃ ds, VL φ β w e ds ∧ CellsAt w p.block (p.off + (xs.length + q) * sz) ds)
  | .map kt vt es => es.length ≤ maxL ∧ ∃ p ents clock, β l = some (some p) ∧ w.heap[p.block]? = some (.map ents clock) ∧ φ p.block = 0 ∧ okKey kt = true ∧ Entries φ w kt vt es ents.toList
  | .siter s pos => s.length ≤ maxL ∧ ∃ p, β l = some (some p) ∧ w.heap[p.block]? = some (.stringIter ⟨s.toArray⟩ pos) ∧ φ p.block = 0

/-- The tables of a program: which block holds what. -/
structure Tab where
  block : Nat
  ty : Ty
  xs : List ty.den
class Tabs (P : Program) where
  tab : List Tab
/-- Which blocks are a call's own. -/
@[reducible] def Own (_ : Program) : Type := Nat → Prop
def LaidT (P : Program) [Tabs P] (φ : Nat → Nat) (w : World) : Prop := ∀ x ∈ Tabs.tab P, Vt φ w (.sl x.ty) x.xs [.slice (some ⟨x.block, 0, none⟩) x.xs.length x.xs.length]
structure WInv {P : Program} [Tabs P] (own : Own P) (φ : Nat → Nat) (β : Beta) (get : Nat → AObj) (w : World) : Prop where
  rel : ∀ l, ObjRel φ β w l (get l)
  mine : ∀ l p, get l ≠ .dead → β l = some (some p) → own p.block ∧ p.block < w.heap.size
  dist : ∀ l m p q, l ≠ m → get l ≠ .dead → get m ≠ .dead → β l = some (some p) → β m = some (some q) → p.block ≠ q.block
  fresh : ∀ b, w.heap.size ≤ b → own b ∧ φ b = 0
  laid : LaidT P φ w

structure Step (own : Nat → Prop) (new : Nat → Prop) (φ : Nat → Nat) (β : Beta) (w : World) (φ' : Nat → Nat) (β' : Beta) (w' : World) : Prop where
  keeps : Keeps φ w φ' w'
  ext : Ext β β'
  agree : ∀ l, ¬ new l → β' l = β l
  grow : w.heap.size ≤ w'.heap.size
  old : ∀ b, b < w.heap.size → ¬ own b → w'.heap[b]? = w.heap[b]? ∧ φ' b = φ b

theorem LaidT.keep {P : Program} [Tabs P] {φ φ' : Nat → Nat} {w w' : World} (h : LaidT P φ w) (hk : Keeps φ w φ' w') : LaidT P φ' w' := fun x hx => Vt.keep hk _ _ _ (h x hx)
theorem Step.refl {own new : Nat → Prop} {φ : Nat → Nat} {β : Beta} {w : World} : Step own new φ β w φ β w :=
  ⟨.refl _ _, .refl _, fun _ _ => rfl, Nat.le_refl _, fun _ _ _ => ⟨rfl, rfl⟩⟩
theorem Step.trans {own n1 n2 n3 : Nat → Prop} {φ φ1 φ2 : Nat → Nat} {β β1 β2 : Beta} {w w1 w2 : World} (h : Step own n1 φ β w φ1 β1 w1) (h' : Step own n2 φ1 β1 w1 φ2 β2 w2)
    (hn : ∀ l, n1 l ∨ n2 l → n3 l) : Step own n3 φ β w φ2 β2 w2 :=
  ⟨h.keeps.trans h'.keeps, h.ext.trans h'.ext, fun l hl => (h'.agree l (fun x => hl (hn l (.inr x)))).trans (h.agree l (fun x => hl (hn l (.inl x)))), Nat.le_trans h.grow h'.grow,
   fun b hb ho => ⟨(h'.old b (Nat.lt_of_lt_of_le hb h.grow) ho).1.trans (h.old b hb ho).1, (h'.old b (Nat.lt_of_lt_of_le hb h.grow) ho).2.trans (h.old b hb ho).2⟩⟩
theorem Step.mono {own n1 n2 : Nat → Prop} {φ φ1 : Nat → Nat} {β β1 : Beta} {w w1 : World} (h : Step own n1 φ β w φ1 β1 w1) (hn : ∀ l, n1 l → n2 l) : Step own n2 φ β w φ1 β1 w1 :=
  ⟨h.keeps, h.ext, fun l hl => h.agree l (fun x => hl (hn l x)), h.grow, h.old⟩

/-- What an operation's run comes to. -/
def Does (P : Program) (w : World) (s : Sem Next) (R : Value → World → Prop) : Prop :=
  match s.run P w with
  | .ok (.value v) w' => R v w'
  | .ok .skip w' => R undef w'
  | .ok (.enter f args) w' => Calls P f args w' fun e w'' => ∃ v, e = .returned v ∧ R v w''
  | _ => False
theorem Does.value {P : Program} {w w' : World} {s : Sem Next} {R : Value → World → Prop} {u : Value} (h : s.run P w = .ok (.value u) w') (hR : R u w') : Does P w s R := by
  unfold Does; rw [h]; exact hR
theorem Does.skip {P : Program} {w w' : World} {s : Sem Next} {R : Value → World → Prop} (h : s.run P w = .ok .skip w') (hR : R undef w') : Does P w s R := by
  unfold Does; rw [h]; exact hR
theorem Does.mono {P : Program} {w : World} {s : Sem Next} {R R' : Value → World → Prop} (h : Does P w s R) (hR : ∀ v w', R v w' → R' v w') : Does P w s R' := by
  unfold Does at *
  split at h
  · exact hR _ _ h
  · exact hR _ _ h
  · exact h.mono fun e w'' ⟨v, he, hr⟩ => ⟨v, he, hR _ _ hr⟩
  · exact h.elim

def upd (pat : List (Nat × AObj)) (get : Nat → AObj) (l : Nat) : AObj := (lk? pat l).getD (get l)
theorem upd_nil (get : Nat → AObj) : upd [] get = get := rfl
theorem lk?_append {α : Type} (a b : List (Nat × α)) (l : Nat) : lk? (a ++ b) l = (lk? a l).or (lk? b l) := by
  induction a with
  | nil => simp [lk?]
  | cons x r ih =>
    obtain ⟨k, v⟩ := x
    simp only [List.cons_append, lk?]
    cases Nat.beq k l <;> simp [ih]
theorem lk_append {α : Type} (d : α) (a b : List (Nat × α)) (l : Nat) : lk d (a ++ b) l = (lk? a l).getD (lk d b l) := by
  induction a with
  | nil => simp [lk?]
  | cons x r ih =>
    obtain ⟨k, v⟩ := x
    simp only [List.cons_append, lk, lk?]
    cases Nat.beq k l <;> simp [ih]
theorem getO_append (pat objs : Objs) : getO (pat ++ objs) = upd pat (getO objs) := by
  funext l; simp [getO, upd, lk_append]
theorem upd_append (a b : List (Nat × AObj)) (get : Nat → AObj) : upd (a ++ b) get = upd a (upd b get) := by
  funext l; simp only [upd, lk?_append]; cases lk? a l <;> simp

def OpGood (P : Program) [Tabs P] (o : Oper) (get : Nat → AObj) (nx : Nat) (ρ : Operand → AV) (v : AV) (pat : List (Nat × AObj)) (rd : List Nat) (nx' : Nat) : Prop :=
  nx ≤ nx' ∧ ∀ (own : Own P) get' φ β w (ρv : Operand → Value), (∀ l, l ∈ rd → get' l = get l) → (∀ l, nx ≤ l → l < nx' → get' l = .dead ∧ β l = none) → (∀ x, x ∈ o.op.operands.toList → V φ β w (ρ x) (ρv x)) →
    WInv own φ β get' w →
    Does P w (execOp ρv o) fun u w' => ∃ φ' β', Step own (fun l => nx ≤ l ∧ l < nx') φ β w φ' β' w' ∧ V φ' β' w' v u ∧ WInv own φ' β' (upd pat get') w'

theorem OpGood.pure {P : Program} [Tabs P] {o : Oper} {get : Nat → AObj} {nx : Nat} {ρ : Operand → AV} {v : AV} {rd : List Nat}
    (h : ∀ (own : Own P) get' φ β w (ρv : Operand → Value), (∀ l, l ∈ rd → get' l = get l) → (∀ x, x ∈ o.op.operands.toList → V φ β w (ρ x) (ρv x)) → WInv own φ β get' w →
      ∃ u, (execOp ρv o).run P w = .ok (.value u) w ∧ V φ β w v u) : OpGood P o get nx ρ v [] rd nx :=
  ⟨Nat.le_refl _, fun own get' φ β w ρv hr _ hv hw => by
    obtain ⟨u, hu, hV⟩ := h own get' φ β w ρv hr hv hw
    exact .value hu ⟨φ, β, .refl, hV, by rw [upd_nil]; exact hw⟩⟩

/-! ### What is known of the program -/
def aggB : TypeDesc → Bool
  | .struct _ => true
  | .array _ _ => true
  | _ => false
/-- Fields that '==' meets: plain ones, in a row. -/
def EqFieldsOK (P : Program) : Nat → List Field → List Ty → Prop
  | _, [], [] => True
  | k, f :: fs, y :: ys => f.name ≠ "_" ∧ f.offset = k ∧ (match y with | .bool => P.underlying f.type = some .bool | .str => P.underlying f.type = some .string | .int n => P.underlying f.type = some (.int n) | _ => False) ∧ EqFieldsOK P (k + 1) fs ys
  | _, _, _ => False
structure RowOK (P : Program) (t : TypeId) (r : TRow) : Prop where
  info : ∃ i z, P.info? t = some i ∧ i.size = r.size ∧ i.bytes = r.bytes ∧ i.zero = some z ∧ z.cells.toList.length = r.size ∧ (r.kind.isAgg = true → z = .agg z.cells) ∧
    (r.kind.isAgg = false → z.cells = #[z]) ∧ ∀ φ β w, VL φ β w r.zero z.cells.toList
  kind : match r.kind with
    | .flat => ∃ d, P.underlying t = some d ∧ (match d with | .struct _ | .array _ _ | .interface _ => False | _ => True)
    | .int k => P.underlying t = some (.int k)
    | .bool => P.underlying t = some .bool
    | .str => P.underlying t = some .string
    | .struct fs eq => ∃ fields, P.underlying t = some (.struct fields) ∧ fields.toList.mapM (fun (f : Field) => (P.info? f.type).map fun i => (f.offset, i.size)) = some fs ∧
        (∀ (f : Field), f ∈ fields.toList → ∀ i, P.info? f.type = some i → i.size ≠ 0 ∧ ∃ d, P.underlying f.type = some d ∧ aggB d = !(i.size == 1)) ∧
        (eq ≠ [] → P.stoodInHeld t = false ∧ P.eqGuardType P.depth t = false ∧ EqFieldsOK P 0 fields.toList eq)
    | .slice e => P.underlying t = some (.slice e)
    | .ptr e => P.underlying t = some (.pointer e)
    | .map k v => P.underlying t = some (.map k v)
    | .iface => ∃ ms, P.underlying t = some (.interface ms)
    | .array n e => P.underlying t = some (.array n e)

/-- A type's data. -/
def TyOK (P : Program) (t : TypeId) : Ty → Prop
  | .bool => P.underlying t = some .bool ∧ ∃ i, P.info? t = some i ∧ i.size = 1 ∧ i.zero = some (.bool false)
  | .int k => P.underlying t = some (.int k) ∧ ∃ i, P.info? t = some i ∧ i.size = 1 ∧ i.zero = some (.int k 0)
  | .str => P.underlying t = some .string ∧ ∃ i, P.info? t = some i ∧ i.size = 1 ∧ i.zero = some (.string ⟨#[]⟩)
  | y => ∃ i z, P.info? t = some i ∧ i.size = y.sz ∧ i.zero = some z ∧ (∀ φ w, Vt φ w y y.zero z.cells.toList) ∧ (1 < y.sz → z = .agg z.cells) ∧ (y.sz = 1 → z.cells = #[z])

/-- What is known of a function whose arguments and results speak of no object. -/
def HoldsP (P : Program) [Tabs P] (n : FuncId) (G : List AV → List (Bool × AV)) : Prop :=
  ∀ args r, pick (G args) = some r → closedL args = true → r.closed = true → ∀ φ β w vs, VL φ β w args vs → (∀ b, w.heap.size ≤ b → φ b = 0) → LaidT P φ w →
    Calls P n vs.toArray w fun e w' => ∃ v φ', e = .returned v ∧ Keeps φ w φ' w' ∧ w.heap.size ≤ w'.heap.size ∧ (∀ b, b < w.heap.size → w'.heap[b]? = w.heap[b]? ∧ φ' b = φ b) ∧
      (∀ b, w'.heap.size ≤ b → φ' b = 0) ∧ V φ' β w' r v

/-- What lies between two moments of a run: the first k0 objects keep their numbers. -/
structure Run (k0 : Nat) (own : Nat → Prop) (φ : Nat → Nat) (β : Beta) (w : World) (φ' : Nat → Nat) (β' : Beta) (w' : World) : Prop where
  keeps : Keeps φ w φ' w'
  agree : ∀ l, l < k0 → β' l = β l
  grow : w.heap.size ≤ w'.heap.size
  old : ∀ b, b < w.heap.size → ¬ own b → w'.heap[b]? = w.heap[b]? ∧ φ' b = φ b

/-- A call that meets some objects. -/
def EffGood (P : Program) [Tabs P] (n : FuncId) (args : List AV) (objs : List AObj) (r : AV) (objs' : List AObj) : Prop :=
  ∀ (own : Own P) φ β w vs, VL φ β w args vs → WInv own φ β (fun l => (objs[l]?).getD .dead) w → (∀ l, objs.length ≤ l → β l = none) →
    Calls P n vs.toArray w fun e w' => ∃ v φ' β', e = .returned v ∧ Run objs.length own φ β w φ' β' w' ∧ V φ' β' w' r v ∧ WInv own φ' β' (fun l => (objs'[l]?).getD .dead) w' ∧ (∀ l, objs'.length ≤ l → β' l = none)

def Called (P : Program) (n : FuncId) : Prop := ∃ fn, P.funcs[n]? = some fn ∧ (fn.name == "runtime.NumGoroutine") = false ∧ fn.body.isNone = false

def HoldsC (P : Program) [Tabs P] (n : FuncId) : Con → Prop
  | .none => True
  | .pure G => HoldsP P n G ∧ Called P n
  | .eff F => (∀ args objs r objs', pick (F args objs) = some (r, objs') → objs.length ≤ objs'.length → EffGood P n args objs r objs') ∧ Called P n

/-- What is told of a package variable is a table. -/
def GlobOK (P : Program) [Tabs P] (E : Env) : Prop := ∀ g, lk .undef E.glob g = .undef ∨ ∃ x ∈ Tabs.tab P, x.block = g ∧ lk .undef E.glob g = .ap x.ty x.xs
theorem GlobOK.none {P : Program} [Tabs P] {E : Env} (h : E.glob = []) : GlobOK P E := fun g => .inl (by rw [h]; rfl)

structure EnvOK (P : Program) [Tabs P] (E : Env) : Prop where
  row : ∀ t r, E.row t = some r → RowOK P t r
  ty : ∀ t y, E.tyOf t = some y → TyOK P t y
  con : ∀ n, HoldsC P n (E.con n)

end Go.Sim
