/-
  SimPat: how values and states are written: forms, and what is read off them.
-/
import Derived.Test.YtpkjlefincabiaaDoorSimZ
namespace Go.Sim
set_option linter.unusedSectionVars false
set_option linter.unusedSimpArgs false
set_option linter.unusedVariables false

/-- The form of a value that is known but for what it holds. -/
inductive Pat where
  | bool
  | int (k : IntKind)
  | str
  | vl (t : Ty)
  | lit (v : AV)      -- a value without any unknown: none of those that hold data
  | agg (ps : List Pat)
  | hs (l : Nat)      -- its place and its length are unknown

mutual
@[reducible] def Pat.den : Pat → Type
  | .bool => Bool
  | .int _ => Int
  | .str => List UInt8
  | .vl t => List t.den
  | .lit _ => Unit
  | .agg ps => patsDen ps
  | .hs _ => Nat × Nat
@[reducible] def patsDen : List Pat → Type
  | [] => Unit
  | p :: r => p.den × patsDen r
end

mutual
def Pat.mk : (p : Pat) → p.den → AV
  | .bool, b => .bool b
  | .int k, n => .int k n
  | .str, s => .str s
  | .vl t, xs => .vl t xs
  | .lit v, _ => v
  | .agg ps, x => .agg (patsMk ps x)
  | .hs l, x => .hs l x.1 x.2
def patsMk : (ps : List Pat) → patsDen ps → List AV
  | [], _ => []
  | p :: r, x => p.mk x.1 :: patsMk r x.2
end

mutual
/-- Is a value the same as one without any unknown? -/
def AV.isLit : AV → AV → Bool
  | .bool a, .bool b => a == b
  | .int k a, .int k' b => k == k' && a == b
  | .nilp, .nilp => true
  | .nils, .nils => true
  | .nilif, .nilif => true
  | .undef, .undef => true
  | .hw l, .hw m => Nat.beq l m
  | .mp l, .mp m => Nat.beq l m
  | .it l, .it m => Nat.beq l m
  | .ptr l (.tl p) j, .ptr m (.tl q) i => Nat.beq l m && Nat.beq p q && Nat.beq j i
  | .str a, .str b => a == b
  | .iface t a, .iface u b => Nat.beq t u && a.isLit b
  | .agg a, .agg b => isLitL a b
  | _, _ => false
def isLitL : List AV → List AV → Bool
  | [], [] => true
  | a :: r, b :: s => a.isLit b && isLitL r s
  | _, _ => false
end

mutual
def Pat.view : (p : Pat) → AV → Option p.den
  | .bool, .bool b => some b
  | .int k, .int k' n => cond (k' == k) (some n) none
  | .str, .str s => some s
  | .vl t, .vl t' xs => if h : t' = t then some (h ▸ xs) else none
  | .vl t, .nils => some []
  | .lit v, u => cond (u.isLit v) (some ()) none
  | .agg ps, .agg vs => patsView ps vs
  | .hs l, .hs m o n => cond (Nat.beq m l) (some (o, n)) none
  | _, _ => none
def patsView : (ps : List Pat) → List AV → Option (patsDen ps)
  | [], [] => some ()
  | p :: r, v :: vs => (p.view v).bind fun x => (patsView r vs).bind fun y => some (x, y)
  | _, _ => none
end

/-- The form of an object. -/
inductive OPat where
  | arr (sz : Nat) (t : Ty) (tail : List (List Pat))
  | box (sz : Nat) (tail : List (List Pat))
  | map (kt vt : Ty)
  | siter
@[reducible] def patsDenL : List (List Pat) → Type
  | [] => Unit
  | p :: r => patsDen p × patsDenL r
@[reducible] def OPat.den : OPat → Type
  | .arr _ t tail => List t.den × patsDenL tail
  | .box _ tail => patsDenL tail
  | .map kt vt => List (kt.den × vt.den)
  | .siter => List UInt8 × Nat
@[reducible] def opatsDen : List OPat → Type
  | [] => Unit
  | p :: r => p.den × opatsDen r
def patsMkL : (ps : List (List Pat)) → patsDenL ps → List (List AV)
  | [], _ => []
  | p :: r, x => patsMk p x.1 :: patsMkL r x.2
def patsViewL : (ps : List (List Pat)) → List (List AV) → Option (patsDenL ps)
  | [], [] => some ()
  | p :: r, v :: vs => (patsView p v).bind fun x => (patsViewL r vs).bind fun y => some (x, y)
  | _, _ => none
def OPat.mk : (p : OPat) → p.den → AObj
  | .arr sz t tail, x => .arr sz t x.1 (patsMkL tail x.2)
  | .box sz tail, x => .arr sz .bool [] (patsMkL tail x)
  | .map kt vt, es => .map kt vt es
  | .siter, x => .siter x.1 x.2
def opatsMk : (ps : List OPat) → opatsDen ps → List AObj
  | [], _ => []
  | p :: r, x => p.mk x.1 :: opatsMk r x.2
def OPat.view : (p : OPat) → AObj → Option p.den
  | .arr sz t tail, .arr sz' t' xs tail' => cond (Nat.beq sz' sz) (if h : t' = t then (patsViewL tail tail').bind fun y => some (h ▸ xs, y) else none) none
  | .box sz tail, .arr sz' .bool [] tail' => cond (Nat.beq sz' sz) (patsViewL tail tail') none
  | .map kt vt, .map kt' vt' es => if h : kt' = kt then if h' : vt' = vt then some (h ▸ h' ▸ es) else none else none
  | .siter, .siter s pos => some (s, pos)
  | _, _ => none
def opatsView : (ps : List OPat) → List AObj → Option (opatsDen ps)
  | [], [] => some ()
  | p :: r, v :: vs => (p.view v).bind fun x => (opatsView r vs).bind fun y => some (x, y)
  | _, _ => none

/-- The form of a state: its slots, its objects. -/
structure SPat where
  slots : List (Nat × Pat)
  objs : List OPat
@[reducible] def SPat.den (p : SPat) : Type := patsDen (p.slots.map (·.2)) × opatsDen p.objs
def zipS : List (Nat × Pat) → List AV → Slots
  | (t, _) :: r, v :: vs => (t, v) :: zipS r vs
  | _, _ => []
def SPat.mk' (p : SPat) (x : p.den) : St := { slots := zipS p.slots (patsMk (p.slots.map (·.2)) x.1), objs := numbered 0 (opatsMk p.objs x.2), nx := p.objs.length }
def keysOk : List (Nat × Pat) → Slots → Bool
  | [], [] => true
  | (t, _) :: r, (u, _) :: s => Nat.beq u t && keysOk r s
  | _, _ => false
def keysNum : Nat → Objs → Bool
  | _, [] => true
  | i, (u, _) :: s => Nat.beq u i && keysNum (i + 1) s
def SPat.view (p : SPat) (s : St) : Option p.den :=
  cond (keysOk p.slots s.slots && keysNum 0 s.objs && Nat.beq s.nx p.objs.length)
    ((patsView (p.slots.map (·.2)) (s.slots.map (·.2))).bind fun x => (opatsView p.objs (s.objs.map (·.2))).bind fun y => some (x, y)) none

mutual
theorem AV.isLit_eq : ∀ (a b : AV), a.isLit b = true → a = b
  | .bool a, b, h => by cases b <;> simp [AV.isLit] at h; rw [h]
  | .int k a, b, h => by cases b <;> simp [AV.isLit] at h; rw [h.1, h.2]
  | .nilp, b, h => by cases b <;> simp [AV.isLit] at h; rfl
  | .nils, b, h => by cases b <;> simp [AV.isLit] at h; rfl
  | .nilif, b, h => by cases b <;> simp [AV.isLit] at h; rfl
  | .undef, b, h => by cases b <;> simp [AV.isLit] at h; rfl
  | .hw l, b, h => by cases b <;> simp [AV.isLit] at h; rw [h]
  | .mp l, b, h => by cases b <;> simp [AV.isLit] at h; rw [h]
  | .it l, b, h => by cases b <;> simp [AV.isLit] at h; rw [h]
  | .ptr l (.tl p) j, b, h => by
    cases b with
    | ptr m e i => cases e with
      | tl q => simp [AV.isLit] at h; rw [h.1.1, h.1.2, h.2]
      | ty i => simp [AV.isLit] at h
    | _ => simp [AV.isLit] at h
  | .ptr l (.ty p) j, b, h => by cases b <;> simp [AV.isLit] at h
  | .str a, b, h => by cases b <;> simp [AV.isLit] at h; rw [h]
  | .iface t a, b, h => by
    cases b with
    | iface u c => simp [AV.isLit] at h; rw [h.1, AV.isLit_eq a c h.2]
    | _ => simp [AV.isLit] at h
  | .agg a, b, h => by
    cases b with
    | agg c => simp [AV.isLit] at h; rw [isLitL_eq a c h]
    | _ => simp [AV.isLit] at h
  | .eptr _, b, h => by cases b <;> simp [AV.isLit] at h
  | .vl _ _, b, h => by cases b <;> simp [AV.isLit] at h
  | .ap _ _, b, h => by cases b <;> simp [AV.isLit] at h
  | .hs _ _ _, b, h => by cases b <;> simp [AV.isLit] at h
  | .tup _, b, h => by cases b <;> simp [AV.isLit] at h
  | .fn _ _ _, b, h => by cases b <;> simp [AV.isLit] at h
theorem isLitL_eq : ∀ (a b : List AV), isLitL a b = true → a = b
  | [], b, h => by cases b <;> simp [isLitL] at h; rfl
  | x :: a, b, h => by
    cases b with
    | nil => simp [isLitL] at h
    | cons y b => simp [isLitL] at h; rw [AV.isLit_eq x y h.1, isLitL_eq a b h.2]
end

section
variable {P : Program} [Tabs P] {own : Own P} {φ φ' : Nat → Nat} {β β' β2 : Beta} {w w' : World} {H : Hint} {k0 : Nat}

mutual
theorem Pat.view_V : ∀ (p : Pat) (v : AV) (x : p.den), p.view v = some x → ∀ u, V φ β w v u → V φ β w (p.mk x) u
  | .bool, v, x, h, u, hV => by cases v <;> simp [Pat.view] at h; subst h; exact hV
  | .int k, v, x, h, u, hV => by
    cases v <;> simp [Pat.view] at h
    rename_i k' n
    obtain ⟨h1, h2⟩ := cond_none h
    simp at h1 h2
    subst h1; subst h2; exact hV
  | .str, v, x, h, u, hV => by cases v <;> simp [Pat.view] at h; subst h; exact hV
  | .vl t, v, x, h, u, hV => by
    cases v <;> simp [Pat.view] at h
    · rename_i t' xs
      obtain ⟨h1, h2⟩ := h
      subst h1
      simp at h2
      subst h2; exact hV
    · subst h
      simp only [V] at hV
      obtain ⟨A, rfl⟩ := hV
      simp only [Pat.mk, V]
      exact Vt.nilSl _ _
  | .lit c, v, x, h, u, hV => by
    simp only [Pat.view] at h
    obtain ⟨h1, h2⟩ := cond_none h
    rw [AV.isLit_eq _ _ h1] at hV
    exact hV
  | .agg ps, v, x, h, u, hV => by
    cases v <;> simp only [Pat.view] at h <;> try (cases h; done)
    rename_i vs
    simp only [Pat.mk, V] at hV ⊢
    obtain ⟨us, h1, h2⟩ := hV
    exact ⟨us, h1, patsView_V ps vs x h us h2⟩
  | .hs l, v, x, h, u, hV => by
    cases v <;> simp [Pat.view] at h
    rename_i m o n
    obtain ⟨h1, h2⟩ := cond_none h
    simp at h1 h2
    subst h1; subst h2; exact hV
theorem patsView_V : ∀ (ps : List Pat) (vs : List AV) (x : patsDen ps), patsView ps vs = some x → ∀ us, VL φ β w vs us → VL φ β w (patsMk ps x) us
  | [], vs, x, h, us, hV => by cases vs <;> simp [patsView] at h; exact hV
  | p :: r, [], x, h, us, hV => by simp [patsView] at h
  | p :: r, v :: vs, x, h, us, hV => by
    simp only [patsView] at h
    obtain ⟨a, h1, h⟩ := bind_some h
    obtain ⟨b, h2, h⟩ := bind_some h
    simp at h
    subst h
    simp only [VL] at hV
    obtain ⟨u, us', rfl, g1, g2⟩ := hV
    simp only [patsMk]
    exact .cons (Pat.view_V p v a h1 u g1) (patsView_V r vs b h2 us' g2)
end
theorem patsView_length : ∀ {ps : List Pat} {vs : List AV} {x : patsDen ps}, patsView ps vs = some x → (patsMk ps x).length = vs.length
  | [], vs, x, h => by cases vs <;> simp [patsView] at h; rfl
  | p :: r, [], x, h => by simp [patsView] at h
  | p :: r, v :: vs, x, h => by
    simp only [patsView] at h
    obtain ⟨a, h1, h⟩ := bind_some h
    obtain ⟨b, h2, h⟩ := bind_some h
    simp at h
    subst h
    simp only [patsMk, List.length_cons, patsView_length h2]
theorem patsViewL_spec : ∀ {ps : List (List Pat)} {vs : List (List AV)} {x : patsDenL ps}, patsViewL ps vs = some x → (patsMkL ps x).length = vs.length ∧
    ∀ (q : Nat) (e : List AV), (patsMkL ps x)[q]? = some e → ∃ e0, vs[q]? = some e0 ∧ e.length = e0.length ∧ ∀ us, VL φ β w e0 us → VL φ β w e us
  | [], vs, x, h => by cases vs <;> simp [patsViewL] at h; exact ⟨rfl, fun q e he => by simp [patsMkL] at he⟩
  | p :: r, [], x, h => by simp [patsViewL] at h
  | p :: r, v :: vs, x, h => by
    simp only [patsViewL] at h
    obtain ⟨a, h1, h⟩ := bind_some h
    obtain ⟨b, h2, h⟩ := bind_some h
    simp at h
    subst h
    obtain ⟨g1, g2⟩ := patsViewL_spec h2
    refine ⟨by simp only [patsMkL, List.length_cons, g1], fun q e he => ?_⟩
    cases q with
    | zero =>
      simp [patsMkL] at he
      subst he
      exact ⟨v, rfl, patsView_length h1, patsView_V p v a h1⟩
    | succ q => simpa using g2 q e (by simpa [patsMkL] using he)
theorem OPat.view_rel : ∀ (p : OPat) (o : AObj) (x : p.den), p.view o = some x → o ≠ .dead ∧ p.mk x ≠ .dead ∧ ∀ l, ObjRel φ β w l o → ObjRel φ β w l (p.mk x) := by
  have arr : ∀ (sz : Nat) (t : Ty) (xs : List t.den) (tail tail' : List (List AV)), tail'.length = tail.length → (∀ (q : Nat) (e : List AV), tail'[q]? = some e → ∃ e0, tail[q]? = some e0 ∧ e.length = e0.length ∧ ∀ us, VL φ β w e0 us → VL φ β w e us) →
      ∀ l, ObjRel φ β w l (.arr sz t xs tail) → ObjRel φ β w l (.arr sz t xs tail') := by
    intro sz t xs tail tail' hlen hel l h
    simp only [ObjRel] at h ⊢
    rcases hb : β l with _ | (_ | p)
    · simp only [hb] at h
    · simp only [hb] at h ⊢
      refine ⟨h.1, List.eq_nil_of_length_eq_zero ?_⟩
      rw [hlen, h.2]; rfl
    · simp only [hb] at h ⊢
      obtain ⟨h1, h2, h3, hM, h4, h5, h6, h7, h8, h9⟩ := h
      refine ⟨h1, h2, by rw [hlen]; exact h3, hM, h4, h5, h6, h7, h8, fun q e hq => ?_⟩
      obtain ⟨e0, g1, g2, g3⟩ := hel q e hq
      obtain ⟨k1, ds, k2, k3⟩ := h9 q e0 g1
      exact ⟨by rw [g2]; exact k1, ds, g3 ds k2, k3⟩
  intro p o x h
  cases p with
  | arr sz t tail =>
    cases o <;> simp only [OPat.view] at h <;> try (cases h; done)
    rename_i sz' t' xs tail'
    obtain ⟨h1, h⟩ := cond_none h
    have h1 := Nat.eq_of_beq_eq_true h1
    subst h1
    split at h
    · rename_i he
      subst he
      obtain ⟨y, h2, h⟩ := bind_some h
      simp at h
      subst h
      obtain ⟨g1, g2⟩ := patsViewL_spec (φ := φ) (β := β) (w := w) h2
      exact ⟨fun h => (by cases h), fun h => (by cases h), arr _ _ _ _ _ g1 g2⟩
    · cases h
  | box sz tail =>
    cases o with
    | arr sz' t' xs tail' =>
      cases t' <;> simp only [OPat.view] at h <;> try (cases h; done)
      cases xs <;> simp only [OPat.view] at h <;> try (cases h; done)
      obtain ⟨h1, h⟩ := cond_none h
      have h1 := Nat.eq_of_beq_eq_true h1
      subst h1
      obtain ⟨g1, g2⟩ := patsViewL_spec (φ := φ) (β := β) (w := w) h
      exact ⟨fun h => (by cases h), fun h => (by cases h), arr _ _ _ _ _ g1 g2⟩
    | _ => simp [OPat.view] at h
  | map kt vt =>
    cases o <;> simp only [OPat.view] at h <;> try (cases h; done)
    split at h
    · rename_i he
      subst he
      split at h
      · rename_i he
        subst he
        simp at h
        subst h
        exact ⟨fun h => (by cases h), fun h => (by cases h), fun l h => h⟩
      · cases h
    · cases h
  | siter =>
    cases o <;> simp [OPat.view] at h
    subst h
    exact ⟨fun h => (by cases h), fun h => (by cases h), fun l h => h⟩
theorem opatsView_spec : ∀ {ps : List OPat} {vs : List AObj} {x : opatsDen ps}, opatsView ps vs = some x → (opatsMk ps x).length = vs.length ∧
    ∀ i : Nat, (((vs[i]?).getD .dead = .dead ↔ ((opatsMk ps x)[i]?).getD .dead = .dead) ∧ ∀ l, ObjRel φ β w l ((vs[i]?).getD .dead) → ObjRel φ β w l (((opatsMk ps x)[i]?).getD .dead))
  | [], vs, x, h => by cases vs <;> simp [opatsView] at h; exact ⟨rfl, fun i => by simp [opatsMk]⟩
  | p :: r, [], x, h => by simp [opatsView] at h
  | p :: r, v :: vs, x, h => by
    simp only [opatsView] at h
    obtain ⟨a, h1, h⟩ := bind_some h
    obtain ⟨b, h2, h⟩ := bind_some h
    simp at h
    subst h
    obtain ⟨g1, g2⟩ := opatsView_spec h2
    obtain ⟨k1, k2, k3⟩ := OPat.view_rel (φ := φ) (β := β) (w := w) p v a h1
    refine ⟨by simp only [opatsMk, List.length_cons, g1], fun i => ?_⟩
    cases i with
    | zero => simp only [opatsMk, List.getElem?_cons_zero, Option.getD_some]; exact ⟨⟨fun h => absurd h k1, fun h => absurd h k2⟩, k3⟩
    | succ i => simpa [opatsMk] using g2 i

theorem WInv.view {ps : List OPat} {vs : List AObj} {x : opatsDen ps} (h : opatsView ps vs = some x) (hW : WInv own φ β (fun l => (vs[l]?).getD .dead) w) : WInv own φ β (fun l => ((opatsMk ps x)[l]?).getD .dead) w := by
  have hs := (opatsView_spec (φ := φ) (β := β) (w := w) h).2
  exact ⟨fun l => (hs l).2 l (hW.rel l), fun l p hl => hW.mine l p fun h => hl ((hs l).1.1 h), fun l m p q hlm hl hm => hW.dist l m p q hlm (fun h => hl ((hs l).1.1 h)) (fun h => hm ((hs m).1.1 h)), hW.fresh, hW.laid⟩


/-! ### What data of a kind are -/
def wfT : (t : Ty) → t.den → Prop
  | .bool, _ => True
  | .int k, n => In k n
  | .str, s => s.length ≤ maxL
  | .sl e, xs => xs.length ≤ maxL ∧ ∀ x ∈ xs, wfT e x
  | .pair a b, x => wfT a x.1 ∧ wfT b x.2
theorem Vt.wf : ∀ {t : Ty} {x : t.den} {cs : List Value}, Vt φ w t x cs → wfT t x
  | .bool, _, _, _ => trivial
  | .int k, n, cs, h => h.2
  | .str, s, cs, h => h.2
  | .sl e, xs, cs, h => by
    simp only [Vt] at h
    obtain ⟨hm, A, cap, _, _, hel⟩ := h
    refine ⟨hm, fun x hx => ?_⟩
    obtain ⟨i, hi⟩ := List.getElem?_of_mem hx
    obtain ⟨a, ds, _, _, hd, _⟩ := hel i x hi
    exact Vt.wf hd
  | .pair a b, x, cs, h => by
    simp only [Vt] at h
    obtain ⟨c1, c2, _, h1, h2⟩ := h
    exact ⟨Vt.wf h1, Vt.wf h2⟩
mutual
def Pat.wf : (p : Pat) → p.den → Prop
  | .bool, _ => True
  | .int k, n => In k n
  | .str, s => s.length ≤ maxL
  | .vl t, xs => wfT (.sl t) xs
  | .lit _, _ => True
  | .agg ps, x => patsWf ps x
  | .hs _, x => x.2 ≤ maxL
def patsWf : (ps : List Pat) → patsDen ps → Prop
  | [], _ => True
  | p :: r, x => p.wf x.1 ∧ patsWf r x.2
end
mutual
theorem Pat.wf_V : ∀ (p : Pat) (x : p.den) (u : Value), V φ β w (p.mk x) u → p.wf x
  | .bool, _, _, _ => trivial
  | .int k, _, _, h => h.2
  | .str, _, _, h => h.2
  | .vl t, _, _, h => by simp only [Pat.mk, V] at h; exact Vt.wf h
  | .lit _, _, _, _ => trivial
  | .agg ps, x, u, h => by
    simp only [Pat.mk, V] at h
    obtain ⟨us, _, h⟩ := h
    exact patsWf_V ps x us h
  | .hs l, x, u, h => by simp only [Pat.mk, V] at h; exact h.1
theorem patsWf_V : ∀ (ps : List Pat) (x : patsDen ps) (us : List Value), VL φ β w (patsMk ps x) us → patsWf ps x
  | [], _, _, _ => trivial
  | p :: r, x, us, h => by
    simp only [patsMk, VL] at h
    obtain ⟨u, us', _, h1, h2⟩ := h
    exact ⟨Pat.wf_V p x.1 u h1, patsWf_V r x.2 us' h2⟩
end
def patsWfL : (ps : List (List Pat)) → patsDenL ps → Prop
  | [], _ => True
  | p :: r, x => patsWf p x.1 ∧ patsWfL r x.2
def OPat.wf : (p : OPat) → p.den → Prop
  | .arr _ t tail, x => (x.1.length ≤ maxL ∧ ∀ y ∈ x.1, wfT t y) ∧ patsWfL tail x.2
  | .box _ tail, x => patsWfL tail x
  | .map kt vt, es => es.length ≤ maxL ∧ ∀ e ∈ es, wfT kt e.1 ∧ wfT vt e.2
  | .siter, x => x.1.length ≤ maxL
def opatsWf : (ps : List OPat) → opatsDen ps → Prop
  | [], _ => True
  | p :: r, x => p.wf x.1 ∧ opatsWf r x.2
theorem patsWfL_of : ∀ (ps : List (List Pat)) (x : patsDenL ps), (∀ (q : Nat) (e : List AV), (patsMkL ps x)[q]? = some e → ∃ ds, VL φ β w e ds) → patsWfL ps x
  | [], _, _ => trivial
  | p :: r, x, h => by
    obtain ⟨ds, h0⟩ := h 0 (patsMk p x.1) rfl
    exact ⟨patsWf_V p x.1 ds h0, patsWfL_of r x.2 fun q e he => h (q + 1) e (by simpa [patsMkL] using he)⟩
theorem entries_wf {kt vt : Ty} : ∀ {es : List (kt.den × vt.den)} {l : List MapEntry}, Entries φ w kt vt es l → ∀ e ∈ es, wfT kt e.1 ∧ wfT vt e.2
  | [], _, _, e, he => by cases he
  | x :: es, l, h, e, he => by
    simp only [Entries] at h
    obtain ⟨e', r, _, h1, h2, _, _, h5⟩ := h
    rcases List.mem_cons.1 he with rfl | he
    · exact ⟨Vt.wf h1, Vt.wf h2⟩
    · exact entries_wf h5 e he
theorem OPat.wf_rel (p : OPat) (x : p.den) {l : Nat} (h : ObjRel φ β w l (p.mk x)) : p.wf x := by
  have arr : ∀ (sz : Nat) (t : Ty) (xs : List t.den) (tail : List (List AV)), ObjRel φ β w l (.arr sz t xs tail) → (xs.length ≤ maxL ∧ ∀ y ∈ xs, wfT t y) ∧ ∀ (q : Nat) (e : List AV), tail[q]? = some e → ∃ ds, VL φ β w e ds := by
    intro sz t xs tail h
    simp only [ObjRel] at h
    rcases hb : β l with _ | (_ | p)
    · simp only [hb] at h
    · simp only [hb] at h
      obtain ⟨rfl, rfl⟩ := h
      exact ⟨⟨Nat.zero_le _, by simp⟩, fun q e he => by simp at he⟩
    · simp only [hb] at h
      obtain ⟨h1, h2, h3, hM, h4, h5, h6, h7, h8, h9⟩ := h
      refine ⟨⟨by omega, fun y hy => ?_⟩, fun q e he => ?_⟩
      · obtain ⟨i, hi⟩ := List.getElem?_of_mem hy
        obtain ⟨ds, hd, _⟩ := h8 i y hi
        exact Vt.wf hd
      · obtain ⟨_, ds, hd, _⟩ := h9 q e he
        exact ⟨ds, hd⟩
  cases p with
  | arr sz t tail =>
    obtain ⟨h1, h2⟩ := arr _ _ _ _ h
    exact ⟨h1, patsWfL_of tail x.2 h2⟩
  | box sz tail =>
    obtain ⟨h1, h2⟩ := arr _ _ _ _ h
    exact patsWfL_of tail x h2
  | map kt vt =>
    simp only [OPat.mk, ObjRel] at h
    obtain ⟨hM, p, ents, clock, _, _, _, _, he⟩ := h
    exact ⟨hM, entries_wf he⟩
  | siter =>
    simp only [OPat.mk, ObjRel] at h
    exact h.1
theorem opatsWf_rel : ∀ (ps : List OPat) (x : opatsDen ps), (∀ i : Nat, ∃ l, ObjRel φ β w l (((opatsMk ps x)[i]?).getD .dead)) → opatsWf ps x
  | [], _, _ => trivial
  | p :: r, x, h => by
    obtain ⟨l, h0⟩ := h 0
    exact ⟨OPat.wf_rel p x.1 (by simpa [opatsMk] using h0), opatsWf_rel r x.2 fun i => by simpa [opatsMk] using h (i + 1)⟩

theorem keysOk_V : ∀ {ps : List (Nat × Pat)} {s : Slots} {x : patsDen (ps.map (·.2))}, keysOk ps s = true → patsView (ps.map (·.2)) (s.map (·.2)) = some x → ∀ (t : Nat) u, V φ β w (lk .undef s t) u → V φ β w (lk .undef (zipS ps (patsMk (ps.map (·.2)) x)) t) u
  | [], s, x, h, hv, t, u, hV => by cases s <;> simp [keysOk] at h; simp [zipS, lk, V]
  | (k, p) :: ps, [], x, h, hv, t, u, hV => by simp [keysOk] at h
  | (k, p) :: ps, (k', v) :: s, x, h, hv, t, u, hV => by
    simp only [keysOk, Bool.and_eq_true] at h
    simp only [List.map_cons, patsView] at hv
    obtain ⟨a, h1, hv⟩ := bind_some hv
    obtain ⟨b, h2, hv⟩ := bind_some hv
    simp at hv
    subst hv
    have := Nat.eq_of_beq_eq_true h.1
    subst this
    show V φ β w (lk .undef ((k', p.mk a) :: zipS ps (patsMk (ps.map (·.2)) b)) t) u
    simp only [lk] at hV ⊢
    cases hb : Nat.beq k' t with
    | true => rw [hb] at hV; exact Pat.view_V p v a h1 u hV
    | false => rw [hb] at hV; exact keysOk_V h.2 h2 t u hV
theorem keysNum_eq : ∀ {i : Nat} {s : Objs}, keysNum i s = true → s = numbered i (s.map (·.2))
  | i, [], h => rfl
  | i, (u, v) :: s, h => by
    simp only [keysNum, Bool.and_eq_true] at h
    simp only [List.map_cons, numbered]
    rw [Nat.eq_of_beq_eq_true h.1, ← keysNum_eq h.2]
theorem SPat.view_tells {p : SPat} {s : St} {x : p.den} (h : p.view s = some x) : Tells P H k0 s (p.mk' x) := by
  unfold SPat.view at h
  obtain ⟨h0, h⟩ := cond_none h
  simp only [Bool.and_eq_true] at h0
  obtain ⟨a, h1, h⟩ := bind_some h
  obtain ⟨b, h2, h⟩ := bind_some h
  simp at h
  subst h
  have e2 := keysNum_eq h0.1.2
  have e3 := Nat.eq_of_beq_eq_true h0.2
  have hg : getO s.objs = fun l => ((s.objs.map (·.2))[l]?).getD .dead := by
    funext l
    conv => lhs; rw [e2]
    exact getO_numbered _ l
  have hg2 : getO (numbered 0 (opatsMk p.objs b)) = fun l => ((opatsMk p.objs b)[l]?).getD .dead := funext fun l => getO_numbered _ l
  refine fun own φ β a' w hrel => ⟨β, ⟨hrel.size, hrel.defers, fun y => keysOk_V h0.1.1 h1 y _ (hrel.slots y), ?_, fun l hl => ?_, by have := hrel.low; rw [e3] at this; exact this⟩, .refl⟩
  · have := hrel.inv
    rw [hg] at this
    show WInv own φ β (getO (numbered 0 (opatsMk p.objs b))) w
    rw [hg2]; exact this.view h2
  · have := hrel.top l (by rw [e3]; exact hl)
    refine ⟨?_, this.2⟩
    have hd := this.1
    rw [hg] at hd
    show getO (numbered 0 (opatsMk p.objs b)) l = _
    rw [hg2]
    exact ((opatsView_spec (φ := φ) (β := β) (w := w) h2).2 l).1.1 hd
end

def SPat.wf (p : SPat) (x : p.den) : Prop := patsWf (p.slots.map (·.2)) x.1 ∧ opatsWf p.objs x.2
/-- The slots' numbers differ. -/
def SPat.keys (p : SPat) : Bool := distinctB (p.slots.map (·.1))
section
variable {P : Program} [Tabs P] {own : Own P} {φ φ' : Nat → Nat} {β β' β2 : Beta} {w w' : World} {H : Hint} {k0 : Nat}
theorem zipS_wf : ∀ {ps : List (Nat × Pat)} {x : patsDen (ps.map (·.2))}, distinctB (ps.map (·.1)) = true → (∀ t : Nat, t ∈ ps.map (·.1) → ∃ u, V φ β w (lk .undef (zipS ps (patsMk (ps.map (·.2)) x)) t) u) → patsWf (ps.map (·.2)) x
  | [], _, _, _ => trivial
  | (k, p) :: ps, x, hd, h => by
    simp only [List.map_cons, distinctB, Bool.and_eq_true, Bool.not_eq_true'] at hd
    obtain ⟨u, h0⟩ := h k (by simp)
    have e0 : lk .undef (zipS ((k, p) :: ps) (patsMk (((k, p) :: ps).map (·.2)) x)) k = p.mk x.1 := by
      show lk .undef ((k, p.mk x.1) :: zipS ps (patsMk (ps.map (·.2)) x.2)) k = _
      simp [lk]
    rw [e0] at h0
    refine ⟨Pat.wf_V p x.1 u h0, zipS_wf hd.2 fun t ht => ?_⟩
    obtain ⟨u, h1⟩ := h t (List.mem_cons_of_mem _ ht)
    refine ⟨u, ?_⟩
    have hne : k ≠ t := fun e => by
      subst e
      have := has_mem.2 ht
      rw [hd.1] at this; cases this
    have e1 : lk .undef (zipS ((k, p) :: ps) (patsMk (((k, p) :: ps).map (·.2)) x)) t = lk .undef (zipS ps (patsMk (ps.map (·.2)) x.2)) t := by
      show lk .undef ((k, p.mk x.1) :: zipS ps (patsMk (ps.map (·.2)) x.2)) t = _
      have : Nat.beq k t = false := by
        cases hb : Nat.beq k t with
        | false => rfl
        | true => exact absurd (Nat.eq_of_beq_eq_true hb) hne
      simp [lk, this]
    rw [e1] at h1
    exact h1
theorem SPat.rel_wf {p : SPat} {x : p.den} (hk : p.keys = true) {a : Act} (h : Rel H k0 own φ β (p.mk' x) a w) : p.wf x := by
  have ho : ∀ i : Nat, ∃ l, ObjRel φ β w l (((opatsMk p.objs x.2)[i]?).getD .dead) := fun i => ⟨i, by
    have := h.inv.rel i
    have e : getO (p.mk' x).objs i = ((opatsMk p.objs x.2)[i]?).getD .dead := getO_numbered _ i
    rw [e] at this
    exact this⟩
  exact ⟨zipS_wf hk fun t _ => ⟨_, h.slots t⟩, opatsWf_rel p.objs x.2 ho⟩
end

/-! ### What is known of loops -/
structure LoopC where
  pat : SPat
  f : pat.den → List (Bool × Ex × St)
def LPof {R : Type} (tab : List (Nat × LoopC)) : Loops R := fun id s K => match lk? tab id with
  | some c => (c.pat.view s).bind fun x => pickK (fun r => K r.1 r.2) (c.f x)
  | none => none

section
variable {P : Program} [Tabs P] {E : Env} {H : Hint} {k0 : Nat} {R : Type}

/-- What is asked of a loop's contract. -/
def LoopOK (P : Program) [Tabs P] (H : Hint) (k0 : Nat) (b : Code) (c : LoopC) : Prop := c.pat.keys = true ∧ ∀ x e s', pick (c.f x) = some (e, s') → c.pat.wf x → CodeGood P H k0 (.loop b) (c.pat.mk' x) e.out s'

theorem LPof_good {tab : List (Nat × LoopC)} {c : Code} (h : ∀ b ∈ loopsIn c, ∀ lc, lk? tab (firstRegion b) = some lc → LoopOK P H k0 b lc) : LoopsGood P H k0 (LPof (R := R) tab) c := fun b hb s K r hr => by
  unfold LPof at hr
  split at hr
  · rename_i lc hlc
    obtain ⟨x, hx, hr⟩ := bind_some hr
    obtain ⟨⟨e, s'⟩, hp, hr⟩ := pickK_sound hr
    obtain ⟨hk, h2⟩ := h b hb lc hlc
    refine ⟨e, s', hr, CodeGood.before (SPat.view_tells hx) fun own φ β a w hrel => h2 x e s' hp (SPat.rel_wf hk hrel) own φ β a w hrel⟩
  · cases hr

/-- One round. -/
def roundK (E : Env) (H : Hint) (k0 : Nat) (LP : Loops R) (live : List Nat) (b : Code) (s : St) (K : Ex → St → Option R) : Option R :=
  ev E H k0 LP b s fun e s' => canonK k0 live s' fun s2 => K e s2
/-- Rounds, up to so many. -/
def rounds (E : Env) (H : Hint) (k0 : Nat) (LP : Loops R) (live : List Nat) (b : Code) : Nat → St → (Ex → St → Option R) → Option R
  | 0, _, _ => none
  | n + 1, s, K => roundK E H k0 LP live b s fun e s2 => match e with
    | .normal => rounds E H k0 LP live b n s2 K
    | e => K e s2
theorem rounds_eq (E : Env) (H : Hint) (k0 : Nat) (LP : Loops R) (live : List Nat) (b : Code) : ∀ (n : Nat) (s : St) (K : Ex → St → Option R), rounds E H k0 LP live b n s K = loopN k0 live (fun s K => ev E H k0 LP b s K) n s K
  | 0, s, K => rfl
  | n + 1, s, K => by
    unfold rounds loopN roundK
    congr 1
    funext e s'
    cases e with
    | normal =>
      simp only
      congr 1
      funext s2
      exact rounds_eq E H k0 LP live b n s2 K
    | exit i => rfl
    | ret => rfl

theorem loop_good (hE : EnvOK P E) (hg : GlobOK P E) (hm : P.follows .mixedOrders = true) {LP : Loops (Ex × St)} {b : Code} (hb : LoopsGood P H k0 LP b) {live : List Nat} {n : Nat} {s : St} {e : Ex} {s' : St}
    (h : rounds E H k0 LP live b n s (fun e s => some (e, s)) = some (e, s')) : CodeGood P H k0 (.loop b) s e.out s' := by
  rw [rounds_eq] at h
  obtain ⟨e2, s2, h1, h2⟩ := loopN_sound (b := b) (fun s K r h => ev_sound hE hg hm b hb s K r h) n s _ _ h
  simp at h1
  obtain ⟨rfl, rfl⟩ := h1
  exact fun own φ β a w hrel Q hQ => wp_loop_rounds n (h2 own φ β a w hrel Q hQ)
end
end Go.Sim
