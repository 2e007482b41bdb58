/-
  SimCon: contracts of functions over plain data: 'for such arguments, such results'.
-/
import Derived.Test.YtpkjlefincabiaaDoorSimPat
namespace Go.Sim
set_option linter.unusedSectionVars false
set_option linter.unusedSimpArgs false
set_option linter.unusedVariables false

/-- Data as a value. -/
def valOf (t : Ty) (x : t.den) : AV := match enc t x with
  | [c] => c
  | cs => .agg cs
def viewTy (t : Ty) (v : AV) : Option t.den := cond (aggOk v t.sz) (dec t v.cells) none

@[reducible] def tysDen : List Ty → Type
  | [] => Unit
  | t :: r => t.den × tysDen r
def valsOf : (ts : List Ty) → tysDen ts → List AV
  | [], _ => []
  | t :: r, x => valOf t x.1 :: valsOf r x.2
def viewTys : (ts : List Ty) → List AV → Option (tysDen ts)
  | [], [] => some ()
  | t :: r, v :: vs => (viewTy t v).bind fun x => (viewTys r vs).bind fun y => some (x, y)
  | _, _ => none

/-- An argument: data, or a function (its captured values are data). -/
inductive InP where
  | ty (t : Ty)
  | fn (n : FuncId) (caps : List Ty)
@[reducible] def InP.den : InP → Type
  | .ty t => t.den
  | .fn _ caps => tysDen caps
def InP.view : (p : InP) → AV → Option p.den
  | .ty t, v => viewTy t v
  | .fn n caps, .fn (.func m) [] cap => cond (Nat.beq m n) (viewTys caps cap) none
  | _, _ => none
def InP.mk : (p : InP) → p.den → AV
  | .ty t, x => valOf t x
  | .fn n caps, x => .fn (.func n) [] (valsOf caps x)
@[reducible] def insDen : List InP → Type
  | [] => Unit
  | p :: r => p.den × insDen r
def insView : (ps : List InP) → List AV → Option (insDen ps)
  | [], [] => some ()
  | p :: r, v :: vs => (p.view v).bind fun x => (insView r vs).bind fun y => some (x, y)
  | _, _ => none
def insMk : (ps : List InP) → insDen ps → List AV
  | [], _ => []
  | p :: r, x => p.mk x.1 :: insMk r x.2

/-- One case of a contract: arguments, results, what comes to what. -/
structure PCase where
  ins : List InP
  outs : List Ty
  f : insDen ins → List (Bool × tysDen outs)
def mapAlt {α β : Type} (g : α → β) : List (Bool × α) → List (Bool × β)
  | [] => []
  | (c, v) :: r => (c, g v) :: mapAlt g r
def pureOf : List PCase → List AV → List (Bool × AV)
  | [], _ => []
  | c :: r, args => match insView c.ins args with
    | some x => mapAlt (fun y => oneOr (valsOf c.outs y)) (c.f x)
    | none => pureOf r args

theorem pick_mapAlt {α β : Type} {g : α → β} : ∀ {l : List (Bool × α)} {r : β}, pick (mapAlt g l) = some r → ∃ a, pick l = some a ∧ r = g a
  | [], r, h => by cases h
  | (c, v) :: l, r, h => by
    simp only [mapAlt, pick] at h ⊢
    cases c with
    | true => simp at h; exact ⟨v, rfl, h.symm⟩
    | false => exact pick_mapAlt h

theorem enc_closed : ∀ (t : Ty) (x : t.den), closedL (enc t x) = true
  | .bool, _ => rfl
  | .int _, _ => rfl
  | .str, _ => rfl
  | .sl _, _ => rfl
  | .pair a b, x => by
    simp only [enc]
    have h1 := enc_closed a x.1
    have h2 := enc_closed b x.2
    generalize enc a x.1 = l at h1
    induction l with
    | nil => exact h2
    | cons c l ih =>
      simp only [closedL, Bool.and_eq_true, List.cons_append] at h1 ⊢
      exact ⟨h1.1, ih h1.2⟩
theorem valOf_closed (t : Ty) (x : t.den) : (valOf t x).closed = true := by
  have h := enc_closed t x
  unfold valOf
  split
  · rename_i c hc
    rw [hc] at h
    simpa [closedL] using h
  · exact h
theorem valsOf_closed : ∀ (ts : List Ty) (x : tysDen ts), closedL (valsOf ts x) = true
  | [], _ => rfl
  | t :: r, x => by simp [valsOf, closedL, valOf_closed, valsOf_closed r x.2]
theorem oneOr_closed {l : List AV} (h : closedL l = true) : (oneOr l).closed = true := by
  match l, h with
  | [], h => rfl
  | [v], h => simpa [oneOr, closedL] using h
  | v :: u :: r, h => simpa only [oneOr, AV.closed] using h
theorem insMk_closed : ∀ (ps : List InP) (x : insDen ps), closedL (insMk ps x) = true
  | [], _ => rfl
  | .ty t :: r, x => by simp [insMk, closedL, InP.mk, valOf_closed, insMk_closed r x.2]
  | .fn n caps :: r, x => by simp [insMk, closedL, InP.mk, AV.closed, valsOf_closed, insMk_closed r x.2]

section
variable {P : Program} [Tabs P] {E : Env} {H : Hint} {k0 : Nat} {R : Type}
variable {own : Own P} {φ φ' : Nat → Nat} {β β' β2 : Beta} {w w' : World}

theorem viewTy_V {t : Ty} {v : AV} {x : t.den} (h : viewTy t v = some x) {u : Value} (hV : V φ β w v u) : V φ β w (valOf t x) u := by
  unfold viewTy at h
  obtain ⟨h1, h2⟩ := cond_none h
  obtain ⟨g1, g2, g3⟩ := val_cells hV h2 h1
  refine val_whole g1 g2 g3 ?_
  have hl := enc_length t x
  unfold valOf
  cases hb : Nat.blt 1 t.sz with
  | true =>
    have : 1 < t.sz := by simpa [Nat.blt_eq] using hb
    simp only [whole, cond_true]
    match he : enc t x with
    | [] => rfl
    | [c] => rw [he] at hl; simp at hl; omega
    | c :: d :: r => rfl
  | false =>
    have h0 := sz_pos t
    have : ¬ 1 < t.sz := fun h => by rw [← Nat.blt_eq] at h; rw [h] at hb; cases hb
    simp only [whole, cond_false]
    match he : enc t x with
    | [] => rw [he] at hl; simp at hl; omega
    | [c] => rfl
    | c :: d :: r => rw [he] at hl; simp at hl; omega
theorem viewTys_V : ∀ {ts : List Ty} {vs : List AV} {x : tysDen ts}, viewTys ts vs = some x → ∀ {us : List Value}, VL φ β w vs us → VL φ β w (valsOf ts x) us
  | [], vs, x, h, us, hV => by cases vs <;> simp [viewTys] at h; exact hV
  | t :: r, [], x, h, us, hV => by simp [viewTys] at h
  | t :: r, v :: vs, x, h, us, hV => by
    simp only [viewTys] at h
    obtain ⟨a, h1, h⟩ := bind_some h
    obtain ⟨b, h2, h⟩ := bind_some h
    simp at h
    subst h
    simp only [VL] at hV
    obtain ⟨u, us', rfl, g1, g2⟩ := hV
    exact .cons (viewTy_V h1 g1) (viewTys_V h2 g2)
theorem InP.view_V {p : InP} {v : AV} {x : p.den} (h : p.view v = some x) {u : Value} (hV : V φ β w v u) : V φ β w (p.mk x) u := by
  cases p with
  | ty t => exact viewTy_V h hV
  | fn n caps =>
    cases v with
    | fn g first cap =>
      cases g with
      | func m =>
        cases first with
        | nil =>
          simp only [InP.view] at h
          obtain ⟨h1, h2⟩ := cond_none h
          have := Nat.eq_of_beq_eq_true h1
          subst this
          simp only [InP.mk, V] at hV ⊢
          obtain ⟨us, vs, g1, g2, g3⟩ := hV
          exact ⟨us, vs, g1, g2, viewTys_V h2 g3⟩
        | cons a b => simp [InP.view] at h
      | _ => simp [InP.view] at h
    | _ => simp [InP.view] at h
theorem insView_V : ∀ {ps : List InP} {vs : List AV} {x : insDen ps}, insView ps vs = some x → ∀ {us : List Value}, VL φ β w vs us → VL φ β w (insMk ps x) us
  | [], vs, x, h, us, hV => by cases vs <;> simp [insView] at h; exact hV
  | t :: r, [], x, h, us, hV => by simp [insView] at h
  | t :: r, v :: vs, x, h, us, hV => by
    simp only [insView] at h
    obtain ⟨a, h1, h⟩ := bind_some h
    obtain ⟨b, h2, h⟩ := bind_some h
    simp at h
    subst h
    simp only [VL] at hV
    obtain ⟨u, us', rfl, g1, g2⟩ := hV
    exact .cons (InP.view_V h1 g1) (insView_V h2 g2)

theorem dec_enc : ∀ (t : Ty) (x : t.den), dec t (enc t x) = some x
  | .bool, _ => rfl
  | .int k, _ => by simp [enc, dec]
  | .str, _ => rfl
  | .sl e, _ => by simp [enc, dec, asVl]
  | .pair a b, x => by
    simp only [enc, dec]
    rw [List.take_left' (enc_length a x.1), List.drop_left' (enc_length a x.1), dec_enc a, dec_enc b]
    rfl
theorem valOf_wf {t : Ty} {x : t.den} {u : Value} (h : V φ β w (valOf t x) u) : wfT t x := by
  have hde := dec_enc t x
  unfold valOf at h
  split at h
  · rename_i c hc
    rw [hc] at hde
    exact Vt.wf (dec_sound t _ _ _ hde (.cons h (us := []) rfl))
  · simp only [V] at h
    obtain ⟨vs, _, h⟩ := h
    exact Vt.wf (dec_sound t _ _ _ hde h)
def tysWf : (ts : List Ty) → tysDen ts → Prop
  | [], _ => True
  | t :: r, x => wfT t x.1 ∧ tysWf r x.2
theorem valsOf_wf : ∀ {ts : List Ty} {x : tysDen ts} {us : List Value}, VL φ β w (valsOf ts x) us → tysWf ts x
  | [], _, _, _ => trivial
  | t :: r, x, us, h => by
    simp only [valsOf, VL] at h
    obtain ⟨u, us', _, h1, h2⟩ := h
    exact ⟨valOf_wf h1, valsOf_wf h2⟩
def InP.wf : (p : InP) → p.den → Prop
  | .ty t, x => wfT t x
  | .fn _ caps, x => tysWf caps x
def insWf : (ps : List InP) → insDen ps → Prop
  | [], _ => True
  | p :: r, x => p.wf x.1 ∧ insWf r x.2
theorem insMk_wf : ∀ {ps : List InP} {x : insDen ps} {us : List Value}, VL φ β w (insMk ps x) us → insWf ps x
  | [], _, _, _ => trivial
  | p :: r, x, us, h => by
    simp only [insMk, VL] at h
    obtain ⟨u, us', _, h1, h2⟩ := h
    refine ⟨?_, insMk_wf h2⟩
    cases p with
    | ty t => exact valOf_wf h1
    | fn n caps =>
      simp only [InP.mk, V] at h1
      obtain ⟨_, vs, _, _, h3⟩ := h1
      exact valsOf_wf h3

/-- What is asked of a case. -/
def PCase.ok (P : Program) [Tabs P] (n : FuncId) (c : PCase) : Prop := ∀ x y, pick (c.f x) = some y → insWf c.ins x → ∃ objs', EffGood P n (insMk c.ins x) [] (oneOr (valsOf c.outs y)) objs'
theorem pureOf_holds {n : FuncId} : ∀ {cs : List PCase}, (∀ c ∈ cs, c.ok P n) → HoldsP P n (pureOf cs)
  | [], _ => fun args r h => by cases h
  | c :: cs, hc => fun args r h hcl hr φ β w vs hV hφ => by
    simp only [pureOf] at h
    split at h
    · rename_i x hx
      obtain ⟨y, hy, rfl⟩ := pick_mapAlt h
      have hV' := insView_V hx hV
      obtain ⟨objs', hG⟩ := hc c (by simp) x y hy (insMk_wf hV')
      exact hG.pure (insMk_closed _ _) (oneOr_closed (valsOf_closed _ _)) φ β w vs hV' hφ
    · exact pureOf_holds (fun c' hc' => hc c' (List.mem_cons_of_mem _ hc')) args r h hcl hr φ β w vs hV hφ

/-- A function's case out of its evaluation. -/
theorem case_ok (hE : EnvOK P E) (hg : GlobOK P E) (hm : P.follows .mixedOrders = true) {n : FuncId} {fn : Func} (hf : P.funcs[n]? = some fn) {c : PCase} {cd : Code} (hb : fn.body = some cd)
    (hok : (Nat.beq H.nt fn.ntmps && Nat.ble c.ins.length fn.ntmps) = true) {LP : Loops (AV × List AObj)} (hL : LoopsGood P H 0 LP cd)
    (h : ∀ x y, pick (c.f x) = some y → insWf c.ins x → ∃ objs', evFn E H LP fn (insMk c.ins x) [] (finK 0) = some (oneOr (valsOf c.outs y), objs')) : c.ok P n := fun x y hxy hwf => by
  obtain ⟨objs', he⟩ := h x y hxy hwf
  have hlen : ∀ (ps : List InP) (x : insDen ps), (insMk ps x).length = ps.length := fun ps => by
    induction ps with
    | nil => intro _; rfl
    | cons p ps ih => intro x; simp [insMk, ih]
  exact ⟨objs', evFn_sound hE hg hm hf (args := insMk c.ins x) (objs := []) (by unfold fnOk; rw [hlen]; exact hok) hb hL he⟩
end

/-! ### Contracts of calls that meet objects -/
structure ECase where
  ins : List Pat
  objs : List OPat
  f : patsDen ins → opatsDen objs → List (Bool × AV × List AObj)
def effOf : List ECase → List AV → List AObj → List (Bool × AV × List AObj)
  | [], _, _ => []
  | c :: r, args, objs => match patsView c.ins args with
    | some x => match opatsView c.objs objs with
      | some y => c.f x y
      | none => effOf r args objs
    | none => effOf r args objs

section
variable {P : Program} [Tabs P] {E : Env} {H : Hint} {k0 : Nat} {R : Type}
theorem EffGood.view {n : FuncId} {ins : List Pat} {ops : List OPat} {args : List AV} {objs : List AObj} {x : patsDen ins} {y : opatsDen ops} (hx : patsView ins args = some x) (hy : opatsView ops objs = some y) {r : AV} {objs' : List AObj}
    (h : patsWf ins x → opatsWf ops y → EffGood P n (patsMk ins x) (opatsMk ops y) r objs') : EffGood P n args objs r objs' := fun own φ β w vs hV hW htop => by
  have hlen := (opatsView_spec (φ := φ) (β := β) (w := w) hy).1
  have hV' := patsView_V _ _ _ hx _ hV
  have hW' := hW.view hy
  have := h (patsWf_V _ _ _ hV') (opatsWf_rel _ _ fun i => ⟨i, hW'.rel i⟩) own φ β w vs hV' hW' (by rw [hlen]; exact htop)
  rw [hlen] at this
  exact this
def ECase.ok (P : Program) [Tabs P] (n : FuncId) (c : ECase) : Prop := ∀ x y r objs', pick (c.f x y) = some (r, objs') → patsWf c.ins x → opatsWf c.objs y → EffGood P n (patsMk c.ins x) (opatsMk c.objs y) r objs'
theorem effOf_holds {n : FuncId} : ∀ {cs : List ECase}, (∀ c ∈ cs, c.ok P n) → ∀ args objs r objs', pick (effOf cs args objs) = some (r, objs') → EffGood P n args objs r objs'
  | [], _ => fun args objs r objs' h => by cases h
  | c :: cs, hc => fun args objs r objs' h => by
    simp only [effOf] at h
    split at h
    · rename_i x hx
      split at h
      · rename_i y hy
        exact EffGood.view hx hy (hc c (by simp) x y r objs' h)
      · exact effOf_holds (fun c' hc' => hc c' (List.mem_cons_of_mem _ hc')) args objs r objs' h
    · exact effOf_holds (fun c' hc' => hc c' (List.mem_cons_of_mem _ hc')) args objs r objs' h
theorem ecase_ok (hE : EnvOK P E) (hg : GlobOK P E) (hm : P.follows .mixedOrders = true) {n : FuncId} {fn : Func} (hf : P.funcs[n]? = some fn) {c : ECase} {cd : Code} (hb : fn.body = some cd)
    (hok : (Nat.beq H.nt fn.ntmps && Nat.ble c.ins.length fn.ntmps) = true) {LP : Loops (AV × List AObj)} (hL : LoopsGood P H c.objs.length LP cd)
    (h : ∀ x y r objs', pick (c.f x y) = some (r, objs') → patsWf c.ins x → opatsWf c.objs y → evFn E H LP fn (patsMk c.ins x) (opatsMk c.objs y) (finK c.objs.length) = some (r, objs')) : c.ok P n := fun x y r objs' hxy hw1 hw2 => by
  have he := h x y r objs' hxy hw1 hw2
  have hlen : ∀ (ps : List Pat) (x : patsDen ps), (patsMk ps x).length = ps.length := fun ps => by
    induction ps with
    | nil => intro _; rfl
    | cons p ps ih => intro x; simp [patsMk, ih]
  have holen : ∀ (ps : List OPat) (x : opatsDen ps), (opatsMk ps x).length = ps.length := fun ps => by
    induction ps with
    | nil => intro _; rfl
    | cons p ps ih => intro x; simp [opatsMk, ih]
  rw [← holen c.objs y] at hL he
  exact evFn_sound hE hg hm hf (args := patsMk c.ins x) (objs := opatsMk c.objs y) (by unfold fnOk; rw [hlen]; exact hok) hb hL he
end
end Go.Sim
