/-
  SimCon: contracts of functions over plain data: 'for such arguments, such results'. · SimRow: what is known of a program's types, by computation. · SimEntry: from a row's arguments, which read as data, to the abstract machine's data; and back. · SBk: the rows' count of readings counts what it must. · SEnvN: the environment: types, functions, words to the machine. WRITTEN BY PROGRAM (envgen.py). · SimAux: small laws for proofs over the abstract machine's equations. · SimBrw: a call that only looks: rows that lie in objects are told as data while the call lasts. · SimMv: a function of whose objects only the first few keep their numbers; the others go over to it. · PlBase: the types of the program's data. · PlTy: the program's kinds of data: records, commands, segments. · PlSch: what searches in lists come to. · PlUtf: runes of a text in plain Lean. · PlWrd: eight bytes at once. · PlTab: the tables of package utf8. · PlVal: right UTF-8 in plain Lean. · PlSkp: plain letters are passed over, many at once. · PlNam: which texts are names, in plain Lean. · PlSvc: what chapters 10 and 21 say of commands and requests, in plain Lean. · PlEnc: whole numbers as bytes: the plain side. · PlEnr: records as bytes: the plain side. · PlCrc: the sum of bytes: the plain side. · WkU1: walks of numbers and records, for segments. WRITTEN BY PROGRAM (genU.py). · WkU2: walks of sums and frames, for segments. WRITTEN BY PROGRAM (genU.py). · WkU3: walks of records' bytes.
-/
import Derived.OpenShut
import Derived.ProofKit
import Derived.Test.YtjjikahgiffpbaaRows
import Derived.Test.YtjjikahgiffpbaaChecked
import Derived.Test.YtjjikahgiffpbaaPartC
namespace Go.Sim
set_option linter.unusedSectionVars false
set_option linter.unusedSimpArgs false
set_option linter.unusedVariables false
inductive InP where
  | ty (t : Ty)
  | fn (n : FuncId) (caps : List Ty)
@[reducible] def InP.den : InP → Type
  | .ty t => t.den
  | .fn _ caps => tysDen caps
def InP.view : (p : InP) → AV → Option p.den
  | .ty t, v => viewTy t v
  | .fn n caps, .fn (.func m) [] cap => cond (Nat.beq m n) (viewTys caps cap) none
  | _, _ => none
def InP.mk : (p : InP) → p.den → AV
  | .ty t, x => valOf t x
  | .fn n caps, x => .fn (.func n) [] (valsOf caps x)
@[reducible] def insDen : List InP → Type
  | [] => Unit
  | p :: r => p.den × insDen r
def insView : (ps : List InP) → List AV → Option (insDen ps)
  | [], [] => some ()
  | p :: r, v :: vs => (p.view v).bind fun x => (insView r vs).bind fun y => some (x, y)
  | _, _ => none
def insMk : (ps : List InP) → insDen ps → List AV
  | [], _ => []
  | p :: r, x => p.mk x.1 :: insMk r x.2
structure PCase where
  ins : List InP
  outs : List Ty
  f : insDen ins → List (Bool × tysDen outs)
def mapAlt {α β : Type} (g : α → β) : List (Bool × α) → List (Bool × β)
  | [] => []
  | (c, v) :: r => (c, g v) :: mapAlt g r
def pureOf : List PCase → List AV → List (Bool × AV)
  | [], _ => []
  | c :: r, args => match insView c.ins args with
    | some x => mapAlt (fun y => oneOr (valsOf c.outs y)) (c.f x)
    | none => pureOf r args
theorem pick_mapAlt {α β : Type} {g : α → β} : ∀ {l : List (Bool × α)} {r : β}, pick (mapAlt g l) = some r → ∃ a, pick l = some a ∧ r = g a
  | [], r, h => by cases h
  | (c, v) :: l, r, h => by
    simp only [mapAlt, pick] at h ⊢
    cases c with
    | true => simp at h; exact ⟨v, rfl, h.symm⟩
    | false => exact pick_mapAlt h
theorem enc_closed : ∀ (t : Ty) (x : t.den), closedL (enc t x) = true
  | .raw, _ => rfl
  | .bool, _ => rfl
  | .int _, _ => rfl
  | .str, _ => rfl
  | .sl _, _ => rfl
  | .pair a b, x => by
    simp only [enc]
    have h1 := enc_closed a x.1
    have h2 := enc_closed b x.2
    generalize enc a x.1 = l at h1
    induction l with
    | nil => exact h2
    | cons c l ih =>
      simp only [closedL, Bool.and_eq_true, List.cons_append] at h1 ⊢
      exact ⟨h1.1, ih h1.2⟩
theorem valOf_closed (t : Ty) (x : t.den) : (valOf t x).closed = true := by
  have h := enc_closed t x
  unfold valOf
  split
  · rename_i c hc
    rw [hc] at h
    simpa [closedL] using h
  · exact h
theorem valsOf_closed : ∀ (ts : List Ty) (x : tysDen ts), closedL (valsOf ts x) = true
  | [], _ => rfl
  | t :: r, x => by simp [valsOf, closedL, valOf_closed, valsOf_closed r x.2]
theorem oneOr_closed {l : List AV} (h : closedL l = true) : (oneOr l).closed = true := by
  match l, h with
  | [], h => rfl
  | [v], h => simpa [oneOr, closedL] using h
  | v :: u :: r, h => simpa only [oneOr, AV.closed] using h
theorem insMk_closed : ∀ (ps : List InP) (x : insDen ps), closedL (insMk ps x) = true
  | [], _ => rfl
  | .ty t :: r, x => by simp [insMk, closedL, InP.mk, valOf_closed, insMk_closed r x.2]
  | .fn n caps :: r, x => by simp [insMk, closedL, InP.mk, AV.closed, valsOf_closed, insMk_closed r x.2]
section
variable {P : Program} [Tabs P] {E : Env} {H : Hint} {k0 : Nat} {R : Type}
variable {own : Own P} {φ φ' : Nat → Nat} {β β' β2 : Beta} {w w' : World}
theorem InP.view_V {p : InP} {v : AV} {x : p.den} (h : p.view v = some x) {u : Value} (hV : V φ β w v u) : V φ β w (p.mk x) u := by
  cases p with
  | ty t => exact viewTy_V h hV
  | fn n caps =>
    cases v with
    | fn g first cap =>
      cases g with
      | func m =>
        cases first with
        | nil =>
          simp only [InP.view] at h
          obtain ⟨h1, h2⟩ := cond_none h
          have := Nat.eq_of_beq_eq_true h1
          subst this
          simp only [InP.mk, V] at hV ⊢
          obtain ⟨us, vs, g1, g2, g3⟩ := hV
          exact ⟨us, vs, g1, g2, viewTys_V h2 g3⟩
        | cons a b => simp [InP.view] at h
      | _ => simp [InP.view] at h
    | _ => simp [InP.view] at h
theorem insView_V : ∀ {ps : List InP} {vs : List AV} {x : insDen ps}, insView ps vs = some x → ∀ {us : List Value}, VL φ β w vs us → VL φ β w (insMk ps x) us
  | [], vs, x, h, us, hV => by cases vs <;> simp [insView] at h; exact hV
  | t :: r, [], x, h, us, hV => by simp [insView] at h
  | t :: r, v :: vs, x, h, us, hV => by
    simp only [insView] at h
    obtain ⟨a, h1, h⟩ := bind_some h
    obtain ⟨b, h2, h⟩ := bind_some h
    simp at h
    subst h
    simp only [VL] at hV
    obtain ⟨u, us', rfl, g1, g2⟩ := hV
    exact .cons (InP.view_V h1 g1) (insView_V h2 g2)
theorem dec_enc : ∀ (t : Ty) (x : t.den), dec t (enc t x) = some x
  | .raw, _ => rfl
  | .bool, _ => rfl
  | .int k, _ => by simp [enc, dec]
  | .str, _ => rfl
  | .sl e, _ => by simp [enc, dec, asVl]
  | .pair a b, x => by
    simp only [enc, dec]
    rw [List.take_left' (enc_length a x.1), List.drop_left' (enc_length a x.1), dec_enc a, dec_enc b]
    rfl
theorem valOf_wf {t : Ty} {x : t.den} {u : Value} (h : V φ β w (valOf t x) u) : wfT t x := by
  have hde := dec_enc t x
  unfold valOf at h
  split at h
  · rename_i c hc
    rw [hc] at hde
    exact Vt.wf (dec_sound t _ _ _ hde (.cons h (us := []) rfl))
  · simp only [V] at h
    obtain ⟨vs, _, h⟩ := h
    exact Vt.wf (dec_sound t _ _ _ hde h)
def tysWf : (ts : List Ty) → tysDen ts → Prop
  | [], _ => True
  | t :: r, x => wfT t x.1 ∧ tysWf r x.2
theorem valsOf_wf : ∀ {ts : List Ty} {x : tysDen ts} {us : List Value}, VL φ β w (valsOf ts x) us → tysWf ts x
  | [], _, _, _ => trivial
  | t :: r, x, us, h => by
    simp only [valsOf, VL] at h
    obtain ⟨u, us', _, h1, h2⟩ := h
    exact ⟨valOf_wf h1, valsOf_wf h2⟩
def InP.wf : (p : InP) → p.den → Prop
  | .ty t, x => wfT t x
  | .fn _ caps, x => tysWf caps x
def insWf : (ps : List InP) → insDen ps → Prop
  | [], _ => True
  | p :: r, x => p.wf x.1 ∧ insWf r x.2
theorem insMk_wf : ∀ {ps : List InP} {x : insDen ps} {us : List Value}, VL φ β w (insMk ps x) us → insWf ps x
  | [], _, _, _ => trivial
  | p :: r, x, us, h => by
    simp only [insMk, VL] at h
    obtain ⟨u, us', _, h1, h2⟩ := h
    refine ⟨?_, insMk_wf h2⟩
    cases p with
    | ty t => exact valOf_wf h1
    | fn n caps =>
      simp only [InP.mk, V] at h1
      obtain ⟨_, vs, _, _, h3⟩ := h1
      exact valsOf_wf h3
def parts : AV → List AV
  | .tup vs => vs
  | v => [v]
def finT (ts : List Ty) (v : AV) (s : St) : Option (tysDen ts) := viewTys ts (closeL (getO s.objs) (match ts with | [_] => [v] | _ => parts v))
theorem finT_V : ∀ {ts : List Ty} {v : AV} {s : St} {y : tysDen ts}, finT ts v s = some y → (∀ l, ObjRel φ β w l (getO s.objs l)) → ∀ {u : Value}, V φ β w v u → V φ β w (oneOr (valsOf ts y)) u
  | [t], v, s, y, h, hW, u, hV => by
    unfold finT at h
    simp only at h
    have := viewTys_V h (us := [u]) (closeL_V (get' := getO s.objs) (fun _ _ => rfl) hW (.cons hV rfl))
    simp only [valsOf, VL] at this
    obtain ⟨u', us', e1, h1, e2⟩ := this
    cases e1
    exact h1
  | [], v, s, y, h, hW, u, hV => by
    unfold finT at h
    simp only at h
    cases v with
    | tup vs =>
      cases vs with
      | nil => exact hV
      | cons a b => simp [parts, closeL, viewTys] at h
    | _ => simp [parts, closeL, viewTys] at h
  | t :: t2 :: r, v, s, y, h, hW, u, hV => by
    unfold finT at h
    simp only at h
    have hno : ∀ v : AV, viewTys (t :: t2 :: r) (closeL (getO s.objs) [v]) = some y → False := fun v h => by
      simp only [viewTys, closeL] at h
      obtain ⟨a, _, h⟩ := bind_some h
      obtain ⟨b, h, _⟩ := bind_some h
      cases h
    cases v with
    | tup vs =>
      simp only [parts] at h
      simp only [V] at hV
      obtain ⟨us, rfl, hV⟩ := hV
      have := viewTys_V h (closeL_V (get' := getO s.objs) (fun _ _ => rfl) hW hV)
      show V φ β w (oneOr (valOf t y.1 :: valOf t2 y.2.1 :: valsOf r y.2.2)) _
      simp only [oneOr, V]
      exact ⟨us, rfl, this⟩
    | _ => exact (hno _ h).elim
def PCase.ok (P : Program) [Tabs P] (n : FuncId) (c : PCase) : Prop := ∀ x y, pick (c.f x) = some y → insWf c.ins x → ∃ objs', EffGood P n (insMk c.ins x) [] (oneOr (valsOf c.outs y)) objs'
theorem pureOf_holds {n : FuncId} : ∀ {cs : List PCase}, (∀ c ∈ cs, c.ok P n) → HoldsP P n (pureOf cs)
  | [], _ => fun args r h => by cases h
  | c :: cs, hc => fun args r h hcl hr φ β w vs hV hφ => by
    simp only [pureOf] at h
    split at h
    · rename_i x hx
      obtain ⟨y, hy, rfl⟩ := pick_mapAlt h
      have hV' := insView_V hx hV
      obtain ⟨objs', hG⟩ := hc c (by simp) x y hy (insMk_wf hV')
      exact hG.pure (insMk_closed _ _) (oneOr_closed (valsOf_closed _ _)) φ β w vs hV' hφ
    · exact pureOf_holds (fun c' hc' => hc c' (List.mem_cons_of_mem _ hc')) args r h hcl hr φ β w vs hV hφ
theorem case_ok (hE : EnvOK P E) (hg : GlobOK P E) (hm : P.follows .mixedOrders = true) {n : FuncId} {fn : Func} (hf : P.funcs[n]? = some fn) {c : PCase} {cd : Code} (hb : fn.body = some cd)
    (hok : (Nat.beq H.nt fn.ntmps && Nat.ble c.ins.length fn.ntmps) = true) {LP : Loops (AV × List AObj)} (hL : LoopsGood P H 0 LP cd)
    (h : ∀ x y, pick (c.f x) = some y → insWf c.ins x → ∃ objs', evFn E H LP fn (insMk c.ins x) [] (finK 0) = some (oneOr (valsOf c.outs y), objs')) : c.ok P n := fun x y hxy hwf => by
  obtain ⟨objs', he⟩ := h x y hxy hwf
  have hlen : ∀ (ps : List InP) (x : insDen ps), (insMk ps x).length = ps.length := fun ps => by
    induction ps with
    | nil => intro _; rfl
    | cons p ps ih => intro x; simp [insMk, ih]
  exact ⟨objs', evFn_sound hE hg hm hf (args := insMk c.ins x) (objs := []) (by unfold fnOk; rw [hlen]; exact hok) hb hL he⟩
end
section
variable {P : Program} [Tabs P] {E : Env} {H : Hint}
theorem case_ok2 (hE : EnvOK P E) (hg : GlobOK P E) (hm : P.follows .mixedOrders = true) {n : FuncId} {fn : Func} (hf : P.funcs[n]? = some fn) {c : PCase} {cd : Code} (hb : fn.body = some cd)
    (hok : (Nat.beq H.nt fn.ntmps && Nat.ble c.ins.length fn.ntmps) = true) {LP : Loops (tysDen c.outs)} (hL : LoopsGood P H 0 LP cd)
    (h : ∀ x y, pick (c.f x) = some y → insWf c.ins x → evFn E H LP fn (insMk c.ins x) [] (finT c.outs) = some y) : c.ok P n := fun x y hxy hwf => by
  have he := h x y hxy hwf
  have hlen : ∀ (ps : List InP) (x : insDen ps), (insMk ps x).length = ps.length := fun ps => by
    induction ps with
    | nil => intro _; rfl
    | cons p ps ih => intro x; simp [insMk, ih]
  obtain ⟨v, s', hv, hC⟩ := evFn_core hE hg hm hf (args := insMk c.ins x) (objs := []) (by unfold fnOk; rw [hlen]; exact hok) hb hL he
  refine ⟨[], fun own φ β w vs hV hW ht => (hC own φ β w vs hV hW ht).mono fun e w' ⟨u, φ', β', he, hrun, hVu, hWI, _⟩ => ?_⟩
  refine ⟨u, φ', fun _ => none, he, ⟨hrun.keeps, fun l hl => by simp at hl, hrun.grow, hrun.old⟩, V.closed _ _ _ (oneOr_closed (valsOf_closed _ _)) (finT_V hv hWI.rel hVu), ?_, fun _ _ => rfl⟩
  exact ⟨fun l => by simp [ObjRel], fun l p hl => by simp at hl, fun l m p q _ hl => by simp at hl, hWI.fresh, hWI.laid⟩
end
structure ECase where
  ins : List Pat
  objs : List OPat
  f : patsDen ins → opatsDen objs → List (Bool × AV × List AObj)
def effOf : List ECase → List AV → List AObj → List (Bool × AV × List AObj)
  | [], _, _ => []
  | c :: r, args, objs => match patsView c.ins args with
    | some x => match opatsView c.objs objs with
      | some y => c.f x y
      | none => effOf r args objs
    | none => effOf r args objs
section
variable {P : Program} [Tabs P] {E : Env} {H : Hint} {k0 : Nat} {R : Type}
theorem EffGood.view {n : FuncId} {ins : List Pat} {ops : List OPat} {args : List AV} {objs : List AObj} {x : patsDen ins} {y : opatsDen ops} (hx : patsView ins args = some x) (hy : opatsView ops objs = some y) {r : AV} {objs' : List AObj}
    (h : patsWf ins x → opatsWf ops y → EffGood P n (patsMk ins x) (opatsMk ops y) r objs') : EffGood P n args objs r objs' := fun own φ β w vs hV hW htop => by
  have hlen := (opatsView_spec (φ := φ) (β := β) (w := w) hy).1
  have hV' := patsView_V _ _ _ hx _ hV
  have hW' := hW.view hy
  have := h (patsWf_V _ _ _ hV') (opatsWf_rel _ _ fun i => ⟨i, hW'.rel i⟩) own φ β w vs hV' hW' (by rw [hlen]; exact htop)
  rw [hlen] at this
  exact this
def ECase.ok (P : Program) [Tabs P] (n : FuncId) (c : ECase) : Prop := ∀ x y r objs', pick (c.f x y) = some (r, objs') → patsWf c.ins x → opatsWf c.objs y → EffGood P n (patsMk c.ins x) (opatsMk c.objs y) r objs'
theorem effOf_holds {n : FuncId} : ∀ {cs : List ECase}, (∀ c ∈ cs, c.ok P n) → ∀ args objs r objs', pick (effOf cs args objs) = some (r, objs') → EffGood P n args objs r objs'
  | [], _ => fun args objs r objs' h => by cases h
  | c :: cs, hc => fun args objs r objs' h => by
    simp only [effOf] at h
    split at h
    · rename_i x hx
      split at h
      · rename_i y hy
        exact EffGood.view hx hy (hc c (by simp) x y r objs' h)
      · exact effOf_holds (fun c' hc' => hc c' (List.mem_cons_of_mem _ hc')) args objs r objs' h
    · exact effOf_holds (fun c' hc' => hc c' (List.mem_cons_of_mem _ hc')) args objs r objs' h
theorem ecase_ok (hE : EnvOK P E) (hg : GlobOK P E) (hm : P.follows .mixedOrders = true) {n : FuncId} {fn : Func} (hf : P.funcs[n]? = some fn) {c : ECase} {cd : Code} (hb : fn.body = some cd)
    (hok : (Nat.beq H.nt fn.ntmps && Nat.ble c.ins.length fn.ntmps) = true) {LP : Loops (AV × List AObj)} (hL : LoopsGood P H c.objs.length LP cd)
    (h : ∀ x y r objs', pick (c.f x y) = some (r, objs') → patsWf c.ins x → opatsWf c.objs y → evFn E H LP fn (patsMk c.ins x) (opatsMk c.objs y) (finK c.objs.length) = some (r, objs')) : c.ok P n := fun x y r objs' hxy hw1 hw2 => by
  have he := h x y r objs' hxy hw1 hw2
  have hlen : ∀ (ps : List Pat) (x : patsDen ps), (patsMk ps x).length = ps.length := fun ps => by
    induction ps with
    | nil => intro _; rfl
    | cons p ps ih => intro x; simp [patsMk, ih]
  have holen : ∀ (ps : List OPat) (x : opatsDen ps), (opatsMk ps x).length = ps.length := fun ps => by
    induction ps with
    | nil => intro _; rfl
    | cons p ps ih => intro x; simp [opatsMk, ih]
  rw [← holen c.objs y] at hL he
  exact evFn_sound hE hg hm hf (args := patsMk c.ins x) (objs := opatsMk c.objs y) (by unfold fnOk; rw [hlen]; exact hok) hb hL he
structure VCase where
  ins : List Pat
  objs : List OPat
  out : Pat
  outs : List OPat
  f : patsDen ins → opatsDen objs → List (Bool × out.den × opatsDen outs)
def VCase.e (c : VCase) : ECase := ⟨c.ins, c.objs, fun x y => mapAlt (fun r => (c.out.mk r.1, opatsMk c.outs r.2)) (c.f x y)⟩
def finV (out : Pat) (outs : List OPat) (k0 : Nat) (v : AV) (s : St) : Option (out.den × opatsDen outs) := (finK k0 v s).bind fun r => (out.view r.1).bind fun a => (opatsView outs r.2).bind fun b => some (a, b)
theorem EffGood.told {n : FuncId} {args : List AV} {objs objs' : List AObj} {r : AV} (h : EffGood P n args objs r objs') {out : Pat} {outs : List OPat} {a : out.den} {b : opatsDen outs} (ha : out.view r = some a) (hb : opatsView outs objs' = some b) :
    EffGood P n args objs (out.mk a) (opatsMk outs b) := fun own φ β w vs hV hW ht => (h own φ β w vs hV hW ht).mono fun e w' ⟨v, φ', β', he, hrun, hVr, hWI, htop⟩ =>
  ⟨v, φ', β', he, hrun, Pat.view_V _ _ _ ha _ hVr, hWI.view hb, fun l hl => htop l (by rw [(opatsView_spec (φ := φ') (β := β') (w := w') hb).1] at hl; exact hl)⟩
theorem vcase_ok (hE : EnvOK P E) (hg : GlobOK P E) (hm : P.follows .mixedOrders = true) {n : FuncId} {fn : Func} (hf : P.funcs[n]? = some fn) {c : VCase} {cd : Code} (hb : fn.body = some cd)
    (hok : (Nat.beq H.nt fn.ntmps && Nat.ble c.ins.length fn.ntmps) = true) {LP : Loops (c.out.den × opatsDen c.outs)} (hL : LoopsGood P H c.objs.length LP cd)
    (h : ∀ x y r, pick (c.f x y) = some r → patsWf c.ins x → opatsWf c.objs y → evFn E H LP fn (patsMk c.ins x) (opatsMk c.objs y) (finV c.out c.outs c.objs.length) = some r) : c.e.ok P n := fun (x : patsDen c.ins) (y : opatsDen c.objs) r objs' hxy hw1 hw2 => by
  obtain ⟨z, hz, e0⟩ := pick_mapAlt hxy
  cases e0
  have he := h x y z hz hw1 hw2
  have hlen : ∀ (ps : List Pat) (x : patsDen ps), (patsMk ps x).length = ps.length := fun ps => by
    induction ps with
    | nil => intro _; rfl
    | cons p ps ih => intro x; simp [patsMk, ih]
  have holen : ∀ (ps : List OPat) (x : opatsDen ps), (opatsMk ps x).length = ps.length := fun ps => by
    induction ps with
    | nil => intro _; rfl
    | cons p ps ih => intro x; simp [opatsMk, ih]
  have hl : c.objs.length = (opatsMk c.objs y).length := (holen c.objs y).symm
  rw [hl] at hL he
  obtain ⟨v, s', hv, hC⟩ := evFn_core hE hg hm hf (args := patsMk c.ins x) (objs := opatsMk c.objs y) (by unfold fnOk; rw [hlen c.ins x]; exact hok) hb hL he
  unfold finV at hv
  obtain ⟨⟨r, os⟩, h1, hv⟩ := bind_some hv
  obtain ⟨a, h2, hv⟩ := bind_some hv
  obtain ⟨b, h3, hv⟩ := bind_some hv
  cases hv
  have hE2 := fin_sound h1 hC
  exact hE2.told h2 h3
theorem eff_of_ev (hE : EnvOK P E) (hg : GlobOK P E) (hm : P.follows .mixedOrders = true) {n : FuncId} {fn : Func} (hf : P.funcs[n]? = some fn) {cd : Code} (hb : fn.body = some cd) {args : List AV} {objs : List AObj}
    (hok : (Nat.beq H.nt fn.ntmps && Nat.ble args.length fn.ntmps) = true) {out : Pat} {outs : List OPat} {LP : Loops (out.den × opatsDen outs)} (hL : LoopsGood P H objs.length LP cd) {a : out.den} {b : opatsDen outs}
    (h : evFn E H LP fn args objs (finV out outs objs.length) = some (a, b)) : EffGood P n args objs (out.mk a) (opatsMk outs b) := by
  obtain ⟨v, s', hv, hC⟩ := evFn_core hE hg hm hf (args := args) (objs := objs) (by unfold fnOk; exact hok) hb hL h
  unfold finV at hv
  obtain ⟨⟨r, os⟩, h1, hv⟩ := bind_some hv
  obtain ⟨a', h2, hv⟩ := bind_some hv
  obtain ⟨b', h3, hv⟩ := bind_some hv
  cases hv
  exact (fin_sound h1 hC).told h2 h3
def inl (E : Env) (H : Hint) (fn : Func) (LP : (R : Type) → Nat → Loops R) : Con := .cps fun R args objs K =>
  cond (fnOk H fn args.length) (evFn E H (LP R objs.length) fn args objs fun v s => (finK objs.length v s).bind K) none
theorem inl_ok (hE : EnvOK P E) (hg : GlobOK P E) (hm : P.follows .mixedOrders = true) {n : FuncId} {fn : Func} (hf : P.funcs[n]? = some fn) {cd : Code} (hb : fn.body = some cd) (hcal : Called P n)
    {LP : (R : Type) → Nat → Loops R} (hL : ∀ R k0, LoopsGood P H k0 (LP R k0) cd) : HoldsC P n (inl E H fn LP) :=
  ⟨fun R args objs K x h => by
    obtain ⟨hok, h⟩ := cond_none h
    obtain ⟨v, s', h, hC⟩ := evFn_core hE hg hm hf hok hb (hL R objs.length) h
    obtain ⟨⟨r, objs'⟩, h1, h2⟩ := bind_some h
    exact ⟨(r, objs'), h2, fin_sound h1 hC⟩, hcal⟩
end
end Go.Sim
namespace Go.Sim
set_option linter.unusedSectionVars false
set_option linter.unusedSimpArgs false
set_option linter.unusedVariables false
def zeroB : AV → Value → Bool
  | .bool a, .bool b => a == b
  | .int k n, .int k' m => k == k' && n == m && n == 0
  | .str s, .string b => s.isEmpty && b.data.toList.isEmpty
  | .nilp, .pointer none => true
  | .nils, .slice none 0 0 => true
  | .nilif, .nilIface => true
  | .undef, _ => true
  | _, _ => false
def zeroLB : List AV → List Value → Bool
  | [], [] => true
  | a :: r, v :: s => zeroB a v && zeroLB r s
  | _, _ => false
def isAggV : Value → Bool
  | .agg _ => true
  | _ => false
def fieldB (P : Program) (f : Field) : Bool := match P.info? f.type with
  | some i => (!(i.size == 0)) && (match P.underlying f.type with | some d => aggB d == !(i.size == 1) | none => false)
  | none => false
def eqFieldsB (P : Program) : Nat → List Field → List Ty → Bool
  | _, [], [] => true
  | k, f :: fs, y :: ys => (!(f.name == "_")) && f.offset == k && (match y, P.underlying f.type with | .bool, some .bool => true | .str, some .string => true | .int n, some (.int m) => m == n | _, _ => false) && eqFieldsB P (k + 1) fs ys
  | _, _, _ => false
def kindB (P : Program) (t : TypeId) (k : Row) : Bool := match k, P.underlying t with
  | .flat, some (.struct _) => false
  | .flat, some (.array _ _) => false
  | .flat, some (.interface _) => false
  | .flat, some _ => true
  | .int k, some (.int k') => k' == k
  | .bool, some .bool => true
  | .str, some .string => true
  | .struct fs eq, some (.struct fields) => decide (fields.toList.mapM (fun (f : Field) => (P.info? f.type).map fun i => (f.offset, i.size)) = some fs) && fields.toList.all (fieldB P) &&
      (eq.isEmpty || (!P.stoodInHeld t && !P.eqGuardType P.depth t && eqFieldsB P 0 fields.toList eq))
  | .slice e, some (.slice e') => e' == e
  | .ptr e, some (.pointer e') => e' == e
  | .map a b, some (.map a' b') => a' == a && b' == b
  | .iface, some (.interface _) => true
  | .array n e, some (.array n' e') => n' == n && e' == e
  | _, _ => false
def rowB (P : Program) (t : TypeId) (r : TRow) : Bool := (match P.info? t with
  | some i => i.size == r.size && i.bytes == r.bytes && (match i.zero with
    | some z => z.cells.toList.length == r.size && isAggV z == r.kind.isAgg && zeroLB r.zero z.cells.toList
    | none => false)
  | none => false) && kindB P t r.kind
def vtZeroB : Ty → List Value → Bool
  | .bool, [.bool b] => !b
  | .int k, [.int k' n] => k' == k && n == 0
  | .str, [.string s] => s.data.toList.isEmpty
  | .sl _, [.slice none 0 0] => true
  | .pair a b, cs => vtZeroB a (cs.take a.sz) && vtZeroB b (cs.drop a.sz)
  | .raw, [.slice none 0 0] => true
  | _, _ => false
def tyB (P : Program) (t : TypeId) (y : Ty) : Bool := match P.info? t with
  | some i => i.size == y.sz && (match i.zero with
    | some z => vtZeroB y z.cells.toList && isAggV z == Nat.blt 1 y.sz
    | none => false) && (match y, P.underlying t with | .bool, some .bool => true | .int k, some (.int k') => k' == k | .str, some .string => true | .sl _, _ => true | .pair _ _, _ => true | .raw, _ => true | _, _ => false)
  | none => false
def allB (P : Program) (rows : List (TypeId × TRow)) (tys : List (TypeId × Ty)) : Bool := rows.all (fun x => rowB P x.1 x.2) && tys.all fun x => tyB P x.1 x.2
section
variable {P : Program} [Tabs P]
theorem zeroB_V {φ : Nat → Nat} {β : Beta} {w : World} {a : AV} {v : Value} (h : zeroB a v = true) : V φ β w a v := by
  cases a with
  | undef => simp [V]
  | bool a => cases v with
    | bool b => simp [zeroB] at h; subst h; rfl
    | _ => simp [zeroB] at h
  | int k a => cases v with
    | int k' b => simp [zeroB] at h; obtain ⟨⟨rfl, rfl⟩, rfl⟩ := h; exact ⟨rfl, In.zero _⟩
    | _ => simp [zeroB] at h
  | str a => cases v with
    | string s =>
      simp [zeroB] at h
      obtain ⟨rfl, h⟩ := h
      cases s with
      | mk a => simp at h; subst h; exact ⟨rfl, Nat.zero_le _⟩
    | _ => simp [zeroB] at h
  | nilp => cases v with
    | pointer p => cases p with
      | none => rfl
      | some q => simp [zeroB] at h
    | _ => simp [zeroB] at h
  | nils =>
    match v, h with
    | .slice none 0 0, h => rfl
  | nilif => cases v with
    | nilIface => rfl
    | _ => simp [zeroB] at h
  | _ => simp [zeroB] at h
theorem zeroLB_V {φ : Nat → Nat} {β : Beta} {w : World} : ∀ {a : List AV} {v : List Value}, zeroLB a v = true → VL φ β w a v
  | [], [], _ => rfl
  | [], _ :: _, h => by simp [zeroLB] at h
  | _ :: _, [], h => by simp [zeroLB] at h
  | a :: r, v :: s, h => by
    simp only [zeroLB, Bool.and_eq_true] at h
    exact .cons (zeroB_V h.1) (zeroLB_V h.2)
theorem agg_cells {z : Value} (h : isAggV z = true) : z = .agg z.cells := by cases z <;> simp [isAggV] at h; rfl
theorem one_cells {z : Value} (h : isAggV z = false) : z.cells = #[z] := by cases z <;> simp [isAggV] at h <;> rfl
theorem eqFieldsB_ok : ∀ {k : Nat} {fs : List Field} {ys : List Ty}, eqFieldsB P k fs ys = true → EqFieldsOK P k fs ys
  | _, [], [], _ => trivial
  | _, [], _ :: _, h => by simp [eqFieldsB] at h
  | _, _ :: _, [], h => by simp [eqFieldsB] at h
  | k, f :: fs, y :: ys, h => by
    simp only [eqFieldsB, Bool.and_eq_true] at h
    refine ⟨by simpa using h.1.1.1, by simpa using h.1.1.2, ?_, eqFieldsB_ok h.2⟩
    have h1 := h.1.2
    revert h1
    cases y <;> cases hu : P.underlying f.type with
    | none => simp
    | some d => cases d <;> simp
theorem kindB_ok {t : TypeId} {k : Row} (h : kindB P t k = true) : match (generalizing := false) k with
    | .flat => ∃ d, P.underlying t = some d ∧ (match d with | .struct _ | .array _ _ | .interface _ => False | _ => True)
    | .int k => P.underlying t = some (.int k)
    | .bool => P.underlying t = some .bool
    | .str => P.underlying t = some .string
    | .struct fs eq => ∃ fields, P.underlying t = some (.struct fields) ∧ fields.toList.mapM (fun (f : Field) => (P.info? f.type).map fun i => (f.offset, i.size)) = some fs ∧
        (∀ (f : Field), f ∈ fields.toList → ∀ i, P.info? f.type = some i → i.size ≠ 0 ∧ ∃ d, P.underlying f.type = some d ∧ aggB d = !(i.size == 1)) ∧
        (eq ≠ [] → P.stoodInHeld t = false ∧ P.eqGuardType P.depth t = false ∧ EqFieldsOK P 0 fields.toList eq)
    | .slice e => P.underlying t = some (.slice e)
    | .ptr e => P.underlying t = some (.pointer e)
    | .map k v => P.underlying t = some (.map k v)
    | .iface => ∃ ms, P.underlying t = some (.interface ms)
    | .array n e => P.underlying t = some (.array n e) := by
  unfold kindB at h
  cases hu : P.underlying t with
  | none => rw [hu] at h; cases k <;> simp at h
  | some d =>
    rw [hu] at h
    cases k with
    | flat => cases d <;> simp at h ⊢
    | struct fs eq =>
      cases d with
      | struct fields =>
        simp only [Bool.and_eq_true, decide_eq_true_eq, Bool.or_eq_true, Bool.not_eq_true', List.all_eq_true] at h
        refine ⟨fields, rfl, h.1.1, fun f hf i hi => ?_, fun hne => ?_⟩
        · have := h.1.2 f hf
          unfold fieldB at this
          rw [hi] at this
          simp only [Bool.and_eq_true] at this
          refine ⟨by simpa using this.1, ?_⟩
          cases hd : P.underlying f.type with
          | none => rw [hd] at this; simp at this
          | some d => rw [hd] at this; exact ⟨d, rfl, by simpa using this.2⟩
        · rcases h.2 with h2 | h2
          · simp at h2; exact absurd h2 hne
          · exact ⟨h2.1.1, h2.1.2, eqFieldsB_ok h2.2⟩
      | _ => simp at h
    | int k => cases d <;> simp at h ⊢; exact h
    | bool => cases d <;> simp at h ⊢
    | str => cases d <;> simp at h ⊢
    | slice e => cases d <;> simp at h ⊢; exact h
    | ptr e => cases d <;> simp at h ⊢; exact h
    | map a b => cases d <;> simp at h ⊢; exact h
    | iface => cases d <;> simp at h ⊢
    | array n e => cases d <;> simp at h ⊢; exact h
theorem rowB_ok {t : TypeId} {r : TRow} (h : rowB P t r = true) : RowOK P t r := by
  unfold rowB at h
  simp only [Bool.and_eq_true] at h
  refine ⟨?_, kindB_ok h.2⟩
  have h := h.1
  cases hi : P.info? t with
  | none => rw [hi] at h; cases h
  | some i =>
    rw [hi] at h
    simp only [Bool.and_eq_true] at h
    cases hz : i.zero with
    | none => rw [hz] at h; simp at h
    | some z =>
      rw [hz] at h
      simp only [Bool.and_eq_true, beq_iff_eq] at h
      obtain ⟨⟨h1, h2⟩, ⟨h3, h4⟩, h5⟩ := h
      exact ⟨i, z, rfl, h1, h2, hz, h3, fun hk => agg_cells (h4.trans hk), fun hk => one_cells (h4.trans hk), fun φ β w => zeroLB_V h5⟩
theorem vtZeroB_ok {φ : Nat → Nat} {w : World} : ∀ {y : Ty} {cs : List Value}, vtZeroB y cs = true → Vt φ w y y.zero cs := by
  intro y
  induction y with
  | bool =>
    intro cs h
    match cs, h with
    | [.bool b], h => simp [vtZeroB] at h; subst h; rfl
  | int k =>
    intro cs h
    match cs, h with
    | [.int k' n], h => simp [vtZeroB] at h; obtain ⟨rfl, rfl⟩ := h; exact ⟨rfl, In.zero _⟩
  | str =>
    intro cs h
    match cs, h with
    | [.string s], h =>
      simp [vtZeroB] at h
      simp only [Vt, Ty.zero]
      cases s with
      | mk a => simp at h; subst h; exact ⟨rfl, Nat.zero_le _⟩
  | sl e _ =>
    intro cs h
    match cs, h with
    | [.slice none 0 0], h => exact Vt.nilSl e none
  | pair a b iha ihb =>
    intro cs h
    simp only [vtZeroB, Bool.and_eq_true] at h
    exact ⟨cs.take a.sz, cs.drop a.sz, by simp, iha h.1, ihb h.2⟩
  | raw =>
    intro cs h
    match cs, h with
    | [.slice none 0 0], h => exact ⟨rfl, rfl⟩
theorem tyB_ok {t : TypeId} {y : Ty} (h : tyB P t y = true) : TyOK P t y := by
  unfold tyB at h
  cases hi : P.info? t with
  | none => rw [hi] at h; cases h
  | some i =>
    rw [hi] at h
    simp only [Bool.and_eq_true, beq_iff_eq] at h
    obtain ⟨⟨h1, h2⟩, h3⟩ := h
    cases hz : i.zero with
    | none => rw [hz] at h2; cases h2
    | some z =>
      rw [hz] at h2
      simp only [Bool.and_eq_true, beq_iff_eq] at h2
      obtain ⟨h2, h4⟩ := h2
      have hV : ∀ φ w, Vt φ w y y.zero z.cells.toList := fun φ w => vtZeroB_ok h2
      have gen : ∃ i z, P.info? t = some i ∧ i.size = y.sz ∧ i.zero = some z ∧ (∀ φ w, Vt φ w y y.zero z.cells.toList) ∧ (1 < y.sz → z = .agg z.cells) ∧ (y.sz = 1 → z.cells = #[z]) :=
        ⟨i, z, hi, h1, hz, hV, fun hk => agg_cells (by rw [h4]; simpa [Nat.blt_eq] using hk), fun hk => one_cells (by rw [h4, hk]; rfl)⟩
      have one : y.sz = 1 → z.cells = #[z] := fun hk => one_cells (by rw [h4, hk]; rfl)
      cases y with
      | bool =>
        have hc := one rfl
        have := hV (fun _ => 0) default
        rw [hc] at this
        simp only [Vt, Ty.zero] at this
        refine ⟨?_, i, hi, h1, by rw [hz]; simp at this; simp [this]⟩
        cases hu : P.underlying t with
        | none => rw [hu] at h3; simp at h3
        | some d => rw [hu] at h3; cases d <;> simp at h3; rfl
      | int k =>
        have hc := one rfl
        have := hV (fun _ => 0) default
        rw [hc] at this
        simp only [Vt, Ty.zero] at this
        refine ⟨?_, i, hi, h1, by rw [hz]; simp at this; simp [this]⟩
        cases hu : P.underlying t with
        | none => rw [hu] at h3; simp at h3
        | some d => rw [hu] at h3; cases d <;> simp at h3; rw [h3]
      | str =>
        have hc := one rfl
        have := hV (fun _ => 0) default
        rw [hc] at this
        simp only [Vt, Ty.zero] at this
        refine ⟨?_, i, hi, h1, by rw [hz]; simp at this; simp [this]⟩
        cases hu : P.underlying t with
        | none => rw [hu] at h3; simp at h3
        | some d => rw [hu] at h3; cases d <;> simp at h3; rfl
      | sl e => exact gen
      | pair a b => exact gen
      | raw => exact gen
theorem lk?_mem {β : Type} : ∀ {l : List (Nat × β)} {k : Nat} {v : β}, lk? l k = some v → (k, v) ∈ l
  | [], k, v, h => by cases h
  | (a, b) :: l, k, v, h => by
    simp only [lk?] at h
    cases hb : Nat.beq a k with
    | true => rw [hb] at h; simp at h; have := Nat.eq_of_beq_eq_true hb; subst this; subst h; simp
    | false => rw [hb] at h; exact List.mem_cons_of_mem _ (lk?_mem h)
def lkC : List (FuncId × Con) → Nat → Con
  | [], _ => .none
  | (k, v) :: r, i => cond (Nat.beq k i) v (lkC r i)
theorem lkC_mem : ∀ {l : List (FuncId × Con)} {k : Nat}, lkC l k = .none ∨ (k, lkC l k) ∈ l
  | [], k => .inl rfl
  | (a, b) :: l, k => by
    simp only [lkC]
    cases hb : Nat.beq a k with
    | true => have := Nat.eq_of_beq_eq_true hb; subst this; exact .inr (by simp)
    | false => exact (lkC_mem (l := l)).imp id (List.mem_cons_of_mem _)
def mkEnv (rows : List (TypeId × TRow)) (tys : List (TypeId × Ty)) (cons : List (FuncId × Con)) (glob : List (Nat × AV) := []) : Env := { rows := rows, ty := tys, con := fun n => lkC cons n, glob := glob }
theorem mkEnv_ok {rows : List (TypeId × TRow)} {tys : List (TypeId × Ty)} {cons : List (FuncId × Con)} {glob : List (Nat × AV)} (h : allB P rows tys = true) (hc : ∀ x ∈ cons, HoldsC P x.1 x.2) : EnvOK P (mkEnv rows tys cons glob) := by
  unfold allB at h
  simp only [Bool.and_eq_true, List.all_eq_true] at h
  refine ⟨fun t r hr => rowB_ok (h.1 _ (lk?_mem hr)), fun t y hy => tyB_ok (h.2 _ (lk?_mem hy)), fun n => ?_⟩
  show HoldsC P n (lkC cons n)
  rcases lkC_mem (l := cons) (k := n) with h0 | h0
  · rw [h0]; trivial
  · exact hc _ h0
end
end Go.Sim
namespace Go.Sim
set_option linter.unusedSectionVars false
open Go.ChangeShapes Go.WideShapes Go.ChangeAt Go.RowKit
set_option linter.unusedSimpArgs false
set_option linter.unusedVariables false
def arrF (P : Program) (m : Nat) (e : TypeId) : List Field := (List.range m).map fun i => { name := "", type := e, offset := i * P.cellsOf e, embedded := false, tag := "", pkgPath := "", byteOffset := 0 }
mutual
def tyRelB (P : Program) : Nat → TypeId → Ty → Bool
  | 0, _, _ => false
  | n + 1, t, y => match y, P.underlying t with
    | .bool, some .bool => true
    | .int k, some (.int k') => k' == k
    | .str, some .string => true
    | .sl e, some (.slice t') => tyRelB P n t' e && P.cellsOf t' == e.sz
    | .pair a b, some (.struct fs) => P.cellsOf t == a.sz + b.sz && fldRelB P n 0 fs.toList (.pair a b)
    | .pair a b, some (.array m e) => P.cellsOf t == a.sz + b.sz && fldRelB P n 0 (arrF P m e) (.pair a b)
    | _, _ => false
def fldRelB (P : Program) : Nat → Nat → List Field → Ty → Bool
  | 0, _, _, _ => false
  | n + 1, off, [f], y => f.offset == off && P.cellsOf f.type == y.sz && tyRelB P n f.type y
  | n + 1, off, f :: g :: r, y => match y with
    | .pair a b => f.offset == off && P.cellsOf f.type == a.sz && tyRelB P n f.type a && fldRelB P n (off + a.sz) (g :: r) b
    | _ => false
  | _, _, [], _ => false
end
def tysRelB (P : Program) : List TypeId → List Ty → Bool
  | [], [] => true
  | t :: ts, y :: ys => tyRelB P 100 t y && tysRelB P ts ys
  | _, _ => false
def bulkT : (t : Ty) → t.den → Nat
  | .raw, _ => 1
  | .bool, _ => 1
  | .int _, _ => 1
  | .str, s => s.length + 1
  | .sl e, xs => (xs.map (bulkT e)).sum + 1
  | .pair a b, x => bulkT a x.1 + bulkT b x.2
def bulkTs : (ts : List Ty) → tysDen ts → Nat
  | [], _ => 0
  | t :: r, x => bulkT t x.1 + bulkTs r x.2
section
variable {P : Program} [Tabs P] {H : Type} {enc : TypeId × Value → H} {W : World} {sp : Nat → Bool}
def phi0 (W : World) : Nat → Nat := fun b => match W.heap[b]? with
  | some (.cells c _ _) => c.size
  | _ => 0
theorem cell_phi0 {b o : Nat} {v : Value} {s : Option _} (h : W.cell? ⟨b, o, s⟩ = some v) : W.cell? ⟨b, o, none⟩ = some v ∧ o < phi0 W b ∧ s = none := by
  unfold World.cell? at h ⊢
  unfold phi0
  cases hb : W.heap[b]? with
  | none => simp [hb] at h
  | some ob =>
    cases ob with
    | cells c t fr =>
      simp only [hb] at h ⊢
      split at h
      · cases h
      · rename_i hs
        have : s = none := by simpa using hs
        subst this
        exact ⟨by simpa using h, (Array.getElem?_eq_some_iff.1 h).1, rfl⟩
    | _ => simp [hb] at h
structure BulkOK (B : DataW H → Nat) : Prop where
  one : ∀ d, 1 ≤ B d
  str : ∀ b, b.length + 1 ≤ B (.lit (.string b))
  sl : ∀ es s, (es.map B).sum + 1 ≤ B (.slice es s)
  agg : ∀ ps, (ps.map B).sum ≤ B (.agg ps)
theorem pick_list {α γ : Type} {R : Nat → γ → Prop} {bk : γ → Nat} {B : α → Nat} : ∀ (es : List α) (o : Nat), (∀ (k : Nat) (e : α), es[k]? = some e → ∃ x, R (o + k) x ∧ bk x ≤ B e) →
    ∃ xs : List γ, xs.length = es.length ∧ (∀ (k : Nat) x, xs[k]? = some x → R (o + k) x) ∧ (xs.map bk).sum ≤ (es.map B).sum
  | [], o, _ => ⟨[], rfl, fun k x hk => by simp at hk, by simp⟩
  | e :: es, o, h => by
    obtain ⟨x, h1, h2⟩ := h 0 e rfl
    obtain ⟨xs, g1, g2, g3⟩ := pick_list (R := R) (bk := bk) (B := B) es (o + 1) fun k e' hk => by
      have := h (k + 1) e' (by simpa using hk)
      rw [show o + (k + 1) = o + 1 + k from by omega] at this
      exact this
    refine ⟨x :: xs, by simp [g1], fun k y hy => ?_, by simp; omega⟩
    cases k with
    | zero => simp at hy; subst hy; exact h1
    | succ k =>
      have := g2 k y (by simpa using hy)
      rw [show o + (k + 1) = o + 1 + k from by omega]
      exact this
theorem cells_row {a : Addr} {n : Nat} {ds : List Value} (h : W.cells? 0 a n = some ds) : ds.length = n ∧ ∀ i v, ds[i]? = some v → W.cell? (a.add i) = some v := by
  unfold World.cells? at h
  rw [if_pos (Nat.zero_le _)] at h
  have hl : ds.length = n := by simpa using mapM_some_length h
  refine ⟨hl, fun i v hi => ?_⟩
  have hlt : i < n := by have := (List.getElem?_eq_some_iff.1 hi).1; omega
  have := mapM_some_get h i i (by rw [List.getElem?_range hlt])
  rw [this]; exact hi
theorem wf_In {k : IntKind} {n : Int} (h : (Lit.int k n).wf = true) : In k n := by
  simp only [Lit.wf, Bool.and_eq_true, decide_eq_true_eq] at h
  exact h
mutual
theorem trod_Vt {B : DataW H → Nat} (hB : BulkOK B) : ∀ (n : Nat) (t : TypeId) (y : Ty), tyRelB P n t y = true → ∀ (fuel : Nat) (cs : List Value) (d : DataW H × List MemPlace),
    DataW.trod enc P W 0 sp true fuel t cs = some d → ∃ x : y.den, Vt (phi0 W) W y x cs ∧ bulkT y x ≤ B d.1
  | 0, t, y, h, _, _, _, _ => by simp [tyRelB] at h
  | n + 1, t, .bool, h, fuel, cs, d, hd => by
    have hu : P.underlying t = some .bool := by
      unfold tyRelB at h
      cases hu : P.underlying t with
      | none => rw [hu] at h; simp at h
      | some q => rw [hu] at h; cases q <;> simp at h; rfl
    obtain ⟨b, rfl, rfl⟩ := DataW.trod_bool hu hd
    exact ⟨b, rfl, hB.one _⟩
  | n + 1, t, .int k, h, fuel, cs, d, hd => by
    have hu : P.underlying t = some (.int k) := by
      unfold tyRelB at h
      cases hu : P.underlying t with
      | none => rw [hu] at h; simp at h
      | some q => rw [hu] at h; cases q <;> simp at h; rw [h]
    obtain ⟨b, rfl, rfl, hw⟩ := DataW.trod_int hu hd
    exact ⟨b, ⟨rfl, wf_In hw⟩, hB.one _⟩
  | n + 1, t, .str, h, fuel, cs, d, hd => by
    have hu : P.underlying t = some .string := by
      unfold tyRelB at h
      cases hu : P.underlying t with
      | none => rw [hu] at h; simp at h
      | some q => rw [hu] at h; cases q <;> simp at h; rfl
    obtain ⟨s, rfl, rfl, hw⟩ := DataW.trod_string hu hd
    refine ⟨s.data.toList, ⟨by cases s; rfl, ?_⟩, hB.str _⟩
    have e : s.data.toList.length = s.size := by rw [Array.length_toList]; rfl
    unfold maxLen at hw
    unfold maxL
    omega
  | n + 1, t, .sl e, h, fuel, cs, d, hd => by
    obtain ⟨t', hu, h1, h2⟩ : ∃ t', P.underlying t = some (.slice t') ∧ tyRelB P n t' e = true ∧ P.cellsOf t' = e.sz := by
      unfold tyRelB at h
      cases hu : P.underlying t with
      | none => rw [hu] at h; simp at h
      | some q => rw [hu] at h; cases q <;> simp at h; exact ⟨_, rfl, h⟩
    rcases DataW.trod_slice hu hd with ⟨rfl, rfl⟩ | ⟨a, len, cap, elems, rest, m, rfl, rfl, rfl, _, hlc, hcm, hel, hat, _, _⟩
    · exact ⟨[], Vt.nilSl e none, by simpa [bulkT] using hB.one _⟩
    · rw [h2] at hat
      obtain ⟨xs, g1, g2, g3⟩ := pick_list (R := fun i x => ∃ ds, Vt (phi0 W) W e x ds ∧ W.cells? 0 (a.add (i * e.sz)) e.sz = some ds) (bk := bulkT e) (B := fun x : DataW H × List MemPlace => B x.1) elems 0 fun k el hk => by
        have hlt : k < len := by rw [← hel]; exact (List.getElem?_eq_some_iff.1 hk).1
        have := hat k hlt
        rw [hk] at this
        obtain ⟨ds, hc, ht⟩ := Option.bind_eq_some_iff.1 this
        obtain ⟨x, hx, hb⟩ := trod_Vt hB n t' e h1 m ds el ht
        rw [Nat.zero_add]
        exact ⟨x, ⟨ds, hx, hc⟩, hb⟩
      refine ⟨xs, ⟨by unfold maxLen at hcm; unfold maxL; omega, some a, cap, by rw [g1, hel], by omega, fun i x hx => ?_⟩, ?_⟩
      · obtain ⟨ds, hx1, hx2⟩ := g2 i x hx
        rw [Nat.zero_add] at hx2
        obtain ⟨hl, hc⟩ := cells_row hx2
        have hpos := sz_pos e
        have hspot : a.spot = none := by
          have hxl : 0 < xs.length := by have := (List.getElem?_eq_some_iff.1 hx).1; omega
          obtain ⟨d0, _, e2⟩ := g2 0 xs[0] (List.getElem?_eq_getElem hxl)
          obtain ⟨hl0, hc0⟩ := cells_row e2
          have h0 : 0 < d0.length := by omega
          have := hc0 0 _ (List.getElem?_eq_getElem h0)
          have e0 : (a.add ((0 + 0) * e.sz)).add 0 = a := by simp [Addr.add]
          rw [e0] at this
          exact (cell_phi0 this).2.2
        refine ⟨a, ds, rfl, hspot, hx1, fun j v hj => ?_⟩
        have := hc j v hj
        rw [addr_add' hspot, addr_add' rfl] at this
        have h3 := cell_phi0 this
        exact ⟨h3.1, h3.2.1⟩
      · simp only [bulkT]
        have := hB.sl (elems.map (·.1)) (rest.map (·.1))
        rw [List.map_map] at this
        exact Nat.le_trans (Nat.add_le_add_right g3 1) this
  | n + 1, t, .pair a b, h, fuel, cs, d, hd => by
    have hq : (∃ fs, P.underlying t = some (.struct fs) ∧ P.cellsOf t = a.sz + b.sz ∧ fldRelB P n 0 fs.toList (.pair a b) = true) ∨ ∃ k e, P.underlying t = some (.array k e) ∧ P.cellsOf t = a.sz + b.sz ∧ fldRelB P n 0 (arrF P k e) (.pair a b) = true := by
      unfold tyRelB at h
      cases hu : P.underlying t with
      | none => rw [hu] at h; simp at h
      | some q =>
        rw [hu] at h
        cases q <;> simp at h
        all_goals first | exact .inl ⟨_, rfl, h⟩ | exact .inr ⟨_, _, rfl, h⟩
    rcases hq with ⟨fs, hu, h1, h2⟩ | ⟨k, e, hu, h1, h2⟩
    · obtain ⟨xs, m, rfl, rfl, hl, hxl, hf⟩ := DataW.trod_struct hu hd
      obtain ⟨x, hx, hb⟩ := fld_Vt hB n 0 fs.toList (.pair a b) h2 m cs xs (by rw [hl, h1]; simp [Ty.sz]) (by simpa using hxl) (fun i f hi => hf i f (by simpa using hi))
      refine ⟨x, by simpa using hx, Nat.le_trans hb ?_⟩
      have := hB.agg (xs.map (·.1))
      rw [List.map_map] at this
      exact this
    · obtain ⟨xs, m, rfl, rfl, hl, hxl, hf⟩ := DataW.trod_array hu hd
      obtain ⟨x, hx, hb⟩ := fld_Vt hB n 0 (arrF P k e) (.pair a b) h2 m cs xs (by rw [hl, h1]; simp [Ty.sz]) (by simpa [arrF] using hxl) (fun i f hi => by
        unfold arrF at hi
        rw [List.getElem?_map] at hi
        obtain ⟨j, hj, rfl⟩ := Option.map_eq_some_iff.1 hi
        obtain ⟨hj1, hj2⟩ := List.getElem?_eq_some_iff.1 hj
        rw [List.getElem_range] at hj2
        subst hj2
        exact hf i (by simpa using hj1))
      refine ⟨x, by simpa using hx, Nat.le_trans hb ?_⟩
      have := hB.agg (xs.map (·.1))
      rw [List.map_map] at this
      exact this
theorem fld_Vt {B : DataW H → Nat} (hB : BulkOK B) : ∀ (n : Nat) (off : Nat) (fs : List Field) (y : Ty), fldRelB P n off fs y = true → ∀ (fuel : Nat) (cs : List Value) (xs : List (DataW H × List MemPlace)), cs.length = off + y.sz → xs.length = fs.length →
    (∀ (i : Nat) (f : Field), fs[i]? = some f → DataW.trod enc P W 0 sp true fuel f.type ((cs.drop f.offset).take (P.cellsOf f.type)) = xs[i]?) → ∃ x : y.den, Vt (phi0 W) W y x (cs.drop off) ∧ bulkT y x ≤ (xs.map (B ·.1)).sum
  | 0, off, fs, y, h, _, _, _, _, _, _ => by simp [fldRelB] at h
  | n + 1, off, [], y, h, _, _, _, _, _, _ => by simp [fldRelB] at h
  | n + 1, off, [f], y, h, fuel, cs, xs, hl, hx, hf => by
    simp only [fldRelB, Bool.and_eq_true, beq_iff_eq] at h
    obtain ⟨⟨h1, h2⟩, h3⟩ := h
    match xs, hx with
    | [d], _ =>
      have := hf 0 f rfl
      rw [h1, h2, List.take_of_length_le (by simp; omega)] at this
      obtain ⟨x, hx, hb⟩ := trod_Vt hB n f.type y h3 fuel _ d this
      exact ⟨x, hx, by simpa using hb⟩
  | n + 1, off, f :: g :: r, y, h, fuel, cs, xs, hl, hx, hf => by
    cases y with
    | pair a b =>
      simp only [fldRelB, Bool.and_eq_true, beq_iff_eq] at h
      obtain ⟨⟨⟨h1, h2⟩, h3⟩, h4⟩ := h
      match xs, hx with
      | d :: xs', hx =>
        have h0 := hf 0 f rfl
        rw [h1, h2] at h0
        obtain ⟨x1, hx1, hb1⟩ := trod_Vt hB n f.type a h3 fuel _ d h0
        obtain ⟨x2, hx2, hb2⟩ := fld_Vt hB n (off + a.sz) (g :: r) b h4 fuel cs xs' (by rw [hl]; simp [Ty.sz]; omega) (by simpa using hx) (fun i f' hi => by simpa using hf (i + 1) f' (by simpa using hi))
        refine ⟨(x1, x2), ⟨(cs.drop off).take a.sz, cs.drop (off + a.sz), ?_, hx1, hx2⟩, by simp [bulkT]; omega⟩
        rw [← List.drop_drop, List.take_append_drop]
    | _ => simp [fldRelB] at h
end
theorem rel_agg : ∀ {n : Nat} {t : TypeId} {y : Ty}, tyRelB P n t y = true → (1 < y.sz → (∃ fs, P.underlying t = some (.struct fs)) ∨ ∃ k e, P.underlying t = some (.array k e)) ∧ (y.sz = 1 → ∃ d, P.underlying t = some d ∧ aggB d = false)
  | 0, t, y, h => by simp [tyRelB] at h
  | n + 1, t, y, h => by
    unfold tyRelB at h
    cases hu : P.underlying t with
    | none => rw [hu] at h; cases y <;> simp at h
    | some q =>
      rw [hu] at h
      cases y with
      | pair a b =>
        have h1 := sz_pos a
        have h2 := sz_pos b
        cases q <;> simp at h
        all_goals first | exact ⟨fun _ => .inl ⟨_, rfl⟩, fun e => by simp [Ty.sz] at e; omega⟩ | exact ⟨fun _ => .inr ⟨_, _, rfl⟩, fun e => by simp [Ty.sz] at e; omega⟩
      | _ => cases q <;> simp [Ty.sz] at h ⊢ <;> simp [aggB]
theorem arg_V {B : DataW H → Nat} (hB : BulkOK B) {t : TypeId} {y : Ty} (hr : tyRelB P 100 t y = true) {v : Value} {r : Reach} {b0 : Nat} (hval : Value.okWide P W r b0 t v) {d : DataW H} {ps : List MemPlace} (hd : DataW.Trod enc P W 0 sp true t v d ps) :
    ∃ x : y.den, V (phi0 W) (fun _ => none) W (valOf y x) v ∧ bulkT y x ≤ B d := by
  obtain ⟨fuel, hf⟩ := hd
  obtain ⟨x, hx, hb⟩ := trod_Vt hB 100 t y hr fuel _ _ hf
  refine ⟨x, ?_, hb⟩
  have hl := enc_length y x
  have hlen := Vt.length _ _ _ hx
  have hE := Vt.enc (β := fun _ => none) _ _ _ hx
  by_cases h1 : 1 < y.sz
  · obtain ⟨cs, rfl⟩ : ∃ cs, v = .agg cs := by
      rcases (rel_agg hr).1 h1 with ⟨fs, hu⟩ | ⟨k, e, hu⟩
      · unfold Value.okWide at hval
        rw [hu] at hval
        obtain ⟨cs, rfl, _⟩ := hval
        exact ⟨_, rfl⟩
      · unfold Value.okWide at hval
        rw [hu] at hval
        obtain ⟨cs, rfl, _⟩ := hval
        exact ⟨_, rfl⟩
    unfold valOf
    match he : Sim.enc y x with
    | [] => rw [he] at hl; simp at hl; omega
    | [c] => rw [he] at hl; simp at hl; omega
    | c :: c2 :: r =>
      simp only [V]
      rw [he] at hE
      exact ⟨cs.toList, by simp, by simpa [Value.cells] using hE⟩
  · have h0 := sz_pos y
    obtain ⟨q, hu, hq⟩ := (rel_agg hr).2 (by omega)
    have hone : v.cells = #[v] := by
      unfold Value.okWide at hval
      rw [hu] at hval
      cases v with
      | agg cs =>
        exfalso
        revert hval
        cases q <;> simp [aggB] at hq <;> simp [Cell.okWide, Cell.ok, hu]
      | _ => rfl
    unfold valOf
    match he : Sim.enc y x with
    | [] => rw [he] at hl; simp at hl; omega
    | [c] =>
      rw [he, hone] at hE
      simp only [VL] at hE
      obtain ⟨u, us, e1, hV, _⟩ := hE
      simp at e1
      rw [e1.1]; exact hV
    | c :: c2 :: r => rw [he] at hl; simp at hl; omega
theorem args_V {B : DataW H → Nat} (hB : BulkOK B) : ∀ {tids : List TypeId} {ts : List Ty}, tysRelB P tids ts = true → ∀ {vs : List Value} {ds : List (DataW H)} {ps : List MemPlace}, (∀ (j : Nat) t v, tids[j]? = some t → vs[j]? = some v → ∃ r b0, Value.okWide P W r b0 t v) →
    DataW.TrodAll enc P W 0 sp true tids vs ds ps → ∃ x : tysDen ts, VL (phi0 W) (fun _ => none) W (valsOf ts x) vs ∧ bulkTs ts x ≤ (ds.map B).sum
  | [], [], _, [], [], ps, _, _ => ⟨(), rfl, Nat.le_refl _⟩
  | [], [], _, _ :: _, _, ps, _, h => by simp [DataW.TrodAll] at h
  | [], [], _, [], _ :: _, ps, _, h => by simp [DataW.TrodAll] at h
  | [], _ :: _, hr, _, _, _, _, _ => by simp [tysRelB] at hr
  | _ :: _, [], hr, _, _, _, _, _ => by simp [tysRelB] at hr
  | t :: tids, y :: ts, hr, [], _, ps, _, h => by simp [DataW.TrodAll] at h
  | t :: tids, y :: ts, hr, _ :: _, [], ps, _, h => by simp [DataW.TrodAll] at h
  | t :: tids, y :: ts, hr, v :: vs, d :: ds, ps, hval, h => by
    simp only [tysRelB, Bool.and_eq_true] at hr
    obtain ⟨p, q, h1, h2, _⟩ := h
    obtain ⟨r, b0, hv⟩ := hval 0 t v rfl rfl
    obtain ⟨x, hx, hb⟩ := arg_V hB hr.1 hv h1
    obtain ⟨xs, hxs, hbs⟩ := args_V hB hr.2 (fun j t' v' ht hv' => hval (j + 1) t' v' (by simpa using ht) (by simpa using hv')) h2
    exact ⟨(x, xs), .cons hx hxs, by simp [bulkTs]; omega⟩
theorem trodAll_stays (hl : laidOutB P = true) {W' : World} (hsame : ∀ b, b < W.heap.size → W'.heap[b]? = W.heap[b]?) : ∀ {tids : List TypeId}, (∀ t ∈ tids, P.readableRec t = true ∧ t < P.types.size) → ∀ {vs : List Value} {ds : List (DataW H)} {ps : List MemPlace},
    (∀ p ∈ ps, p.block < W.heap.size) → DataW.TrodAll enc P W 0 (fun _ => true) true tids vs ds ps → DataW.TrodAll enc P W' 0 (fun b => decide (b < W.heap.size)) true tids vs ds ps
  | [], _, [], [], ps, _, h => h
  | [], _, _ :: _, _, ps, _, h => by simp [DataW.TrodAll] at h
  | [], _, [], _ :: _, ps, _, h => by simp [DataW.TrodAll] at h
  | t :: tids, _, [], _, ps, _, h => by simp [DataW.TrodAll] at h
  | t :: tids, _, _ :: _, [], ps, _, h => by simp [DataW.TrodAll] at h
  | t :: tids, hr, v :: vs, d :: ds, ps, hlt, h => by
    obtain ⟨p, q, h1, h2, rfl⟩ := h
    refine ⟨p, q, ?_, trodAll_stays hl hsame (fun t' ht' => hr t' (List.mem_cons_of_mem _ ht')) (fun x hx => hlt x (List.mem_append_right _ hx)) h2, rfl⟩
    refine WideElems.Trod_stays hl (hr t (by simp)).1 (hr t (by simp)).2 h1 (fun x hx => ?_) (fun x hx => by simpa using hlt x (List.mem_append_left _ hx))
    have := hlt x (List.mem_append_left _ hx)
    cases x with
    | cell b o => exact World.cell?_of_block (w := W) (hsame b this)
    | map b => exact hsame b this
theorem keptBut_of {W' : World} (ho : W'.os = W.os ∧ W'.output = W.output) (hsame : ∀ b, b < W.heap.size → W'.heap[b]? = W.heap[b]?) (may : MemPlace → Prop) : W.keptBut W' may := by
  refine ⟨ho.1, ho.2, fun i hi => ?_⟩
  rw [hsame i hi]
  split
  · rename_i c t fr c' t' fr' h1 h2
    rw [h1] at h2
    cases h2
    exact ⟨rfl, rfl, rfl, fun _ _ => rfl⟩
  · rename_i es cl es' cl' h1 h2
    rw [h1] at h2
    cases h2
    exact .inr ⟨rfl, rfl⟩
  · rfl
theorem trodAll_len {n : Nat} {b : Bool} : ∀ {tids : List TypeId} {vs : List Value} {ds : List (DataW H)} {ps : List MemPlace}, DataW.TrodAll enc P W n sp b tids vs ds ps → ds.length = tids.length
  | [], [], [], ps, _ => rfl
  | [], _ :: _, _, ps, h => by simp [DataW.TrodAll] at h
  | [], [], _ :: _, ps, h => by simp [DataW.TrodAll] at h
  | t :: tids, [], _, ps, h => by simp [DataW.TrodAll] at h
  | t :: tids, _ :: _, [], ps, h => by simp [DataW.TrodAll] at h
  | t :: tids, v :: vs, d :: ds, ps, h => by
    obtain ⟨p, q, h1, h2, _⟩ := h
    simp [trodAll_len h2]
theorem law_calls {f : FuncId} {fn : Func} {s : ChangeSpec} {ts : List Ty} {bt : TypeId} (hl : laidOutB P = true) (hr : tysRelB P fn.params.toList ts = true) (hread : ∀ t ∈ fn.params.toList, P.readableRec t = true ∧ t < P.types.size)
    (hvars : s.vars = []) (hres : fn.resultTypes.toList = [bt]) (hbt : P.underlying bt = some .bool) {B : DataW H → Nat} (hB : BulkOK B)
    {W : World} {args : Array Value} {ds gs : List (DataW H)} {before : List MemPlace} {r : Reach} {base : Nat} (hval : ∀ (j : Nat) t v, fn.params[j]? = some t → args[j]? = some v → Value.okWide P W r base t v)
    (hW : DataW.Whole enc P fn.params.toList s.vars false W args.toList ds gs before) (hfn0 : ds.length = fn.params.toList.length → (s.fn H ds).results = [.lit (.bool true)] ∧ (s.fn H ds).args = ds ∧ (s.fn H ds).vars = [])
    (hL : LaidT P (phi0 W) W)
    (hlaw : ∀ x : tysDen ts, bulkTs ts x ≤ (ds.map B).sum → tysWf ts x → ∃ objs', EffGood P f (valsOf ts x) [] (.bool true) objs') :
    Calls P f args W fun e W' => ∃ v, e = .returned v ∧ s.post enc P fn false true false false W args v W' := by
  have hlt := hW.lt
  have hW' := hW
  obtain ⟨p, q, hA, hV, rfl, hfz, hnd⟩ := hW
  rw [hvars] at hV
  obtain ⟨rfl, rfl⟩ := trodVars_none hV
  obtain ⟨x, hx, hb⟩ := args_V hB hr (fun j t v ht hv => ⟨r, base, hval j t v (by simpa using ht) (by simpa using hv)⟩) hA
  obtain ⟨objs', hG⟩ := hlaw x hb (valsOf_wf hx)
  have hfn : (s.fn H (ds ++ [])).results = [.lit (.bool true)] ∧ (s.fn H (ds ++ [])).args = ds ∧ (s.fn H (ds ++ [])).vars = [] := by
    rw [List.append_nil]
    exact hfn0 (trodAll_len hA)
  have hc := hG.pure (valsOf_closed _ _) rfl (phi0 W) (fun _ => none) W args.toList hx (fun b hb => by
    unfold phi0
    have : W.heap[b]? = none := by simpa using hb
    rw [this]) hL
  rw [Array.toArray_toList] at hc
  refine hc.mono fun e W' ⟨v, φ', he, hk, hg, hold, _, hv⟩ => ?_
  have hv : v = .bool true := hv
  subst hv
  refine ⟨_, he, ds, [], _, [], p, [], hW', ?_, ?_, ?_, ?_, fun h => by cases h⟩
  · rw [hres, hfn.1]
    have hrl : (Value.bool true).resultList fn.resultTypes.size = [.bool true] := by
      have : fn.resultTypes.size = 1 := by rw [← Array.length_toList, hres]; rfl
      rw [this]; rfl
    rw [hrl]
    exact ⟨[], [], ⟨1, by simp [DataW.trod, hbt, Value.cells]⟩, rfl, rfl⟩
  · rw [hfn.2.1]
    exact trodAll_stays hl (fun b hb => (hold b hb).1) hread (fun p hp => hlt p (List.mem_append_left _ hp)) hA
  · rw [hvars, hfn.2.2]; exact rfl
  · exact keptBut_of hk.out (fun b hb => (hold b hb).1) _
end
end Go.Sim
namespace Go.Sim
open Go.Proofs.Ytjjikahgiffpbaa
theorem sum_bulk {H : Type} : ∀ l : List (DataW H), (l.map Rows.uptoBulk).sum = Rows.uptoBulkAll l
  | [] => rfl
  | d :: r => by simp [Rows.uptoBulkAll, sum_bulk r]
theorem bulkOK {H : Type} : BulkOK (H := H) Rows.uptoBulk where
  one := fun d => by
    cases d with
    | lit l => cases l <;> simp [Rows.uptoBulk]
    | nil => simp [Rows.uptoBulk]
    | ptr d => simp [Rows.uptoBulk]
    | slice elems spare => simp [Rows.uptoBulk]
    | agg parts => simp [Rows.uptoBulk]
    | iface t d => simp [Rows.uptoBulk]
    | map entries => simp [Rows.uptoBulk]
    | held h => simp [Rows.uptoBulk]
  str := fun b => by simp [Rows.uptoBulk]
  sl := fun es s => by rw [sum_bulk]; simp only [Rows.uptoBulk]; omega
  agg := fun ps => by rw [sum_bulk]; simp only [Rows.uptoBulk]; omega
end Go.Sim
namespace Go.Sim
set_option maxRecDepth 100000
noncomputable abbrev P0 : Program := Proofs.Try.prog
def rows0 : List (TypeId × TRow) := [(3, ⟨(.int .i64), 1, 8, [.int .i64 0]⟩),
  (4, ⟨.bool, 1, 1, [.bool false]⟩),
  (5, ⟨(.int .u8), 1, 1, [.int .u8 0]⟩),
  (9, ⟨.str, 1, 16, [.str []]⟩),
  (20, ⟨.iface, 1, 16, [.nilif]⟩),
  (23, ⟨(.ptr 75), 1, 8, [.nilp]⟩),
  (27, ⟨(.struct [(0, 1), (1, 1), (2, 1), (3, 1), (4, 1)] [(.int .i64), (.int .i64), .str, .str, .bool]), 5, 56, [.int .i64 0, .int .i64 0, .str [], .str [], .bool false]⟩),
  (28, ⟨(.slice 27), 1, 24, [.nils]⟩),
  (29, ⟨(.slice 33), 1, 24, [.nils]⟩),
  (31, ⟨(.int .u32), 1, 4, [.int .u32 0]⟩),
  (33, ⟨(.struct [(0, 1), (1, 1), (2, 1), (3, 1), (4, 1), (5, 1), (6, 1), (7, 1), (8, 1), (9, 1)] []), 10, 80, [.int .i64 0, .int .i64 0, .int .i64 0, .int .i64 0, .nils, .bool false, .bool false, .bool false, .int .i64 0, .int .u32 0]⟩),
  (41, ⟨(.slice 3), 1, 24, [.nils]⟩),
  (45, ⟨(.slice 50), 1, 24, [.nils]⟩),
  (48, ⟨(.struct [(0, 1), (1, 1), (2, 1), (3, 1)] [(.int .i64), (.int .i64), (.int .i64), (.int .i64)]), 4, 32, [.int .i64 0, .int .i64 0, .int .i64 0, .int .i64 0]⟩),
  (50, ⟨(.struct [(0, 1), (1, 1), (2, 1), (3, 1), (4, 1), (5, 4), (9, 1)] []), 10, 96, [.int .i64 0, .int .i64 0, .int .i64 0, .int .i64 0, .nils, .int .i64 0, .int .i64 0, .int .i64 0, .int .i64 0, .bool false]⟩),
  (54, ⟨(.ptr 71), 1, 8, [.nilp]⟩),
  (62, ⟨(.slice 5), 1, 24, [.nils]⟩),
  (64, ⟨(.int .i64), 1, 8, [.int .i64 0]⟩),
  (71, ⟨(.struct [(0, 1)] []), 1, 24, [.nils]⟩),
  (75, ⟨(.struct [(0, 1)] []), 1, 24, [.nils]⟩),
  (76, ⟨(.ptr 33), 1, 8, [.nilp]⟩),
  (80, ⟨.flat, 1, 8, [.undef]⟩),
  (95, ⟨(.map 9 4), 1, 8, [.undef]⟩),
  (97, ⟨(.slice 100), 1, 24, [.nils]⟩),
  (100, ⟨(.int .u64), 1, 8, [.int .u64 0]⟩),
  (104, ⟨(.slice 28), 1, 24, [.nils]⟩)]
def tys0 : List (TypeId × Ty) := [(3, (.int .i64)),
  (4, .bool),
  (5, (.int .u8)),
  (9, .str),
  (27, (.pair (.int .i64) (.pair (.int .i64) (.pair .str (.pair .str .bool))))),
  (28, (.sl (.pair (.int .i64) (.pair (.int .i64) (.pair .str (.pair .str .bool)))))),
  (29, (.sl (.pair (.int .i64) (.pair (.int .i64) (.pair (.int .i64) (.pair (.int .i64) (.pair (.sl (.pair (.int .i64) (.pair (.int .i64) (.pair .str (.pair .str .bool))))) (.pair .bool (.pair .bool (.pair .bool (.pair (.int .i64) (.int .u32)))))))))))),
  (31, (.int .u32)),
  (33, (.pair (.int .i64) (.pair (.int .i64) (.pair (.int .i64) (.pair (.int .i64) (.pair (.sl (.pair (.int .i64) (.pair (.int .i64) (.pair .str (.pair .str .bool))))) (.pair .bool (.pair .bool (.pair .bool (.pair (.int .i64) (.int .u32))))))))))),
  (41, (.sl (.int .i64))),
  (45, (.sl (.pair (.int .i64) (.pair (.int .i64) (.pair (.int .i64) (.pair (.int .i64) (.pair (.sl (.pair (.int .i64) (.pair (.int .i64) (.pair .str (.pair .str .bool))))) (.pair (.pair (.int .i64) (.pair (.int .i64) (.pair (.int .i64) (.int .i64)))) .bool)))))))),
  (48, (.pair (.int .i64) (.pair (.int .i64) (.pair (.int .i64) (.int .i64))))),
  (50, (.pair (.int .i64) (.pair (.int .i64) (.pair (.int .i64) (.pair (.int .i64) (.pair (.sl (.pair (.int .i64) (.pair (.int .i64) (.pair .str (.pair .str .bool))))) (.pair (.pair (.int .i64) (.pair (.int .i64) (.pair (.int .i64) (.int .i64)))) .bool))))))),
  (62, (.sl (.int .u8))),
  (64, (.int .i64)),
  (97, (.sl (.int .u64))),
  (100, (.int .u64)),
  (104, (.sl (.sl (.pair (.int .i64) (.pair (.int .i64) (.pair .str (.pair .str .bool)))))))]
theorem all0 : allB P0 rows0 tys0 = true := by kernel_rfl
theorem mixed0 : P0.follows .mixedOrders = true := by kernel_rfl
instance : Tabs P0 := ⟨[]⟩
def globs0 : List (Nat × AV) := []
abbrev env (cons : List (FuncId × Con)) : Env := mkEnv rows0 tys0 cons globs0
theorem glob0 {cons : List (FuncId × Con)} : GlobOK P0 (env cons) := .none rfl
theorem env_ok {cons : List (FuncId × Con)} (hc : ∀ x ∈ cons, HoldsC P0 x.1 x.2) : EnvOK P0 (env cons) := mkEnv_ok all0 hc
abbrev I.f5 : FuncId := 10
noncomputable abbrev F.f5 : Func := Proofs.Try.f10
theorem G.f5 : P0.funcs[10]? = some F.f5 := Proofs.Try.func10
theorem C.f5 : Called P0 10 := ⟨_, G.f5, by kernel_rfl, by kernel_rfl⟩
def H.f5 : Hint := { nt := 117, lg := [], vs := [], nh := [], join := [(2, 6), (3, 29), (13, 63), (22, 103), (24, 4)], loops := [(8, [0, 1, 7, 8, 9]), (18, [1, 4, 7, 8, 10, 11, 13, 14, 15])], jc := [] }
noncomputable abbrev B.f5 : Code := (F.f5.body).getD .skip
theorem Bd.f5 : F.f5.body = some B.f5 := by kernel_rfl
noncomputable abbrev L.f5_8 : Code := findL 8 (loopsIn B.f5)
noncomputable abbrev L.f5_18 : Code := findL 18 (loopsIn B.f5)
abbrev V.f5_8 : List Nat := (lk? H.f5.loops 8).getD []
abbrev V.f5_18 : List Nat := (lk? H.f5.loops 18).getD []
abbrev I.f6 : FuncId := 11
noncomputable abbrev F.f6 : Func := Proofs.Try.f11
theorem G.f6 : P0.funcs[11]? = some F.f6 := Proofs.Try.func11
theorem C.f6 : Called P0 11 := ⟨_, G.f6, by kernel_rfl, by kernel_rfl⟩
def H.f6 : Hint := { nt := 47, lg := [], vs := [11], nh := [], join := [(6, 0)], loops := [], jc := [] }
noncomputable abbrev B.f6 : Code := (F.f6.body).getD .skip
theorem Bd.f6 : F.f6.body = some B.f6 := by kernel_rfl
abbrev I.f63 : FuncId := 12
noncomputable abbrev F.f63 : Func := Proofs.Try.f12
theorem G.f63 : P0.funcs[12]? = some F.f63 := Proofs.Try.func12
theorem C.f63 : Called P0 12 := ⟨_, G.f63, by kernel_rfl, by kernel_rfl⟩
def H.f63 : Hint := { nt := 5, lg := [], vs := [], nh := [], join := [], loops := [], jc := [] }
noncomputable abbrev B.f63 : Code := (F.f63.body).getD .skip
theorem Bd.f63 : F.f63.body = some B.f63 := by kernel_rfl
abbrev I.f48 : FuncId := 13
noncomputable abbrev F.f48 : Func := Proofs.Try.f13
theorem G.f48 : P0.funcs[13]? = some F.f48 := Proofs.Try.func13
theorem C.f48 : Called P0 13 := ⟨_, G.f48, by kernel_rfl, by kernel_rfl⟩
def H.f48 : Hint := { nt := 78, lg := [], vs := [50], nh := [], join := [], loops := [(3, [0, 2, 7, 8, 14, 15, 16])], jc := [] }
noncomputable abbrev B.f48 : Code := (F.f48.body).getD .skip
theorem Bd.f48 : F.f48.body = some B.f48 := by kernel_rfl
noncomputable abbrev L.f48_3 : Code := findL 3 (loopsIn B.f48)
abbrev V.f48_3 : List Nat := (lk? H.f48.loops 3).getD []
abbrev I.f60 : FuncId := 14
noncomputable abbrev F.f60 : Func := Proofs.Try.f14
theorem G.f60 : P0.funcs[14]? = some F.f60 := Proofs.Try.func14
theorem C.f60 : Called P0 14 := ⟨_, G.f60, by kernel_rfl, by kernel_rfl⟩
def H.f60 : Hint := { nt := 43, lg := [], vs := [], nh := [], join := [], loops := [], jc := [] }
noncomputable abbrev B.f60 : Code := (F.f60.body).getD .skip
theorem Bd.f60 : F.f60.body = some B.f60 := by kernel_rfl
abbrev I.f61 : FuncId := 15
noncomputable abbrev F.f61 : Func := Proofs.Try.f15
theorem G.f61 : P0.funcs[15]? = some F.f61 := Proofs.Try.func15
theorem C.f61 : Called P0 15 := ⟨_, G.f61, by kernel_rfl, by kernel_rfl⟩
def H.f61 : Hint := { nt := 8, lg := [], vs := [2], nh := [], join := [], loops := [], jc := [] }
noncomputable abbrev B.f61 : Code := (F.f61.body).getD .skip
theorem Bd.f61 : F.f61.body = some B.f61 := by kernel_rfl
abbrev I.f53 : FuncId := 16
noncomputable abbrev F.f53 : Func := Proofs.Try.f16
theorem G.f53 : P0.funcs[16]? = some F.f53 := Proofs.Try.func16
theorem C.f53 : Called P0 16 := ⟨_, G.f53, by kernel_rfl, by kernel_rfl⟩
def H.f53 : Hint := { nt := 8, lg := [], vs := [], nh := [], join := [], loops := [], jc := [] }
noncomputable abbrev B.f53 : Code := (F.f53.body).getD .skip
theorem Bd.f53 : F.f53.body = some B.f53 := by kernel_rfl
abbrev I.f54 : FuncId := 17
noncomputable abbrev F.f54 : Func := Proofs.Try.f17
theorem G.f54 : P0.funcs[17]? = some F.f54 := Proofs.Try.func17
theorem C.f54 : Called P0 17 := ⟨_, G.f54, by kernel_rfl, by kernel_rfl⟩
def H.f54 : Hint := { nt := 10, lg := [], vs := [], nh := [], join := [], loops := [], jc := [] }
noncomputable abbrev B.f54 : Code := (F.f54.body).getD .skip
theorem Bd.f54 : F.f54.body = some B.f54 := by kernel_rfl
abbrev I.f8 : FuncId := 18
noncomputable abbrev F.f8 : Func := Proofs.Try.f18
theorem G.f8 : P0.funcs[18]? = some F.f8 := Proofs.Try.func18
theorem C.f8 : Called P0 18 := ⟨_, G.f8, by kernel_rfl, by kernel_rfl⟩
def H.f8 : Hint := { nt := 29, lg := [], vs := [], nh := [], join := [(4, 25)], loops := [(2, [0, 2, 3])], jc := [] }
noncomputable abbrev B.f8 : Code := (F.f8.body).getD .skip
theorem Bd.f8 : F.f8.body = some B.f8 := by kernel_rfl
noncomputable abbrev L.f8_2 : Code := findL 2 (loopsIn B.f8)
abbrev V.f8_2 : List Nat := (lk? H.f8.loops 2).getD []
abbrev I.f64 : FuncId := 19
noncomputable abbrev F.f64 : Func := Proofs.Try.f19
theorem G.f64 : P0.funcs[19]? = some F.f64 := Proofs.Try.func19
theorem C.f64 : Called P0 19 := ⟨_, G.f64, by kernel_rfl, by kernel_rfl⟩
def H.f64 : Hint := { nt := 58, lg := [], vs := [], nh := [], join := [(7, 52)], loops := [(5, [0, 2, 3, 4, 11, 12, 13])], jc := [] }
noncomputable abbrev B.f64 : Code := (F.f64.body).getD .skip
theorem Bd.f64 : F.f64.body = some B.f64 := by kernel_rfl
noncomputable abbrev L.f64_5 : Code := findL 5 (loopsIn B.f64)
abbrev V.f64_5 : List Nat := (lk? H.f64.loops 5).getD []
abbrev I.f23 : FuncId := 20
noncomputable abbrev F.f23 : Func := Proofs.Try.f20
theorem G.f23 : P0.funcs[20]? = some F.f23 := Proofs.Try.func20
theorem C.f23 : Called P0 20 := ⟨_, G.f23, by kernel_rfl, by kernel_rfl⟩
def H.f23 : Hint := { nt := 185, lg := [], vs := [], nh := [], join := [(7, 65), (9, 101), (11, 131), (13, 4), (18, 182)], loops := [(4, [0, 2, 3, 4, 5]), (15, [0, 2, 3, 4, 5, 6, 7])], jc := [] }
noncomputable abbrev B.f23 : Code := (F.f23.body).getD .skip
theorem Bd.f23 : F.f23.body = some B.f23 := by kernel_rfl
noncomputable abbrev L.f23_4 : Code := findL 4 (loopsIn B.f23)
noncomputable abbrev L.f23_15 : Code := findL 15 (loopsIn B.f23)
abbrev V.f23_4 : List Nat := (lk? H.f23.loops 4).getD []
abbrev V.f23_15 : List Nat := (lk? H.f23.loops 15).getD []
abbrev I.f24 : FuncId := 21
noncomputable abbrev F.f24 : Func := Proofs.Try.f21
theorem G.f24 : P0.funcs[21]? = some F.f24 := Proofs.Try.func21
theorem C.f24 : Called P0 21 := ⟨_, G.f24, by kernel_rfl, by kernel_rfl⟩
def H.f24 : Hint := { nt := 96, lg := [], vs := [], nh := [], join := [(8, 95)], loops := [(4, [0, 1, 4, 5])], jc := [] }
noncomputable abbrev B.f24 : Code := (F.f24.body).getD .skip
theorem Bd.f24 : F.f24.body = some B.f24 := by kernel_rfl
noncomputable abbrev L.f24_4 : Code := findL 4 (loopsIn B.f24)
abbrev V.f24_4 : List Nat := (lk? H.f24.loops 4).getD []
abbrev I.f55 : FuncId := 22
noncomputable abbrev F.f55 : Func := Proofs.Try.f22
theorem G.f55 : P0.funcs[22]? = some F.f55 := Proofs.Try.func22
theorem C.f55 : Called P0 22 := ⟨_, G.f55, by kernel_rfl, by kernel_rfl⟩
def H.f55 : Hint := { nt := 68, lg := [], vs := [64], nh := [], join := [(6, 52)], loops := [(3, [0, 1, 4, 5, 6])], jc := [] }
noncomputable abbrev B.f55 : Code := (F.f55.body).getD .skip
theorem Bd.f55 : F.f55.body = some B.f55 := by kernel_rfl
noncomputable abbrev L.f55_3 : Code := findL 3 (loopsIn B.f55)
abbrev V.f55_3 : List Nat := (lk? H.f55.loops 3).getD []
abbrev I.f36 : FuncId := 23
noncomputable abbrev F.f36 : Func := Proofs.Try.f23
theorem G.f36 : P0.funcs[23]? = some F.f36 := Proofs.Try.func23
theorem C.f36 : Called P0 23 := ⟨_, G.f36, by kernel_rfl, by kernel_rfl⟩
def H.f36 : Hint := { nt := 26, lg := [], vs := [], nh := [], join := [], loops := [(4, [0, 1, 4, 5])], jc := [] }
noncomputable abbrev B.f36 : Code := (F.f36.body).getD .skip
theorem Bd.f36 : F.f36.body = some B.f36 := by kernel_rfl
noncomputable abbrev L.f36_4 : Code := findL 4 (loopsIn B.f36)
abbrev V.f36_4 : List Nat := (lk? H.f36.loops 4).getD []
abbrev I.f2 : FuncId := 24
noncomputable abbrev F.f2 : Func := Proofs.Try.f24
theorem G.f2 : P0.funcs[24]? = some F.f2 := Proofs.Try.func24
theorem C.f2 : Called P0 24 := ⟨_, G.f2, by kernel_rfl, by kernel_rfl⟩
def H.f2 : Hint := { nt := 43, lg := [], vs := [], nh := [], join := [(6, 27), (9, 2)], loops := [(3, [0, 2, 3, 4])], jc := [] }
noncomputable abbrev B.f2 : Code := (F.f2.body).getD .skip
theorem Bd.f2 : F.f2.body = some B.f2 := by kernel_rfl
noncomputable abbrev L.f2_3 : Code := findL 3 (loopsIn B.f2)
abbrev V.f2_3 : List Nat := (lk? H.f2.loops 3).getD []
abbrev I.f35 : FuncId := 25
noncomputable abbrev F.f35 : Func := Proofs.Try.f25
theorem G.f35 : P0.funcs[25]? = some F.f35 := Proofs.Try.func25
theorem C.f35 : Called P0 25 := ⟨_, G.f35, by kernel_rfl, by kernel_rfl⟩
def H.f35 : Hint := { nt := 49, lg := [], vs := [], nh := [], join := [(1, 2)], loops := [], jc := [] }
noncomputable abbrev B.f35 : Code := (F.f35.body).getD .skip
theorem Bd.f35 : F.f35.body = some B.f35 := by kernel_rfl
abbrev I.f49 : FuncId := 26
noncomputable abbrev F.f49 : Func := Proofs.Try.f26
theorem G.f49 : P0.funcs[26]? = some F.f49 := Proofs.Try.func26
theorem C.f49 : Called P0 26 := ⟨_, G.f49, by kernel_rfl, by kernel_rfl⟩
def H.f49 : Hint := { nt := 139, lg := [], vs := [], nh := [(8, 27)], join := [(7, 9), (14, 72), (16, 88)], loops := [(4, [0, 1, 2, 3, 8, 9, 25, 26, 27]), (11, [0, 1, 8, 52, 53]), (16, [0, 1, 8, 13, 14, 52, 53])], jc := [] }
noncomputable abbrev B.f49 : Code := (F.f49.body).getD .skip
theorem Bd.f49 : F.f49.body = some B.f49 := by kernel_rfl
noncomputable abbrev L.f49_4 : Code := findL 4 (loopsIn B.f49)
noncomputable abbrev L.f49_11 : Code := findL 11 (loopsIn B.f49)
noncomputable abbrev L.f49_16 : Code := findL 16 (loopsIn B.f49)
abbrev V.f49_4 : List Nat := (lk? H.f49.loops 4).getD []
abbrev V.f49_11 : List Nat := (lk? H.f49.loops 11).getD []
abbrev V.f49_16 : List Nat := (lk? H.f49.loops 16).getD []
abbrev I.f22 : FuncId := 28
noncomputable abbrev F.f22 : Func := Proofs.Try.f28
theorem G.f22 : P0.funcs[28]? = some F.f22 := Proofs.Try.func28
theorem C.f22 : Called P0 28 := ⟨_, G.f22, by kernel_rfl, by kernel_rfl⟩
def H.f22 : Hint := { nt := 5, lg := [], vs := [], nh := [], join := [], loops := [], jc := [] }
noncomputable abbrev B.f22 : Code := (F.f22.body).getD .skip
theorem Bd.f22 : F.f22.body = some B.f22 := by kernel_rfl
abbrev I.f3 : FuncId := 29
noncomputable abbrev F.f3 : Func := Proofs.Try.f29
theorem G.f3 : P0.funcs[29]? = some F.f3 := Proofs.Try.func29
theorem C.f3 : Called P0 29 := ⟨_, G.f3, by kernel_rfl, by kernel_rfl⟩
def H.f3 : Hint := { nt := 139, lg := [], vs := [], nh := [], join := [], loops := [], jc := [] }
noncomputable abbrev B.f3 : Code := (F.f3.body).getD .skip
theorem Bd.f3 : F.f3.body = some B.f3 := by kernel_rfl
abbrev I.f59 : FuncId := 30
noncomputable abbrev F.f59 : Func := Proofs.Try.f30
theorem G.f59 : P0.funcs[30]? = some F.f59 := Proofs.Try.func30
theorem C.f59 : Called P0 30 := ⟨_, G.f59, by kernel_rfl, by kernel_rfl⟩
def H.f59 : Hint := { nt := 22, lg := [], vs := [], nh := [], join := [], loops := [], jc := [] }
noncomputable abbrev B.f59 : Code := (F.f59.body).getD .skip
theorem Bd.f59 : F.f59.body = some B.f59 := by kernel_rfl
abbrev I.f10 : FuncId := 31
noncomputable abbrev F.f10 : Func := Proofs.Try.f31
theorem G.f10 : P0.funcs[31]? = some F.f10 := Proofs.Try.func31
theorem C.f10 : Called P0 31 := ⟨_, G.f10, by kernel_rfl, by kernel_rfl⟩
def H.f10 : Hint := { nt := 56, lg := [], vs := [], nh := [], join := [(2, 20), (3, 8), (4, 9), (5, 51)], loops := [(2, [0, 2, 4, 6, 7])], jc := [] }
noncomputable abbrev B.f10 : Code := (F.f10.body).getD .skip
theorem Bd.f10 : F.f10.body = some B.f10 := by kernel_rfl
noncomputable abbrev L.f10_2 : Code := findL 2 (loopsIn B.f10)
abbrev V.f10_2 : List Nat := (lk? H.f10.loops 2).getD []
abbrev I.f51 : FuncId := 32
noncomputable abbrev F.f51 : Func := Proofs.Try.f32
theorem G.f51 : P0.funcs[32]? = some F.f51 := Proofs.Try.func32
theorem C.f51 : Called P0 32 := ⟨_, G.f51, by kernel_rfl, by kernel_rfl⟩
def H.f51 : Hint := { nt := 29, lg := [], vs := [], nh := [], join := [], loops := [], jc := [] }
noncomputable abbrev B.f51 : Code := (F.f51.body).getD .skip
theorem Bd.f51 : F.f51.body = some B.f51 := by kernel_rfl
abbrev I.f29 : FuncId := 33
noncomputable abbrev F.f29 : Func := Proofs.Try.f33
theorem G.f29 : P0.funcs[33]? = some F.f29 := Proofs.Try.func33
theorem C.f29 : Called P0 33 := ⟨_, G.f29, by kernel_rfl, by kernel_rfl⟩
def H.f29 : Hint := { nt := 25, lg := [], vs := [2], nh := [(3, 5)], join := [], loops := [(3, [0, 3, 4])], jc := [] }
noncomputable abbrev B.f29 : Code := (F.f29.body).getD .skip
theorem Bd.f29 : F.f29.body = some B.f29 := by kernel_rfl
noncomputable abbrev L.f29_3 : Code := findL 3 (loopsIn B.f29)
abbrev V.f29_3 : List Nat := (lk? H.f29.loops 3).getD []
abbrev I.f57 : FuncId := 34
noncomputable abbrev F.f57 : Func := Proofs.Try.f34
theorem G.f57 : P0.funcs[34]? = some F.f57 := Proofs.Try.func34
theorem C.f57 : Called P0 34 := ⟨_, G.f57, by kernel_rfl, by kernel_rfl⟩
def H.f57 : Hint := { nt := 69, lg := [], vs := [], nh := [], join := [(5, 58)], loops := [], jc := [] }
noncomputable abbrev B.f57 : Code := (F.f57.body).getD .skip
theorem Bd.f57 : F.f57.body = some B.f57 := by kernel_rfl
abbrev I.f37 : FuncId := 35
noncomputable abbrev F.f37 : Func := Proofs.Try.f35
theorem G.f37 : P0.funcs[35]? = some F.f37 := Proofs.Try.func35
theorem C.f37 : Called P0 35 := ⟨_, G.f37, by kernel_rfl, by kernel_rfl⟩
def H.f37 : Hint := { nt := 5, lg := [], vs := [], nh := [], join := [], loops := [], jc := [] }
noncomputable abbrev B.f37 : Code := (F.f37.body).getD .skip
theorem Bd.f37 : F.f37.body = some B.f37 := by kernel_rfl
abbrev I.f7 : FuncId := 36
noncomputable abbrev F.f7 : Func := Proofs.Try.f36
theorem G.f7 : P0.funcs[36]? = some F.f7 := Proofs.Try.func36
theorem C.f7 : Called P0 36 := ⟨_, G.f7, by kernel_rfl, by kernel_rfl⟩
def H.f7 : Hint := { nt := 4, lg := [], vs := [], nh := [], join := [], loops := [], jc := [] }
noncomputable abbrev B.f7 : Code := (F.f7.body).getD .skip
theorem Bd.f7 : F.f7.body = some B.f7 := by kernel_rfl
abbrev I.f50 : FuncId := 37
noncomputable abbrev F.f50 : Func := Proofs.Try.f37
theorem G.f50 : P0.funcs[37]? = some F.f50 := Proofs.Try.func37
theorem C.f50 : Called P0 37 := ⟨_, G.f50, by kernel_rfl, by kernel_rfl⟩
def H.f50 : Hint := { nt := 10, lg := [], vs := [], nh := [], join := [], loops := [], jc := [] }
noncomputable abbrev B.f50 : Code := (F.f50.body).getD .skip
theorem Bd.f50 : F.f50.body = some B.f50 := by kernel_rfl
abbrev I.f9 : FuncId := 38
noncomputable abbrev F.f9 : Func := Proofs.Try.f38
theorem G.f9 : P0.funcs[38]? = some F.f9 := Proofs.Try.func38
theorem C.f9 : Called P0 38 := ⟨_, G.f9, by kernel_rfl, by kernel_rfl⟩
def H.f9 : Hint := { nt := 25, lg := [], vs := [2], nh := [(3, 33)], join := [], loops := [(3, [0, 3, 4])], jc := [] }
noncomputable abbrev B.f9 : Code := (F.f9.body).getD .skip
theorem Bd.f9 : F.f9.body = some B.f9 := by kernel_rfl
noncomputable abbrev L.f9_3 : Code := findL 3 (loopsIn B.f9)
abbrev V.f9_3 : List Nat := (lk? H.f9.loops 3).getD []
abbrev I.f4 : FuncId := 39
noncomputable abbrev F.f4 : Func := Proofs.Try.f39
theorem G.f4 : P0.funcs[39]? = some F.f4 := Proofs.Try.func39
theorem C.f4 : Called P0 39 := ⟨_, G.f4, by kernel_rfl, by kernel_rfl⟩
def H.f4 : Hint := { nt := 56, lg := [], vs := [28, 30], nh := [], join := [], loops := [], jc := [] }
noncomputable abbrev B.f4 : Code := (F.f4.body).getD .skip
theorem Bd.f4 : F.f4.body = some B.f4 := by kernel_rfl
abbrev I.f43 : FuncId := 40
noncomputable abbrev F.f43 : Func := Proofs.Try.f40
theorem G.f43 : P0.funcs[40]? = some F.f43 := Proofs.Try.func40
theorem C.f43 : Called P0 40 := ⟨_, G.f43, by kernel_rfl, by kernel_rfl⟩
def H.f43 : Hint := { nt := 48, lg := [], vs := [], nh := [], join := [(1, 2)], loops := [], jc := [] }
noncomputable abbrev B.f43 : Code := (F.f43.body).getD .skip
theorem Bd.f43 : F.f43.body = some B.f43 := by kernel_rfl
abbrev I.f62 : FuncId := 41
noncomputable abbrev F.f62 : Func := Proofs.Try.f41
theorem G.f62 : P0.funcs[41]? = some F.f62 := Proofs.Try.func41
theorem C.f62 : Called P0 41 := ⟨_, G.f62, by kernel_rfl, by kernel_rfl⟩
def H.f62 : Hint := { nt := 14, lg := [], vs := [], nh := [], join := [], loops := [], jc := [] }
noncomputable abbrev B.f62 : Code := (F.f62.body).getD .skip
theorem Bd.f62 : F.f62.body = some B.f62 := by kernel_rfl
abbrev I.f71 : FuncId := 42
noncomputable abbrev F.f71 : Func := Proofs.Try.f42
theorem G.f71 : P0.funcs[42]? = some F.f71 := Proofs.Try.func42
theorem C.f71 : Called P0 42 := ⟨_, G.f71, by kernel_rfl, by kernel_rfl⟩
def H.f71 : Hint := { nt := 6, lg := [], vs := [], nh := [], join := [], loops := [], jc := [] }
noncomputable abbrev B.f71 : Code := (F.f71.body).getD .skip
theorem Bd.f71 : F.f71.body = some B.f71 := by kernel_rfl
abbrev I.f67 : FuncId := 43
noncomputable abbrev F.f67 : Func := Proofs.Try.f43
theorem G.f67 : P0.funcs[43]? = some F.f67 := Proofs.Try.func43
theorem C.f67 : Called P0 43 := ⟨_, G.f67, by kernel_rfl, by kernel_rfl⟩
def H.f67 : Hint := { nt := 25, lg := [], vs := [], nh := [], join := [(5, 20)], loops := [(3, [3, 6, 7, 8])], jc := [] }
noncomputable abbrev B.f67 : Code := (F.f67.body).getD .skip
theorem Bd.f67 : F.f67.body = some B.f67 := by kernel_rfl
noncomputable abbrev L.f67_3 : Code := findL 3 (loopsIn B.f67)
abbrev V.f67_3 : List Nat := (lk? H.f67.loops 3).getD []
abbrev I.f65 : FuncId := 44
noncomputable abbrev F.f65 : Func := Proofs.Try.f44
theorem G.f65 : P0.funcs[44]? = some F.f65 := Proofs.Try.func44
theorem C.f65 : Called P0 44 := ⟨_, G.f65, by kernel_rfl, by kernel_rfl⟩
def H.f65 : Hint := { nt := 19, lg := [], vs := [2], nh := [(3, 33)], join := [], loops := [(3, [3, 6, 7, 8])], jc := [] }
noncomputable abbrev B.f65 : Code := (F.f65.body).getD .skip
theorem Bd.f65 : F.f65.body = some B.f65 := by kernel_rfl
noncomputable abbrev L.f65_3 : Code := findL 3 (loopsIn B.f65)
abbrev V.f65_3 : List Nat := (lk? H.f65.loops 3).getD []
abbrev I.f68 : FuncId := 45
noncomputable abbrev F.f68 : Func := Proofs.Try.f45
theorem G.f68 : P0.funcs[45]? = some F.f68 := Proofs.Try.func45
theorem C.f68 : Called P0 45 := ⟨_, G.f68, by kernel_rfl, by kernel_rfl⟩
def H.f68 : Hint := { nt := 90, lg := [], vs := [], nh := [], join := [(1, 5), (3, 5), (5, 49), (6, 49), (10, 4)], loops := [], jc := [(5, [(49, .bool)])] }
noncomputable abbrev B.f68 : Code := (F.f68.body).getD .skip
theorem Bd.f68 : F.f68.body = some B.f68 := by kernel_rfl
abbrev I.f28 : FuncId := 46
noncomputable abbrev F.f28 : Func := Proofs.Try.f46
theorem G.f28 : P0.funcs[46]? = some F.f28 := Proofs.Try.func46
theorem C.f28 : Called P0 46 := ⟨_, G.f28, by kernel_rfl, by kernel_rfl⟩
def H.f28 : Hint := { nt := 9, lg := [], vs := [], nh := [], join := [(1, 2)], loops := [], jc := [] }
noncomputable abbrev B.f28 : Code := (F.f28.body).getD .skip
theorem Bd.f28 : F.f28.body = some B.f28 := by kernel_rfl
abbrev I.f56 : FuncId := 47
noncomputable abbrev F.f56 : Func := Proofs.Try.f47
theorem G.f56 : P0.funcs[47]? = some F.f56 := Proofs.Try.func47
theorem C.f56 : Called P0 47 := ⟨_, G.f56, by kernel_rfl, by kernel_rfl⟩
def H.f56 : Hint := { nt := 10, lg := [], vs := [], nh := [], join := [(1, 2)], loops := [], jc := [] }
noncomputable abbrev B.f56 : Code := (F.f56.body).getD .skip
theorem Bd.f56 : F.f56.body = some B.f56 := by kernel_rfl
abbrev I.f77 : FuncId := 48
noncomputable abbrev F.f77 : Func := Proofs.Try.f48
theorem G.f77 : P0.funcs[48]? = some F.f77 := Proofs.Try.func48
theorem C.f77 : Called P0 48 := ⟨_, G.f77, by kernel_rfl, by kernel_rfl⟩
def H.f77 : Hint := { nt := 224, lg := [], vs := [8], nh := [], join := [], loops := [], jc := [] }
noncomputable abbrev B.f77 : Code := (F.f77.body).getD .skip
theorem Bd.f77 : F.f77.body = some B.f77 := by kernel_rfl
abbrev I.f69 : FuncId := 49
noncomputable abbrev F.f69 : Func := Proofs.Try.f49
theorem G.f69 : P0.funcs[49]? = some F.f69 := Proofs.Try.func49
theorem C.f69 : Called P0 49 := ⟨_, G.f69, by kernel_rfl, by kernel_rfl⟩
def H.f69 : Hint := { nt := 39, lg := [], vs := [25], nh := [], join := [], loops := [], jc := [] }
noncomputable abbrev B.f69 : Code := (F.f69.body).getD .skip
theorem Bd.f69 : F.f69.body = some B.f69 := by kernel_rfl
abbrev I.f0 : FuncId := 50
noncomputable abbrev F.f0 : Func := Proofs.Try.f50
theorem G.f0 : P0.funcs[50]? = some F.f0 := Proofs.Try.func50
theorem C.f0 : Called P0 50 := ⟨_, G.f0, by kernel_rfl, by kernel_rfl⟩
def H.f0 : Hint := { nt := 65, lg := [], vs := [10], nh := [(11, 27)], join := [(9, 54)], loops := [(4, [0, 1, 2, 3, 4, 11, 12, 13])], jc := [] }
noncomputable abbrev B.f0 : Code := (F.f0.body).getD .skip
theorem Bd.f0 : F.f0.body = some B.f0 := by kernel_rfl
noncomputable abbrev L.f0_4 : Code := findL 4 (loopsIn B.f0)
abbrev V.f0_4 : List Nat := (lk? H.f0.loops 4).getD []
abbrev I.f72 : FuncId := 51
noncomputable abbrev F.f72 : Func := Proofs.Try.f51
theorem G.f72 : P0.funcs[51]? = some F.f72 := Proofs.Try.func51
theorem C.f72 : Called P0 51 := ⟨_, G.f72, by kernel_rfl, by kernel_rfl⟩
def H.f72 : Hint := { nt := 8, lg := [], vs := [2], nh := [], join := [], loops := [], jc := [] }
noncomputable abbrev B.f72 : Code := (F.f72.body).getD .skip
theorem Bd.f72 : F.f72.body = some B.f72 := by kernel_rfl
abbrev I.f12 : FuncId := 52
noncomputable abbrev F.f12 : Func := Proofs.Try.f52
theorem G.f12 : P0.funcs[52]? = some F.f12 := Proofs.Try.func52
theorem C.f12 : Called P0 52 := ⟨_, G.f12, by kernel_rfl, by kernel_rfl⟩
def H.f12 : Hint := { nt := 79, lg := [], vs := [], nh := [], join := [], loops := [(5, [0, 1, 2, 7, 8])], jc := [] }
noncomputable abbrev B.f12 : Code := (F.f12.body).getD .skip
theorem Bd.f12 : F.f12.body = some B.f12 := by kernel_rfl
noncomputable abbrev L.f12_5 : Code := findL 5 (loopsIn B.f12)
abbrev V.f12_5 : List Nat := (lk? H.f12.loops 5).getD []
abbrev I.f20 : FuncId := 53
noncomputable abbrev F.f20 : Func := Proofs.Try.f53
theorem G.f20 : P0.funcs[53]? = some F.f20 := Proofs.Try.func53
theorem C.f20 : Called P0 53 := ⟨_, G.f20, by kernel_rfl, by kernel_rfl⟩
def H.f20 : Hint := { nt := 75, lg := [], vs := [], nh := [], join := [], loops := [], jc := [] }
noncomputable abbrev B.f20 : Code := (F.f20.body).getD .skip
theorem Bd.f20 : F.f20.body = some B.f20 := by kernel_rfl
abbrev I.f13 : FuncId := 54
noncomputable abbrev F.f13 : Func := Proofs.Try.f54
theorem G.f13 : P0.funcs[54]? = some F.f13 := Proofs.Try.func54
theorem C.f13 : Called P0 54 := ⟨_, G.f13, by kernel_rfl, by kernel_rfl⟩
def H.f13 : Hint := { nt := 142, lg := [], vs := [], nh := [(9, 27), (14, 27)], join := [(18, 102)], loops := [(5, [0, 1, 2, 3, 9, 10]), (10, [0, 1, 11, 12]), (16, [0, 1, 11, 12, 13, 14, 15])], jc := [] }
noncomputable abbrev B.f13 : Code := (F.f13.body).getD .skip
theorem Bd.f13 : F.f13.body = some B.f13 := by kernel_rfl
noncomputable abbrev L.f13_5 : Code := findL 5 (loopsIn B.f13)
noncomputable abbrev L.f13_10 : Code := findL 10 (loopsIn B.f13)
noncomputable abbrev L.f13_16 : Code := findL 16 (loopsIn B.f13)
abbrev V.f13_5 : List Nat := (lk? H.f13.loops 5).getD []
abbrev V.f13_10 : List Nat := (lk? H.f13.loops 10).getD []
abbrev V.f13_16 : List Nat := (lk? H.f13.loops 16).getD []
abbrev I.f19 : FuncId := 55
noncomputable abbrev F.f19 : Func := Proofs.Try.f55
theorem G.f19 : P0.funcs[55]? = some F.f19 := Proofs.Try.func55
theorem C.f19 : Called P0 55 := ⟨_, G.f19, by kernel_rfl, by kernel_rfl⟩
def H.f19 : Hint := { nt := 24, lg := [], vs := [], nh := [], join := [], loops := [], jc := [] }
noncomputable abbrev B.f19 : Code := (F.f19.body).getD .skip
theorem Bd.f19 : F.f19.body = some B.f19 := by kernel_rfl
abbrev I.f17 : FuncId := 56
noncomputable abbrev F.f17 : Func := Proofs.Try.f56
theorem G.f17 : P0.funcs[56]? = some F.f17 := Proofs.Try.func56
theorem C.f17 : Called P0 56 := ⟨_, G.f17, by kernel_rfl, by kernel_rfl⟩
def H.f17 : Hint := { nt := 121, lg := [], vs := [], nh := [], join := [(6, 51)], loops := [(2, [0, 1, 4, 5])], jc := [] }
noncomputable abbrev B.f17 : Code := (F.f17.body).getD .skip
theorem Bd.f17 : F.f17.body = some B.f17 := by kernel_rfl
noncomputable abbrev L.f17_2 : Code := findL 2 (loopsIn B.f17)
abbrev V.f17_2 : List Nat := (lk? H.f17.loops 2).getD []
abbrev I.f14 : FuncId := 57
noncomputable abbrev F.f14 : Func := Proofs.Try.f57
theorem G.f14 : P0.funcs[57]? = some F.f14 := Proofs.Try.func57
theorem C.f14 : Called P0 57 := ⟨_, G.f14, by kernel_rfl, by kernel_rfl⟩
def H.f14 : Hint := { nt := 40, lg := [], vs := [], nh := [], join := [(2, 19)], loops := [(2, [0, 1, 4, 5, 6])], jc := [] }
noncomputable abbrev B.f14 : Code := (F.f14.body).getD .skip
theorem Bd.f14 : F.f14.body = some B.f14 := by kernel_rfl
noncomputable abbrev L.f14_2 : Code := findL 2 (loopsIn B.f14)
abbrev V.f14_2 : List Nat := (lk? H.f14.loops 2).getD []
abbrev I.f18 : FuncId := 58
noncomputable abbrev F.f18 : Func := Proofs.Try.f58
theorem G.f18 : P0.funcs[58]? = some F.f18 := Proofs.Try.func58
theorem C.f18 : Called P0 58 := ⟨_, G.f18, by kernel_rfl, by kernel_rfl⟩
def H.f18 : Hint := { nt := 85, lg := [], vs := [], nh := [], join := [(5, 43), (6, 71)], loops := [(2, [0, 1, 2, 3, 4, 10, 11])], jc := [] }
noncomputable abbrev B.f18 : Code := (F.f18.body).getD .skip
theorem Bd.f18 : F.f18.body = some B.f18 := by kernel_rfl
noncomputable abbrev L.f18_2 : Code := findL 2 (loopsIn B.f18)
abbrev V.f18_2 : List Nat := (lk? H.f18.loops 2).getD []
abbrev I.f73 : FuncId := 59
noncomputable abbrev F.f73 : Func := Proofs.Try.f59
theorem G.f73 : P0.funcs[59]? = some F.f73 := Proofs.Try.func59
theorem C.f73 : Called P0 59 := ⟨_, G.f73, by kernel_rfl, by kernel_rfl⟩
def H.f73 : Hint := { nt := 8, lg := [], vs := [2], nh := [], join := [], loops := [], jc := [] }
noncomputable abbrev B.f73 : Code := (F.f73.body).getD .skip
theorem Bd.f73 : F.f73.body = some B.f73 := by kernel_rfl
abbrev I.f44 : FuncId := 60
noncomputable abbrev F.f44 : Func := Proofs.Try.f60
theorem G.f44 : P0.funcs[60]? = some F.f44 := Proofs.Try.func60
theorem C.f44 : Called P0 60 := ⟨_, G.f44, by kernel_rfl, by kernel_rfl⟩
def H.f44 : Hint := { nt := 49, lg := [], vs := [], nh := [], join := [(3, 45)], loops := [(3, [0, 2, 4, 7, 8])], jc := [] }
noncomputable abbrev B.f44 : Code := (F.f44.body).getD .skip
theorem Bd.f44 : F.f44.body = some B.f44 := by kernel_rfl
noncomputable abbrev L.f44_3 : Code := findL 3 (loopsIn B.f44)
abbrev V.f44_3 : List Nat := (lk? H.f44.loops 3).getD []
abbrev I.f27 : FuncId := 61
noncomputable abbrev F.f27 : Func := Proofs.Try.f61
theorem G.f27 : P0.funcs[61]? = some F.f27 := Proofs.Try.func61
theorem C.f27 : Called P0 61 := ⟨_, G.f27, by kernel_rfl, by kernel_rfl⟩
def H.f27 : Hint := { nt := 36, lg := [], vs := [], nh := [], join := [], loops := [], jc := [] }
noncomputable abbrev B.f27 : Code := (F.f27.body).getD .skip
theorem Bd.f27 : F.f27.body = some B.f27 := by kernel_rfl
abbrev I.f25 : FuncId := 62
noncomputable abbrev F.f25 : Func := Proofs.Try.f62
theorem G.f25 : P0.funcs[62]? = some F.f25 := Proofs.Try.func62
theorem C.f25 : Called P0 62 := ⟨_, G.f25, by kernel_rfl, by kernel_rfl⟩
def H.f25 : Hint := { nt := 34, lg := [], vs := [], nh := [], join := [], loops := [(3, [0, 4, 5, 6])], jc := [] }
noncomputable abbrev B.f25 : Code := (F.f25.body).getD .skip
theorem Bd.f25 : F.f25.body = some B.f25 := by kernel_rfl
noncomputable abbrev L.f25_3 : Code := findL 3 (loopsIn B.f25)
abbrev V.f25_3 : List Nat := (lk? H.f25.loops 3).getD []
abbrev I.f76 : FuncId := 63
noncomputable abbrev F.f76 : Func := Proofs.Try.f63
theorem G.f76 : P0.funcs[63]? = some F.f76 := Proofs.Try.func63
theorem C.f76 : Called P0 63 := ⟨_, G.f76, by kernel_rfl, by kernel_rfl⟩
def H.f76 : Hint := { nt := 19, lg := [], vs := [], nh := [], join := [], loops := [(2, [0, 1, 4, 7, 8])], jc := [] }
noncomputable abbrev B.f76 : Code := (F.f76.body).getD .skip
theorem Bd.f76 : F.f76.body = some B.f76 := by kernel_rfl
noncomputable abbrev L.f76_2 : Code := findL 2 (loopsIn B.f76)
abbrev V.f76_2 : List Nat := (lk? H.f76.loops 2).getD []
abbrev I.f52 : FuncId := 64
noncomputable abbrev F.f52 : Func := Proofs.Try.f64
theorem G.f52 : P0.funcs[64]? = some F.f52 := Proofs.Try.func64
theorem C.f52 : Called P0 64 := ⟨_, G.f52, by kernel_rfl, by kernel_rfl⟩
def H.f52 : Hint := { nt := 8, lg := [], vs := [], nh := [], join := [], loops := [], jc := [] }
noncomputable abbrev B.f52 : Code := (F.f52.body).getD .skip
theorem Bd.f52 : F.f52.body = some B.f52 := by kernel_rfl
abbrev I.f66 : FuncId := 65
noncomputable abbrev F.f66 : Func := Proofs.Try.f65
theorem G.f66 : P0.funcs[65]? = some F.f66 := Proofs.Try.func65
theorem C.f66 : Called P0 65 := ⟨_, G.f66, by kernel_rfl, by kernel_rfl⟩
def H.f66 : Hint := { nt := 8, lg := [], vs := [], nh := [], join := [], loops := [], jc := [] }
noncomputable abbrev B.f66 : Code := (F.f66.body).getD .skip
theorem Bd.f66 : F.f66.body = some B.f66 := by kernel_rfl
abbrev I.f33 : FuncId := 66
noncomputable abbrev F.f33 : Func := Proofs.Try.f66
theorem G.f33 : P0.funcs[66]? = some F.f33 := Proofs.Try.func66
theorem C.f33 : Called P0 66 := ⟨_, G.f33, by kernel_rfl, by kernel_rfl⟩
def H.f33 : Hint := { nt := 30, lg := [], vs := [4], nh := [], join := [], loops := [], jc := [] }
noncomputable abbrev B.f33 : Code := (F.f33.body).getD .skip
theorem Bd.f33 : F.f33.body = some B.f33 := by kernel_rfl
abbrev I.f34 : FuncId := 67
noncomputable abbrev F.f34 : Func := Proofs.Try.f67
theorem G.f34 : P0.funcs[67]? = some F.f34 := Proofs.Try.func67
theorem C.f34 : Called P0 67 := ⟨_, G.f34, by kernel_rfl, by kernel_rfl⟩
def H.f34 : Hint := { nt := 47, lg := [], vs := [4], nh := [], join := [], loops := [], jc := [] }
noncomputable abbrev B.f34 : Code := (F.f34.body).getD .skip
theorem Bd.f34 : F.f34.body = some B.f34 := by kernel_rfl
abbrev I.f58 : FuncId := 68
noncomputable abbrev F.f58 : Func := Proofs.Try.f68
theorem G.f58 : P0.funcs[68]? = some F.f58 := Proofs.Try.func68
theorem C.f58 : Called P0 68 := ⟨_, G.f58, by kernel_rfl, by kernel_rfl⟩
def H.f58 : Hint := { nt := 24, lg := [], vs := [], nh := [], join := [(1, 4)], loops := [], jc := [] }
noncomputable abbrev B.f58 : Code := (F.f58.body).getD .skip
theorem Bd.f58 : F.f58.body = some B.f58 := by kernel_rfl
abbrev I.f39 : FuncId := 69
noncomputable abbrev F.f39 : Func := Proofs.Try.f69
theorem G.f39 : P0.funcs[69]? = some F.f39 := Proofs.Try.func69
theorem C.f39 : Called P0 69 := ⟨_, G.f39, by kernel_rfl, by kernel_rfl⟩
def H.f39 : Hint := { nt := 5, lg := [], vs := [], nh := [], join := [], loops := [], jc := [] }
noncomputable abbrev B.f39 : Code := (F.f39.body).getD .skip
theorem Bd.f39 : F.f39.body = some B.f39 := by kernel_rfl
abbrev I.f47 : FuncId := 70
noncomputable abbrev F.f47 : Func := Proofs.Try.f70
theorem G.f47 : P0.funcs[70]? = some F.f47 := Proofs.Try.func70
theorem C.f47 : Called P0 70 := ⟨_, G.f47, by kernel_rfl, by kernel_rfl⟩
def H.f47 : Hint := { nt := 21, lg := [], vs := [2], nh := [(3, 5)], join := [], loops := [(3, [3, 6, 7, 8])], jc := [] }
noncomputable abbrev B.f47 : Code := (F.f47.body).getD .skip
theorem Bd.f47 : F.f47.body = some B.f47 := by kernel_rfl
noncomputable abbrev L.f47_3 : Code := findL 3 (loopsIn B.f47)
abbrev V.f47_3 : List Nat := (lk? H.f47.loops 3).getD []
abbrev I.f31 : FuncId := 71
noncomputable abbrev F.f31 : Func := Proofs.Try.f71
theorem G.f31 : P0.funcs[71]? = some F.f31 := Proofs.Try.func71
theorem C.f31 : Called P0 71 := ⟨_, G.f31, by kernel_rfl, by kernel_rfl⟩
def H.f31 : Hint := { nt := 37, lg := [], vs := [], nh := [], join := [], loops := [(3, [1, 5, 6]), (7, [1, 5, 6, 7])], jc := [] }
noncomputable abbrev B.f31 : Code := (F.f31.body).getD .skip
theorem Bd.f31 : F.f31.body = some B.f31 := by kernel_rfl
noncomputable abbrev L.f31_3 : Code := findL 3 (loopsIn B.f31)
noncomputable abbrev L.f31_7 : Code := findL 7 (loopsIn B.f31)
abbrev V.f31_3 : List Nat := (lk? H.f31.loops 3).getD []
abbrev V.f31_7 : List Nat := (lk? H.f31.loops 7).getD []
abbrev I.f16 : FuncId := 72
noncomputable abbrev F.f16 : Func := Proofs.Try.f72
theorem G.f16 : P0.funcs[72]? = some F.f16 := Proofs.Try.func72
theorem C.f16 : Called P0 72 := ⟨_, G.f16, by kernel_rfl, by kernel_rfl⟩
def H.f16 : Hint := { nt := 10, lg := [], vs := [], nh := [], join := [], loops := [], jc := [] }
noncomputable abbrev B.f16 : Code := (F.f16.body).getD .skip
theorem Bd.f16 : F.f16.body = some B.f16 := by kernel_rfl
abbrev I.f15 : FuncId := 73
noncomputable abbrev F.f15 : Func := Proofs.Try.f73
theorem G.f15 : P0.funcs[73]? = some F.f15 := Proofs.Try.func73
theorem C.f15 : Called P0 73 := ⟨_, G.f15, by kernel_rfl, by kernel_rfl⟩
def H.f15 : Hint := { nt := 16, lg := [], vs := [], nh := [], join := [], loops := [], jc := [] }
noncomputable abbrev B.f15 : Code := (F.f15.body).getD .skip
theorem Bd.f15 : F.f15.body = some B.f15 := by kernel_rfl
abbrev I.f70 : FuncId := 74
noncomputable abbrev F.f70 : Func := Proofs.Try.f74
theorem G.f70 : P0.funcs[74]? = some F.f70 := Proofs.Try.func74
theorem C.f70 : Called P0 74 := ⟨_, G.f70, by kernel_rfl, by kernel_rfl⟩
def H.f70 : Hint := { nt := 35, lg := [], vs := [], nh := [], join := [(5, 30)], loops := [(3, [1, 2, 3, 9, 10, 11])], jc := [] }
noncomputable abbrev B.f70 : Code := (F.f70.body).getD .skip
theorem Bd.f70 : F.f70.body = some B.f70 := by kernel_rfl
noncomputable abbrev L.f70_3 : Code := findL 3 (loopsIn B.f70)
abbrev V.f70_3 : List Nat := (lk? H.f70.loops 3).getD []
abbrev I.f74 : FuncId := 79
noncomputable abbrev F.f74 : Func := Proofs.Try.f79
theorem G.f74 : P0.funcs[79]? = some F.f74 := Proofs.Try.func79
theorem C.f74 : Called P0 79 := ⟨_, G.f74, by kernel_rfl, by kernel_rfl⟩
def H.f74 : Hint := { nt := 36, lg := [], vs := [2], nh := [], join := [], loops := [(3, [0, 3, 9, 10, 11]), (11, [6, 25, 26, 27])], jc := [] }
noncomputable abbrev B.f74 : Code := (F.f74.body).getD .skip
theorem Bd.f74 : F.f74.body = some B.f74 := by kernel_rfl
noncomputable abbrev L.f74_3 : Code := findL 3 (loopsIn B.f74)
noncomputable abbrev L.f74_11 : Code := findL 11 (loopsIn B.f74)
abbrev V.f74_3 : List Nat := (lk? H.f74.loops 3).getD []
abbrev V.f74_11 : List Nat := (lk? H.f74.loops 11).getD []
abbrev I.f1 : FuncId := 80
noncomputable abbrev F.f1 : Func := Proofs.Try.f80
theorem G.f1 : P0.funcs[80]? = some F.f1 := Proofs.Try.func80
theorem C.f1 : Called P0 80 := ⟨_, G.f1, by kernel_rfl, by kernel_rfl⟩
def H.f1 : Hint := { nt := 37, lg := [], vs := [], nh := [], join := [(2, 6), (3, 6)], loops := [], jc := [] }
noncomputable abbrev B.f1 : Code := (F.f1.body).getD .skip
theorem Bd.f1 : F.f1.body = some B.f1 := by kernel_rfl
abbrev I.f78 : FuncId := 81
noncomputable abbrev F.f78 : Func := Proofs.Try.f81
theorem G.f78 : P0.funcs[81]? = some F.f78 := Proofs.Try.func81
theorem C.f78 : Called P0 81 := ⟨_, G.f78, by kernel_rfl, by kernel_rfl⟩
def H.f78 : Hint := { nt := 28, lg := [], vs := [], nh := [], join := [], loops := [(1, [0, 2, 3])], jc := [] }
noncomputable abbrev B.f78 : Code := (F.f78.body).getD .skip
theorem Bd.f78 : F.f78.body = some B.f78 := by kernel_rfl
noncomputable abbrev L.f78_1 : Code := findL 1 (loopsIn B.f78)
abbrev V.f78_1 : List Nat := (lk? H.f78.loops 1).getD []
abbrev I.f26 : FuncId := 82
noncomputable abbrev F.f26 : Func := Proofs.Try.f82
theorem G.f26 : P0.funcs[82]? = some F.f26 := Proofs.Try.func82
theorem C.f26 : Called P0 82 := ⟨_, G.f26, by kernel_rfl, by kernel_rfl⟩
def H.f26 : Hint := { nt := 28, lg := [], vs := [], nh := [], join := [(5, 21)], loops := [(3, [0, 3, 4])], jc := [] }
noncomputable abbrev B.f26 : Code := (F.f26.body).getD .skip
theorem Bd.f26 : F.f26.body = some B.f26 := by kernel_rfl
noncomputable abbrev L.f26_3 : Code := findL 3 (loopsIn B.f26)
abbrev V.f26_3 : List Nat := (lk? H.f26.loops 3).getD []
abbrev I.f11 : FuncId := 83
noncomputable abbrev F.f11 : Func := Proofs.Try.f83
theorem G.f11 : P0.funcs[83]? = some F.f11 := Proofs.Try.func83
theorem C.f11 : Called P0 83 := ⟨_, G.f11, by kernel_rfl, by kernel_rfl⟩
def H.f11 : Hint := { nt := 81, lg := [], vs := [10], nh := [(11, 27)], join := [(9, 39), (11, 14), (12, 14)], loops := [(3, [0, 1, 2, 3, 4, 11, 12]), (9, [0, 1, 2, 3, 4, 11, 12, 13, 14, 15])], jc := [] }
noncomputable abbrev B.f11 : Code := (F.f11.body).getD .skip
theorem Bd.f11 : F.f11.body = some B.f11 := by kernel_rfl
noncomputable abbrev L.f11_3 : Code := findL 3 (loopsIn B.f11)
noncomputable abbrev L.f11_9 : Code := findL 9 (loopsIn B.f11)
abbrev V.f11_3 : List Nat := (lk? H.f11.loops 3).getD []
abbrev V.f11_9 : List Nat := (lk? H.f11.loops 9).getD []
abbrev I.f21 : FuncId := 84
noncomputable abbrev F.f21 : Func := Proofs.Try.f84
theorem G.f21 : P0.funcs[84]? = some F.f21 := Proofs.Try.func84
theorem C.f21 : Called P0 84 := ⟨_, G.f21, by kernel_rfl, by kernel_rfl⟩
def H.f21 : Hint := { nt := 10, lg := [], vs := [], nh := [], join := [], loops := [], jc := [] }
noncomputable abbrev B.f21 : Code := (F.f21.body).getD .skip
theorem Bd.f21 : F.f21.body = some B.f21 := by kernel_rfl
abbrev I.f46 : FuncId := 85
noncomputable abbrev F.f46 : Func := Proofs.Try.f85
theorem G.f46 : P0.funcs[85]? = some F.f46 := Proofs.Try.func85
theorem C.f46 : Called P0 85 := ⟨_, G.f46, by kernel_rfl, by kernel_rfl⟩
def H.f46 : Hint := { nt := 31, lg := [], vs := [2], nh := [], join := [], loops := [(4, [0, 3, 4, 5])], jc := [] }
noncomputable abbrev B.f46 : Code := (F.f46.body).getD .skip
theorem Bd.f46 : F.f46.body = some B.f46 := by kernel_rfl
noncomputable abbrev L.f46_4 : Code := findL 4 (loopsIn B.f46)
abbrev V.f46_4 : List Nat := (lk? H.f46.loops 4).getD []
abbrev I.f45 : FuncId := 86
noncomputable abbrev F.f45 : Func := Proofs.Try.f86
theorem G.f45 : P0.funcs[86]? = some F.f45 := Proofs.Try.func86
theorem C.f45 : Called P0 86 := ⟨_, G.f45, by kernel_rfl, by kernel_rfl⟩
def H.f45 : Hint := { nt := 28, lg := [], vs := [], nh := [], join := [(1, 6)], loops := [], jc := [] }
noncomputable abbrev B.f45 : Code := (F.f45.body).getD .skip
theorem Bd.f45 : F.f45.body = some B.f45 := by kernel_rfl
abbrev I.f32 : FuncId := 87
noncomputable abbrev F.f32 : Func := Proofs.Try.f87
theorem G.f32 : P0.funcs[87]? = some F.f32 := Proofs.Try.func87
theorem C.f32 : Called P0 87 := ⟨_, G.f32, by kernel_rfl, by kernel_rfl⟩
def H.f32 : Hint := { nt := 23, lg := [], vs := [], nh := [], join := [], loops := [(2, [0, 1])], jc := [] }
noncomputable abbrev B.f32 : Code := (F.f32.body).getD .skip
theorem Bd.f32 : F.f32.body = some B.f32 := by kernel_rfl
noncomputable abbrev L.f32_2 : Code := findL 2 (loopsIn B.f32)
abbrev V.f32_2 : List Nat := (lk? H.f32.loops 2).getD []
abbrev I.f30 : FuncId := 88
noncomputable abbrev F.f30 : Func := Proofs.Try.f88
theorem G.f30 : P0.funcs[88]? = some F.f30 := Proofs.Try.func88
theorem C.f30 : Called P0 88 := ⟨_, G.f30, by kernel_rfl, by kernel_rfl⟩
def H.f30 : Hint := { nt := 14, lg := [], vs := [], nh := [], join := [], loops := [], jc := [] }
noncomputable abbrev B.f30 : Code := (F.f30.body).getD .skip
theorem Bd.f30 : F.f30.body = some B.f30 := by kernel_rfl
abbrev I.f38 : FuncId := 89
noncomputable abbrev F.f38 : Func := Proofs.Try.f89
theorem G.f38 : P0.funcs[89]? = some F.f38 := Proofs.Try.func89
theorem C.f38 : Called P0 89 := ⟨_, G.f38, by kernel_rfl, by kernel_rfl⟩
def H.f38 : Hint := { nt := 35, lg := [], vs := [], nh := [], join := [], loops := [(3, [5, 11, 12, 13]), (7, [5, 11, 12, 13, 21])], jc := [] }
noncomputable abbrev B.f38 : Code := (F.f38.body).getD .skip
theorem Bd.f38 : F.f38.body = some B.f38 := by kernel_rfl
noncomputable abbrev L.f38_3 : Code := findL 3 (loopsIn B.f38)
noncomputable abbrev L.f38_7 : Code := findL 7 (loopsIn B.f38)
abbrev V.f38_3 : List Nat := (lk? H.f38.loops 3).getD []
abbrev V.f38_7 : List Nat := (lk? H.f38.loops 7).getD []
abbrev I.f40 : FuncId := 90
noncomputable abbrev F.f40 : Func := Proofs.Try.f90
theorem G.f40 : P0.funcs[90]? = some F.f40 := Proofs.Try.func90
theorem C.f40 : Called P0 90 := ⟨_, G.f40, by kernel_rfl, by kernel_rfl⟩
def H.f40 : Hint := { nt := 18, lg := [], vs := [4], nh := [], join := [], loops := [], jc := [] }
noncomputable abbrev B.f40 : Code := (F.f40.body).getD .skip
theorem Bd.f40 : F.f40.body = some B.f40 := by kernel_rfl
abbrev I.f42 : FuncId := 91
noncomputable abbrev F.f42 : Func := Proofs.Try.f91
theorem G.f42 : P0.funcs[91]? = some F.f42 := Proofs.Try.func91
theorem C.f42 : Called P0 91 := ⟨_, G.f42, by kernel_rfl, by kernel_rfl⟩
def H.f42 : Hint := { nt := 47, lg := [], vs := [13, 18, 29, 38], nh := [], join := [], loops := [], jc := [] }
noncomputable abbrev B.f42 : Code := (F.f42.body).getD .skip
theorem Bd.f42 : F.f42.body = some B.f42 := by kernel_rfl
abbrev I.f75 : FuncId := 93
noncomputable abbrev F.f75 : Func := Proofs.Try.f93
theorem G.f75 : P0.funcs[93]? = some F.f75 := Proofs.Try.func93
theorem C.f75 : Called P0 93 := ⟨_, G.f75, by kernel_rfl, by kernel_rfl⟩
def H.f75 : Hint := { nt := 27, lg := [], vs := [4], nh := [], join := [], loops := [], jc := [] }
noncomputable abbrev B.f75 : Code := (F.f75.body).getD .skip
theorem Bd.f75 : F.f75.body = some B.f75 := by kernel_rfl
abbrev I.f80 : FuncId := 94
noncomputable abbrev F.f80 : Func := Proofs.Try.f94
theorem G.f80 : P0.funcs[94]? = some F.f80 := Proofs.Try.func94
theorem C.f80 : Called P0 94 := ⟨_, G.f80, by kernel_rfl, by kernel_rfl⟩
def H.f80 : Hint := { nt := 23, lg := [], vs := [], nh := [], join := [], loops := [(2, [1, 5])], jc := [] }
noncomputable abbrev B.f80 : Code := (F.f80.body).getD .skip
theorem Bd.f80 : F.f80.body = some B.f80 := by kernel_rfl
noncomputable abbrev L.f80_2 : Code := findL 2 (loopsIn B.f80)
abbrev V.f80_2 : List Nat := (lk? H.f80.loops 2).getD []
abbrev I.f41 : FuncId := 95
noncomputable abbrev F.f41 : Func := Proofs.Try.f95
theorem G.f41 : P0.funcs[95]? = some F.f41 := Proofs.Try.func95
theorem C.f41 : Called P0 95 := ⟨_, G.f41, by kernel_rfl, by kernel_rfl⟩
def H.f41 : Hint := { nt := 15, lg := [], vs := [2], nh := [], join := [], loops := [], jc := [] }
noncomputable abbrev B.f41 : Code := (F.f41.body).getD .skip
theorem Bd.f41 : F.f41.body = some B.f41 := by kernel_rfl
abbrev I.f79 : FuncId := 96
noncomputable abbrev F.f79 : Func := Proofs.Try.f96
theorem G.f79 : P0.funcs[96]? = some F.f79 := Proofs.Try.func96
theorem C.f79 : Called P0 96 := ⟨_, G.f79, by kernel_rfl, by kernel_rfl⟩
def H.f79 : Hint := { nt := 12, lg := [], vs := [], nh := [], join := [], loops := [], jc := [] }
noncomputable abbrev B.f79 : Code := (F.f79.body).getD .skip
theorem Bd.f79 : F.f79.body = some B.f79 := by kernel_rfl
end Go.Sim
namespace Go.Sim
set_option linter.unusedSectionVars false
set_option linter.unusedSimpArgs false
set_option linter.unusedVariables false
theorem wrap_in {k : IntKind} {n : Int} (h : In k n) : k.wrap n = n := by
  have h1 := h.1
  have h2 := h.2
  cases k <;> simp [IntKind.min, IntKind.max, IntKind.bits, IntKind.signed] at h1 h2 <;> simp [IntKind.wrap, IntKind.bits, IntKind.signed] <;> omega
theorem In.i64 {n : Int} : In .i64 n ↔ -9223372036854775808 ≤ n ∧ n ≤ 9223372036854775807 := by
  unfold In; rw [show IntKind.i64.min = -9223372036854775808 by decide, show IntKind.i64.max = 9223372036854775807 by decide]
theorem In.u64 {n : Int} : In .u64 n ↔ 0 ≤ n ∧ n ≤ 18446744073709551615 := by
  unfold In; rw [show IntKind.u64.min = 0 by decide, show IntKind.u64.max = 18446744073709551615 by decide]
theorem In.u32 {n : Int} : In .u32 n ↔ 0 ≤ n ∧ n ≤ 4294967295 := by
  unfold In; rw [show IntKind.u32.min = 0 by decide, show IntKind.u32.max = 4294967295 by decide]
theorem In.u8' {n : Int} : In .u8 n ↔ 0 ≤ n ∧ n ≤ 255 := by
  unfold In; rw [show IntKind.u8.min = 0 by decide, show IntKind.u8.max = 255 by decide]
theorem In.i32 {n : Int} : In .i32 n ↔ -2147483648 ≤ n ∧ n ≤ 2147483647 := by
  unfold In; rw [show IntKind.i32.min = -2147483648 by decide, show IntKind.i32.max = 2147483647 by decide]
theorem wrap64 {n : Int} (h1 : -9223372036854775808 ≤ n) (h2 : n ≤ 9223372036854775807) : IntKind.i64.wrap n = n := wrap_in (In.i64.2 ⟨h1, h2⟩)
theorem wrapu64 {n : Int} (h1 : 0 ≤ n) (h2 : n ≤ 18446744073709551615) : IntKind.u64.wrap n = n := wrap_in (In.u64.2 ⟨h1, h2⟩)
theorem wrapu64_mod (n : Int) : IntKind.u64.wrap n = n % 18446744073709551616 := by simp [IntKind.wrap, IntKind.bits, IntKind.signed]
theorem cond_ite {α : Type _} {p : Prop} [Decidable p] {a b : α} : cond (decide p) a b = if p then a else b := by by_cases h : p <;> simp [h]
theorem cond_pos {α : Type _} {p : Prop} [Decidable p] {a b : α} (h : p) : cond (decide p) a b = a := by simp [h]
theorem cond_neg {α : Type _} {p : Prop} [Decidable p] {a b : α} (h : ¬ p) : cond (decide p) a b = b := by simp [h]
theorem cond_pos2 {α : Type _} {p q : Prop} [Decidable p] [Decidable q] {a b : α} (h : p) (h' : q) : cond (decide p && decide q) a b = a := by simp [h, h']
theorem cond_and_none {α : Type _} {a b : Bool} {x : Option α} : cond (a && b) x none = cond a (cond b x none) none := by cases a <;> rfl
theorem pick_one {α : Type} {v y : α} (h : pick [(true, v)] = some y) : y = v := by simpa [pick] using h.symm
theorem pick_pre {α : Type} {c : Bool} {v y : α} (h : pick [(c, v)] = some y) : c = true ∧ y = v := by
  cases c with
  | true => exact ⟨rfl, by simpa [pick] using h.symm⟩
  | false => cases h
section
variable {P : Program} [Tabs P] {E : Env} {H : Hint} {k0 : Nat} {R : Type}
theorem noLoops {c : Code} : LoopsGood P H k0 (LPof (R := R) []) c := LPof_good fun b _ lc h => by cases h
theorem loops_good {tab : List (Nat × LoopC)} {c : Code} (hd : distinctB ((loopsIn c).map firstRegion) = true) (h : ∀ x ∈ tab, LoopOK P H k0 (findL x.1 (loopsIn c)) x.2) : LoopsGood P H k0 (LPof (R := R) tab) c :=
  LPof_good fun b hb lc hlc => by
    have := h _ (lk?_mem hlc)
    rw [findL_mem hd hb] at this
    exact this
theorem loop_ok (hE : EnvOK P E) (hg : GlobOK P E) (hm : P.follows .mixedOrders = true) {b : Code} {tab : List (Nat × LoopC)} (hb : LoopsGood P H k0 (LPof (R := Ex × St) tab) b) (live : List Nat) {c : LoopC} (hk : c.pat.keys = true)
    (h : ∀ x e s', pick (c.f x) = some (e, s') → c.pat.wf x → ∃ n, rounds E H k0 (LPof tab) live b n (c.pat.mk' x) (fun e s => some (e, s)) = some (e, s')) : LoopOK P H k0 b c :=
  ⟨hk, fun x e s' hp hw => by
    obtain ⟨n, hn⟩ := h x e s' hp hw
    exact loop_good hE hg hm hb hn⟩
theorem rounds_succ' {LP : Loops R} {live : List Nat} {b : Code} {n : Nat} {s : St} {K : Ex → St → Option R} : rounds E H k0 LP live b (n + 1) s K = roundK E H k0 LP live b s fun e s2 => match e with
    | .normal => rounds E H k0 LP live b n s2 K
    | e => K e s2 := rfl
def LoopC.of (pat : SPat) (pre : pat.den → Bool) (alts : pat.den → List (Bool × Ex × St)) : LoopC := ⟨pat, fun x => (alts x).map fun y => (pre x && y.1, y.2)⟩
theorem pick_all {α : Type} {p : Bool} {v : α} : ∀ {l : List (Bool × α)}, pick (l.map fun y => (p && y.1, y.2)) = some v → p = true ∧ pick l = some v
  | [], h => by cases h
  | (c, u) :: l, h => by
    cases p with
    | false =>
      have := pick_all (l := l) h
      exact absurd this.1 (by simp)
    | true =>
      refine ⟨rfl, ?_⟩
      simp only [List.map, Bool.true_and] at h
      have e : (l.map fun y => (y.1, y.2)) = l := by simp
      rw [e] at h
      exact h
theorem loop_ok_of (hE : EnvOK P E) (hg : GlobOK P E) (hm : P.follows .mixedOrders = true) {b : Code} {tab : List (Nat × LoopC)} (hb : LoopsGood P H k0 (LPof (R := Ex × St) tab) b) (live : List Nat) {pat : SPat} {pre : pat.den → Bool} {alts : pat.den → List (Bool × Ex × St)} (hk : pat.keys = true)
    (h : ∀ x, pre x = true → pat.wf x → ∃ n, rounds E H k0 (LPof tab) live b n (pat.mk' x) (fun e s => some (e, s)) = pick (alts x)) : LoopOK P H k0 b (LoopC.of pat pre alts) :=
  loop_ok hE hg hm hb live hk fun x e s' hp hw => by
    obtain ⟨h1, h2⟩ := pick_all hp
    obtain ⟨n, hn⟩ := h x h1 hw
    exact ⟨n, hn.trans h2⟩
def firstFrom (p : Nat → Bool) : Nat → Nat → Option Nat
  | _, 0 => none
  | i, m + 1 => bif p i then some i else firstFrom p (i + 1) m
theorem search_rounds {LP : Loops R} {live : List Nat} {b : Code} {n : Nat} {p : Nat → Bool} {S T : Nat → St} {s2 : St} {e1 e2 : Ex} (he1 : e1 ≠ .normal) (he2 : e2 ≠ .normal)
    (h1 : ∀ i, i < n → ∀ K : Ex → St → Option R, roundK E H k0 LP live b (S i) K = bif p i then K e1 (T i) else K .normal (S (i + 1))) (h2 : ∀ K : Ex → St → Option R, roundK E H k0 LP live b (S n) K = K e2 s2) (K : Ex → St → Option R) :
    ∀ (m i : Nat), i + m = n → rounds E H k0 LP live b (m + 1) (S i) K = match firstFrom p i m with
      | some j => K e1 (T j)
      | none => K e2 s2
  | 0, i, h => by
    have : i = n := by omega
    subst this
    rw [rounds_succ', h2]
    cases e2 with
    | normal => exact absurd rfl he2
    | exit j => rfl
    | ret => rfl
  | m + 1, i, h => by
    rw [rounds_succ', h1 i (by omega)]
    simp only [firstFrom]
    cases p i with
    | true =>
      cases e1 with
      | normal => exact absurd rfl he1
      | exit j => rfl
      | ret => rfl
    | false => exact search_rounds he1 he2 h1 h2 K m (i + 1) (by omega)
theorem search_pick {n : Nat} {p : Nat → Bool} {T : Nat → St} {s2 : St} {e1 e2 : Ex} : (match firstFrom p 0 n with
      | some j => some (e1, T j)
      | none => some (e2, s2)) = pick [((firstFrom p 0 n).isSome, e1, T ((firstFrom p 0 n).getD 0)), (true, e2, s2)] := by
  cases firstFrom p 0 n <;> rfl
theorem firstFrom_any {α : Type} {q : α → Bool} {d : α} : ∀ (xs pre : List α), (firstFrom (fun i => q ((pre ++ xs).getD i d)) pre.length xs.length).isSome = xs.any q
  | [], pre => rfl
  | x :: xs, pre => by
    have ih := firstFrom_any (q := q) (d := d) xs (pre ++ [x])
    rw [List.append_assoc, List.length_append] at ih
    simp only [List.length_cons, firstFrom, List.any_cons]
    have e : (pre ++ x :: xs).getD pre.length d = x := by simp
    rw [e]
    cases q x with
    | true => rfl
    | false => exact ih
theorem firstFrom_spec {p : Nat → Bool} : ∀ {m i j : Nat}, firstFrom p i m = some j → i ≤ j ∧ j < i + m ∧ p j = true ∧ ∀ k, i ≤ k → k < j → p k = false
  | 0, i, j, h => by cases h
  | m + 1, i, j, h => by
    simp only [firstFrom] at h
    cases hp : p i with
    | true => rw [hp] at h; simp at h; subst h; exact ⟨Nat.le_refl _, by omega, hp, fun k h1 h2 => by omega⟩
    | false =>
      rw [hp] at h
      obtain ⟨h1, h2, h3, h4⟩ := firstFrom_spec h
      refine ⟨by omega, by omega, h3, fun k hk1 hk2 => ?_⟩
      rcases Nat.lt_or_ge i k with h' | h'
      · exact h4 k h' hk2
      · have : k = i := by omega
        rw [this]; exact hp
theorem firstFrom_none {p : Nat → Bool} : ∀ {m i : Nat}, firstFrom p i m = none → ∀ k, i ≤ k → k < i + m → p k = false
  | 0, i, h, k, h1, h2 => by omega
  | m + 1, i, h, k, h1, h2 => by
    simp only [firstFrom] at h
    cases hp : p i with
    | true => rw [hp] at h; cases h
    | false =>
      rw [hp] at h
      rcases Nat.lt_or_ge i k with h' | h'
      · exact firstFrom_none h k h' (by omega)
      · have : k = i := by omega
        rw [this]; exact hp
end
end Go.Sim
namespace Go.Sim
set_option linter.unusedSectionVars false
set_option linter.unusedSimpArgs false
set_option linter.unusedVariables false
def mapO {α β : Type} (f : α → Option β) : List α → Option (List β)
  | [] => some []
  | a :: r => (f a).bind fun b => (mapO f r).bind fun l => some (b :: l)
def objElems (e : Ty) (f : List AV → Option e.den) : AObj → Option (List e.den)
  | .arr sz t xs tail => cond (Nat.beq sz e.sz) ((frontE t e xs).bind fun a => (mapO f tail).bind fun b => some (a ++ b)) none
  | .log t xs => frontE t e xs
  | _ => none
def bdec (get : Nat → AObj) : (t : Ty) → List AV → Option t.den
  | .bool, [.bool b] => some b
  | .int k, [.int k' n] => if k = k' then some n else none
  | .str, [.str s] => some s
  | .sl e, [v] => match v with
    | .hw l => objElems e (bdec get e) (get l)
    | .hs l o n => (objElems e (bdec get e) (get l)).bind fun xs => some ((xs.drop o).take n)
    | .hc l o n _ => (objElems e (bdec get e) (get l)).bind fun xs => some ((xs.drop o).take n)
    | v => asVl e v
  | .pair a b, cs => (bdec get a (cs.take a.sz)).bind fun x => (bdec get b (cs.drop a.sz)).bind fun y => some (x, y)
  | _, _ => none
def bview (get : Nat → AObj) (t : Ty) (v : AV) : Option t.den := cond (aggOk v t.sz) (bdec get t v.cells) none
def bviews (get : Nat → AObj) : (ps : List InP) → List AV → Option (insDen ps)
  | [], [] => some ()
  | .ty t :: r, v :: vs => (bview get t v).bind fun x => (bviews get r vs).bind fun y => some (x, y)
  | _, _ => none
def scalT : Ty → Bool
  | .bool => true
  | .int _ => true
  | .str => true
  | .sl _ => false
  | .pair a b => scalT a && scalT b
  | .raw => false
def brwOf (c : PCase) (args : List AV) (objs : List AObj) : List (Bool × AV × List AObj) :=
  match bviews (fun l => (objs[l]?).getD .dead) c.ins args with
  | some x => mapAlt (fun y => (oneOr (valsOf c.outs y), objs)) (c.f x)
  | none => []
section
variable {P : Program} [Tabs P] {own : Own P} {φ : Nat → Nat} {β : Beta} {w : World}
def phiB (φ : Nat → Nat) (w : World) : Nat → Nat := fun b => max (φ b) (phi0 w b)
theorem phiB_keeps : Keeps φ w (phiB φ w) w := ⟨fun b => Nat.le_max_left _ _, fun _ _ _ _ h => h, fun _ _ h => h, rfl, rfl⟩
theorem phiB_fresh (h : ∀ b, w.heap.size ≤ b → φ b = 0) : ∀ b, w.heap.size ≤ b → phiB φ w b = 0 := fun b hb => by
  unfold phiB phi0
  rw [h b hb, Array.getElem?_eq_none hb]
  rfl
theorem row_of_cells {b o : Nat} {ds : List Value} (h : CellsAt w b o ds) : RowAt (phiB φ w) w b o ds := fun i v hv => by
  have h1 := h i v hv
  refine ⟨h1, Nat.lt_of_lt_of_le (cell_phi0 h1).2.1 (Nat.le_max_right _ _)⟩
theorem frontE_len {t e : Ty} {xs : List t.den} {a : List e.den} (h : frontE t e xs = some a) : a.length = xs.length := by
  unfold frontE at h
  split at h
  · rename_i ht
    subst ht
    simp at h
    subst h; rfl
  · cases xs with
    | nil => simp at h; subst h; rfl
    | cons x xs => cases h
theorem frontE_at {t e : Ty} {xs : List t.den} {a : List e.den} (h : frontE t e xs = some a) {i : Nat} {x : e.den} (hx : a[i]? = some x) : ∃ ht : t = e, xs[i]? = some (ht ▸ x) := by
  unfold frontE at h
  split at h
  · rename_i ht
    subst ht
    simp at h
    subst h
    exact ⟨rfl, hx⟩
  · cases xs with
    | nil => simp at h; subst h; simp at hx
    | cons x xs => cases h
theorem mapO_len {α γ : Type} {f : α → Option γ} : ∀ {l : List α} {r : List γ}, mapO f l = some r → r.length = l.length
  | [], r, h => by simp [mapO] at h; subst h; rfl
  | a :: l, r, h => by
    simp only [mapO] at h
    obtain ⟨b, h1, h⟩ := bind_some h
    obtain ⟨s, h2, h⟩ := bind_some h
    simp at h; subst h
    simp [mapO_len h2]
theorem mapO_at {α γ : Type} {f : α → Option γ} : ∀ {l : List α} {r : List γ}, mapO f l = some r → ∀ {i : Nat} {x : γ}, r[i]? = some x → ∃ a, l[i]? = some a ∧ f a = some x
  | [], r, h, i, x, hx => by simp [mapO] at h; subst h; simp at hx
  | a :: l, r, h, i, x, hx => by
    simp only [mapO] at h
    obtain ⟨b, h1, h⟩ := bind_some h
    obtain ⟨s, h2, h⟩ := bind_some h
    simp at h; subst h
    cases i with
    | zero => simp at hx; subst hx; exact ⟨a, rfl, h1⟩
    | succ i => simpa using mapO_at h2 (i := i) (x := x) (by simpa using hx)
theorem objElems_sound {e : Ty} {f : List AV → Option e.den} {l : Nat} {ob : AObj} {out : List e.den} (h : objElems e f ob = some out) (hrel : ObjRel φ β w l ob)
    (hf : ∀ cs x vs, f cs = some x → VL φ β w cs vs → Vt (phiB φ w) w e x vs) : match β l with
    | none => False
    | some none => out = []
    | some (some p) => (out ≠ [] → p.sz = e.sz) ∧ p.len = out.length ∧ p.len ≤ maxL ∧ ∀ i x, out[i]? = some x → ∃ ds, Vt (phiB φ w) w e x ds ∧ CellsAt w p.block (p.off + i * e.sz) ds := by
  cases ob with
  | arr sz t xs tail =>
    simp only [objElems] at h
    obtain ⟨hsz, h⟩ := cond_none h
    obtain ⟨a, h1, h⟩ := bind_some h
    obtain ⟨b, h2, h⟩ := bind_some h
    simp at h
    subst h
    have hsz : sz = e.sz := Nat.eq_of_beq_eq_true hsz
    have hla := frontE_len h1
    have hlb := mapO_len h2
    rcases hb : β l with _ | (_ | p)
    · simp only [ObjRel, hb] at hrel
    · simp only [ObjRel, hb] at hrel
      obtain ⟨rfl, rfl⟩ := hrel
      simp at hla hlb
      simp [hla, hlb]
    · simp only [ObjRel, hb] at hrel
      obtain ⟨g1, g2, g3, g4, g5, g6, g7, g8, g9, g10⟩ := hrel
      refine ⟨fun _ => g1.trans hsz, by rw [List.length_append, hla, hlb]; exact g3, g4, fun i x hx => ?_⟩
      by_cases hi : i < a.length
      · rw [List.getElem?_append_left hi] at hx
        obtain ⟨ht, hx'⟩ := frontE_at h1 hx
        subst ht
        obtain ⟨ds, d1, d2⟩ := g9 i x hx'
        exact ⟨ds, Vt.keep phiB_keeps _ _ _ d1, by rw [← hsz]; exact d2⟩
      · rw [List.getElem?_append_right (by omega)] at hx
        obtain ⟨c, hc, hfc⟩ := mapO_at h2 hx
        obtain ⟨_, ds, d1, d2⟩ := g10 _ c hc
        refine ⟨ds, hf _ _ _ hfc d1, ?_⟩
        rw [← hsz]
        have : xs.length + (i - a.length) = i := by omega
        rwa [this] at d2
  | log t xs =>
    simp only [objElems] at h
    have hla := frontE_len h
    rcases hb : β l with _ | (_ | p)
    · simp only [ObjRel, hb] at hrel
    · simp only [ObjRel, hb] at hrel
      subst hrel
      simp at hla
      exact hla
    · simp only [ObjRel, hb] at hrel
      obtain ⟨g1, g3, g4, g6, g7, g8, g9⟩ := hrel
      refine ⟨fun hne => ?_, by rw [hla]; exact g3, g4, fun i x hx => ?_⟩
      · obtain ⟨x, hx⟩ : ∃ x, out[0]? = some x := by
          cases out with
          | nil => exact absurd rfl hne
          | cons x r => exact ⟨x, rfl⟩
        obtain ⟨ht, _⟩ := frontE_at h hx
        rw [g1, ht]
      · obtain ⟨ht, hx'⟩ := frontE_at h hx
        subst ht
        obtain ⟨ds, d1, d2⟩ := g9 i x hx'
        exact ⟨ds, Vt.keep phiB_keeps _ _ _ d1, d2⟩
  | _ => cases h
theorem bdec_sound {get : Nat → AObj} (hW : ∀ l, ObjRel φ β w l (get l)) : ∀ (t : Ty) (cs : List AV) (x : t.den) (vs : List Value), bdec get t cs = some x → VL φ β w cs vs → Vt (phiB φ w) w t x vs := by
  intro t
  induction t with
  | bool =>
    intro cs x vs hd hv
    match cs, hd with
    | [.bool b], hd =>
      simp [bdec] at hd
      subst hd
      simp only [VL, V] at hv
      obtain ⟨u, us, rfl, rfl, rfl⟩ := hv
      simp [Vt]
  | int k =>
    intro cs x vs hd hv
    match cs, hd with
    | [.int k' b], hd =>
      simp [bdec] at hd
      obtain ⟨rfl, rfl⟩ := hd
      simp only [VL, V] at hv
      obtain ⟨u, us, rfl, ⟨rfl, h2⟩, rfl⟩ := hv
      exact ⟨rfl, h2⟩
  | str =>
    intro cs x vs hd hv
    match cs, hd with
    | [.str b], hd =>
      simp [bdec] at hd
      subst hd
      simp only [VL, V] at hv
      obtain ⟨u, us, rfl, ⟨rfl, h2⟩, rfl⟩ := hv
      exact ⟨rfl, h2⟩
  | sl e ih =>
    intro cs x vs hd hv
    match cs, hd with
    | [c], hd =>
      simp only [VL] at hv
      obtain ⟨u, us, rfl, hu, rfl⟩ := hv
      have easy : asVl e c = some x → Vt (phiB φ w) w (.sl e) x [u] := fun h => Vt.keep phiB_keeps _ _ _ (asVl_sound h hu)
      have part : ∀ (l o n : Nat), (objElems e (bdec get e) (get l)).bind (fun xs => some ((xs.drop o).take n)) = some x → (n ≤ maxL ∧ match β l with
          | some (some p) => ∃ A cap, u = .slice A n cap ∧ n ≤ cap ∧ o + n ≤ p.len ∧ (cap ≠ 0 → A = some ⟨p.block, p.off + o * p.sz, none⟩)
          | some none => n = 0 ∧ ∃ A, u = .slice A 0 0
          | none => False) → Vt (phiB φ w) w (.sl e) x [u] := fun l o n hd ⟨hn, hu⟩ => by
        obtain ⟨xs, h1, hd⟩ := bind_some hd
        simp at hd
        subst hd
        have hel := objElems_sound h1 (hW l) ih
        rcases hb : β l with _ | (_ | p)
        · rw [hb] at hel; exact hel.elim
        · rw [hb] at hel hu
          obtain ⟨rfl, A, rfl⟩ := hu
          simp only at hel
          subst hel
          simpa using Vt.nilSl e A
        · rw [hb] at hel hu
          obtain ⟨A, cap, rfl, hcap, hon, hA⟩ := hu
          obtain ⟨g1, g2, g3, g4⟩ := hel
          have hlen : ((xs.drop o).take n).length = n := by simp; omega
          show _ ∧ _
          rw [hlen]
          refine ⟨hn, A, cap, rfl, hcap, fun i x hx => ?_⟩
          have hi : i < n := by have := (List.getElem?_eq_some_iff.1 hx).1; omega
          rw [List.getElem?_take_of_lt hi, List.getElem?_drop] at hx
          obtain ⟨ds, d1, d2⟩ := g4 _ x hx
          have hne : xs ≠ [] := fun h => by subst h; simp at hx
          have hps := g1 hne
          refine ⟨_, ds, hA (by omega), rfl, d1, ?_⟩
          have e1 : p.off + o * p.sz + i * e.sz = p.off + (o + i) * e.sz := by rw [hps, Nat.add_mul, Nat.add_assoc]
          show RowAt _ _ p.block (p.off + o * p.sz + i * e.sz) ds
          rw [e1]
          exact row_of_cells d2
      cases c with
      | hw l =>
        simp only [bdec] at hd
        have hel := objElems_sound hd (hW l) ih
        rcases hb : β l with _ | (_ | p)
        · rw [hb] at hel; exact hel.elim
        · rw [hb] at hel
          simp only [V, hb] at hu
          obtain ⟨A, rfl⟩ := hu
          simp only at hel
          subst hel
          exact Vt.nilSl e A
        · rw [hb] at hel
          simp only [V, hb] at hu
          obtain ⟨cap, rfl, hcap, _, _⟩ := hu
          obtain ⟨g1, g2, g3, g4⟩ := hel
          show _ ∧ _
          rw [← g2]
          refine ⟨g3, _, cap, rfl, hcap, fun i x hx => ?_⟩
          obtain ⟨ds, d1, d2⟩ := g4 i x hx
          exact ⟨_, ds, rfl, rfl, d1, row_of_cells d2⟩
      | hs l o n =>
        refine part l o n hd ?_
        simp only [V] at hu
        refine ⟨hu.1, ?_⟩
        rcases hb : β l with _ | (_ | p)
        · rw [hb] at hu; exact hu.2
        · rw [hb] at hu; exact hu.2
        · rw [hb] at hu
          obtain ⟨_, A, cap, h1, h2, h3, h4, h5⟩ := hu
          exact ⟨A, cap, h1, h2, h4, fun h => (h5 h).1⟩
      | hc l o n c =>
        refine part l o n hd ?_
        simp only [V] at hu
        obtain ⟨h1, h2, hu⟩ := hu
        refine ⟨Nat.le_trans h1 h2, ?_⟩
        rcases hb : β l with _ | (_ | p)
        · rw [hb] at hu; exact hu
        · rw [hb] at hu
          obtain ⟨k1, _, k3⟩ := hu
          exact ⟨k1, by
            obtain ⟨A, rfl⟩ := k3
            rename_i k2
            subst k1; subst k2
            exact ⟨A, rfl⟩⟩
        · rw [hb] at hu
          obtain ⟨A, g1, g2, g3⟩ := hu
          exact ⟨A, c, g1, h1, g2, fun h => (g3 h).1⟩
      | _ => exact easy hd
  | raw => intro cs x vs hd hv; simp [bdec] at hd
  | pair a b iha ihb =>
    intro cs x vs hd hv
    simp only [bdec] at hd
    obtain ⟨x1, h1, hd⟩ := Option.bind_eq_some_iff.1 hd
    obtain ⟨x2, h2, hd⟩ := Option.bind_eq_some_iff.1 hd
    simp at hd
    subst hd
    exact ⟨vs.take a.sz, vs.drop a.sz, by simp, iha _ _ _ h1 (hv.take _), ihb _ _ _ h2 (hv.drop _)⟩
theorem bdec_nil {get : Nat → AObj} : ∀ t : Ty, bdec get t [] = none := by
  intro t
  induction t with
  | pair a b iha ihb => simp [bdec, iha]
  | _ => rfl
theorem shape_of {c : AV} {u : Value} (h : V φ β w c u) (hne : c ≠ .undef) {vt : Ty} (hlen : u.cells.toList.length = vt.sz) (hc : aggOk c vt.sz = true) : (vt.sz = 1 → u.cells = #[u]) ∧ (1 < vt.sz → u = .agg u.cells) := by
  by_cases ha : ∃ cs, c = .agg cs
  · obtain ⟨cs, rfl⟩ := ha
    simp only [V] at h
    obtain ⟨vs, rfl, _⟩ := h
    have : 1 < vt.sz := by simpa [aggOk, Nat.blt_eq] using hc
    exact ⟨fun e => by omega, fun _ => rfl⟩
  · have hone : u.cells = #[u] := by
      by_cases hu : ∃ vs, u = .agg vs
      · obtain ⟨vs, rfl⟩ := hu
        exfalso
        have key : ∀ c : AV, (∀ cs, c ≠ .agg cs) → c ≠ .undef → ¬ V φ β w c (.agg vs) := by
          intro c hca hcu hV
          cases c with
          | agg cs => exact hca _ rfl
          | undef => exact hcu rfl
          | hw l => rcases hb : β l with _ | (_ | p) <;> simp [V, hb] at hV
          | hs l a n => rcases hb : β l with _ | (_ | p) <;> simp [V, hb] at hV
          | hc l a n c => rcases hb : β l with _ | (_ | p) <;> simp [V, hb] at hV
          | vl t xs => simp only [V, Vt] at hV; obtain ⟨_, A, cap, he, _⟩ := hV; simp at he
          | rv x => simp only [V] at hV; rw [← hV.1] at hV; simp [Value.oneCell'] at hV
          | _ => simp [V] at hV
        exact key c (fun cs e => ha ⟨cs, e⟩) hne h
      · cases u <;> first | rfl | exact absurd ⟨_, rfl⟩ hu
    rw [hone] at hlen
    simp at hlen
    exact ⟨fun _ => hone, fun e => by omega⟩
theorem bview_V {get : Nat → AObj} (hW : ∀ l, ObjRel φ β w l (get l)) {t : Ty} {v : AV} {x : t.den} (h : bview get t v = some x) {u : Value} (hV : V φ β w v u) : V (phiB φ w) β w (valOf t x) u := by
  unfold bview at h
  obtain ⟨h1, h2⟩ := cond_none h
  have hne : v ≠ .undef := fun e => by subst e; simp only [AV.cells] at h2; rw [bdec_nil] at h2; cases h2
  have g1 := bdec_sound hW t _ _ _ h2 (V_cells hV hne)
  obtain ⟨g2, g3⟩ := shape_of hV hne (Vt.length _ _ _ g1) h1
  refine val_whole g1 g2 g3 ?_
  have hl := enc_length t x
  unfold valOf
  cases hb : Nat.blt 1 t.sz with
  | true =>
    have : 1 < t.sz := by simpa [Nat.blt_eq] using hb
    simp only [whole, cond_true]
    match he : enc t x with
    | [] => rfl
    | [c] => rw [he] at hl; simp at hl; omega
    | c :: d :: r => rfl
  | false =>
    have hnl : ¬ 1 < t.sz := by
      intro hh
      have : Nat.blt 1 t.sz = true := by simpa [Nat.blt_eq] using hh
      rw [hb] at this; cases this
    have hpos := sz_pos t
    match he : enc t x with
    | [] => rw [he] at hl; simp at hl; omega
    | [c] => simp [whole]
    | c :: d :: r => rw [he] at hl; simp at hl; omega
theorem bviews_V {get : Nat → AObj} (hW : ∀ l, ObjRel φ β w l (get l)) : ∀ {ps : List InP} {vs : List AV} {x : insDen ps}, bviews get ps vs = some x → ∀ {us : List Value}, VL φ β w vs us → VL (phiB φ w) β w (insMk ps x) us
  | [], [], x, h, us, hV => hV
  | [], _ :: _, x, h, us, hV => by cases h
  | .ty t :: r, [], x, h, us, hV => by cases h
  | .fn _ _ :: r, _, x, h, us, hV => by cases h
  | .ty t :: r, v :: vs, x, h, us, hV => by
    simp only [bviews] at h
    obtain ⟨a, h1, h⟩ := bind_some h
    obtain ⟨b, h2, h⟩ := bind_some h
    simp at h
    subst h
    simp only [VL] at hV
    obtain ⟨u, us', rfl, k1, k2⟩ := hV
    exact .cons (bview_V hW h1 k1) (bviews_V hW h2 k2)
def flatA : AV → Bool
  | .bool _ => true
  | .int _ _ => true
  | .str _ => true
  | _ => false
theorem enc_flat : ∀ (t : Ty) (x : t.den), scalT t = true → ∀ c ∈ enc t x, flatA c = true
  | .bool, x, _, c, hc => by simp [enc] at hc; subst hc; rfl
  | .int k, x, _, c, hc => by simp [enc] at hc; subst hc; rfl
  | .str, x, _, c, hc => by simp [enc] at hc; subst hc; rfl
  | .sl _, x, h, c, hc => by cases h
  | .raw, x, h, c, hc => by cases h
  | .pair a b, x, h, c, hc => by
    simp only [scalT, Bool.and_eq_true] at h
    simp only [enc, List.mem_append] at hc
    rcases hc with hc | hc
    · exact enc_flat a _ h.1 c hc
    · exact enc_flat b _ h.2 c hc
theorem V_flat {φ2 : Nat → Nat} {β2 : Beta} {w2 : World} {c : AV} {u : Value} (hc : flatA c = true) (h : V φ β w c u) : V φ2 β2 w2 c u := by
  cases c with
  | bool b => exact h
  | int k n => exact h
  | str s => exact h
  | _ => cases hc
theorem VL_flat {φ2 : Nat → Nat} {β2 : Beta} {w2 : World} : ∀ {cs : List AV} {us : List Value}, (∀ c ∈ cs, flatA c = true) → VL φ β w cs us → VL φ2 β2 w2 cs us
  | [], us, _, h => h
  | c :: cs, us, hc, h => by
    simp only [VL] at h ⊢
    obtain ⟨u, us', rfl, h1, h2⟩ := h
    exact ⟨u, us', rfl, V_flat (hc c (by simp)) h1, VL_flat (fun d hd => hc d (List.mem_cons_of_mem _ hd)) h2⟩
theorem valOf_flat {φ2 : Nat → Nat} {β2 : Beta} {w2 : World} {t : Ty} {x : t.den} {u : Value} (ht : scalT t = true) (h : V φ β w (valOf t x) u) : V φ2 β2 w2 (valOf t x) u := by
  have hf := enc_flat t x ht
  unfold valOf at h ⊢
  split at h
  · rename_i c hc
    rw [hc] at hf
    exact V_flat (hf c (by simp)) h
  · simp only [V] at h ⊢
    obtain ⟨vs, rfl, h⟩ := h
    exact ⟨vs, rfl, VL_flat hf h⟩
theorem valsOf_flat {φ2 : Nat → Nat} {β2 : Beta} {w2 : World} : ∀ {ts : List Ty} {x : tysDen ts} {us : List Value}, ts.all scalT = true → VL φ β w (valsOf ts x) us → VL φ2 β2 w2 (valsOf ts x) us
  | [], _, us, _, h => h
  | t :: r, x, us, ht, h => by
    simp only [List.all_cons, Bool.and_eq_true] at ht
    simp only [valsOf, VL] at h ⊢
    obtain ⟨u, us', rfl, h1, h2⟩ := h
    exact ⟨u, us', rfl, valOf_flat ht.1 h1, valsOf_flat ht.2 h2⟩
theorem oneOr_flat {φ2 : Nat → Nat} {β2 : Beta} {w2 : World} {ts : List Ty} {x : tysDen ts} {u : Value} (ht : ts.all scalT = true) (h : V φ β w (oneOr (valsOf ts x)) u) : V φ2 β2 w2 (oneOr (valsOf ts x)) u := by
  cases ts with
  | nil =>
    simp only [valsOf, oneOr, V] at h ⊢
    obtain ⟨vs, rfl, h2⟩ := h
    exact ⟨vs, rfl, h2⟩
  | cons t r =>
    cases r with
    | nil =>
      simp only [List.all_cons, List.all_nil, Bool.and_true] at ht
      exact valOf_flat ht h
    | cons t2 r =>
      simp only [valsOf, oneOr, V] at h ⊢
      obtain ⟨vs, rfl, h2⟩ := h
      exact ⟨vs, rfl, valsOf_flat (ts := t :: t2 :: r) (x := x) ht h2⟩
theorem brw_holds {n : FuncId} {c : PCase} (h : c.ok P n) (hs : c.outs.all scalT = true) (hcal : Called P n) : HoldsC P n (.eff (brwOf c)) := by
  refine ⟨fun args objs r objs' hp _ => ?_, hcal⟩
  unfold brwOf at hp
  split at hp
  · rename_i x hx
    obtain ⟨y, hy, he⟩ := pick_mapAlt hp
    simp at he
    obtain ⟨rfl, he2⟩ := he
    subst he2
    intro own φ β w vs hV hW hβ
    have hV' := bviews_V hW.rel hx hV
    obtain ⟨objs2, hG⟩ := h x y hy (insMk_wf hV')
    have hfr := phiB_fresh fun b hb => (hW.fresh b hb).2
    refine (hG.pure (insMk_closed _ _) (oneOr_closed (valsOf_closed _ _)) (phiB φ w) β w vs hV' hfr (hW.laid.keep phiB_keeps)).mono fun e w' ⟨v, φ', he, hk, hg, hold, hfr', hVr⟩ => ?_
    have hk2 : Keeps φ w (fun b => if b < w.heap.size then φ b else φ' b) w' := by
      refine ⟨fun b => ?_, fun b o v ho hv => ?_, hk.room, hk.out⟩
      · by_cases hb : b < w.heap.size
        · simp [hb]
        · rw [(hW.fresh b (by omega)).2]; exact Nat.zero_le _
      · exact hk.cell b o v (Nat.lt_of_lt_of_le ho (Nat.le_max_left _ _)) hv
    have hold2 : ∀ b, b < w.heap.size → w'.heap[b]? = w.heap[b]? ∧ (if b < w.heap.size then φ b else φ' b) = φ b := fun b hb => ⟨(hold b hb).1, by simp [hb]⟩
    refine ⟨v, fun b => if b < w.heap.size then φ b else φ' b, β, he, ⟨hk2, fun _ _ => rfl, hg, fun b hb _ => hold2 b hb⟩, oneOr_flat hs hVr, ⟨fun m => ?_, fun m p hm hp => ?_, hW.dist, fun b hb => ⟨(hW.fresh b (by omega)).1, ?_⟩, hW.laid.keep hk2⟩, hβ⟩
    · by_cases hd : (objs'[m]?).getD .dead = .dead
      · rw [hd]; trivial
      · exact (hW.rel m).keep hk2 (.refl _) (fun p hp => hold2 _ (hW.mine m p hd hp).2)
    · have := hW.mine m p hm hp
      exact ⟨this.1, by omega⟩
    · have : ¬ b < w.heap.size := by omega
      simp only [this, if_false]
      exact hfr' b hb
  · cases hp
end
end Go.Sim
namespace Go.Sim
set_option linter.unusedSectionVars false
set_option linter.unusedSimpArgs false
set_option linter.unusedVariables false
def finM (k0 n : Nat) (v : AV) (s : St) : Option (AV × List AObj) :=
  (fun ls => cond (nodupB ls) (some (v.ren (idx ls 0), ls.map fun l => (getO s.objs l).ren (idx ls 0))) none)
    (List.range k0 ++ ((List.range (n - k0)).map (fun i => s.nx + i) ++ (reach (getO s.objs) reachFuel (locsK (getO s.objs) k0 ++ v.locs) (List.range k0)).drop k0))
def finVM (out : Pat) (outs : List OPat) (k0 n : Nat) (v : AV) (s : St) : Option (out.den × opatsDen outs) := (finM k0 n v s).bind fun r => (out.view r.1).bind fun a => (opatsView outs r.2).bind fun b => some (a, b)
def evFnM {R : Type} (k0 : Nat) (E : Env) (H : Hint) (LP : Loops R) (fn : Func) (args : List AV) (objs : List AObj) (K : AV → St → Option R) : Option R :=
  match fn.body with
  | none => none
  | some c => ev E H k0 LP c (initSt args objs) fun e s => match e with
    | .exit _ => none
    | _ => (resultsOf E s fn.results.toList).bind fun vs => K (oneOr vs) s
section
variable {P : Program} [Tabs P] {own : Own P} {φ φ' : Nat → Nat} {β β' : Beta} {w w' : World} {E : Env} {H : Hint} {R : Type}
theorem evFn_coreM (hE : EnvOK P E) (hg : GlobOK P E) (hm : P.follows .mixedOrders = true) {n : FuncId} {fn : Func} (hf : P.funcs[n]? = some fn) {args : List AV} {objs : List AObj} (hok : fnOk H fn args.length = true) {c : Code} (hb : fn.body = some c)
    {k0 : Nat} (hk0 : k0 ≤ objs.length) {LP : Loops R} (hL : LoopsGood P H k0 LP c) {K : AV → St → Option R} {r : R} (h : evFnM k0 E H LP fn args objs K = some r) : ∃ v s', K v s' = some r ∧
    ∀ (own : Own P) φ β w vs, VL φ β w args vs → WInv own φ β (fun l => (objs[l]?).getD .dead) w → (∀ l, objs.length ≤ l → β l = none) →
      Calls P n vs.toArray w fun e w' => ∃ u φ' β', e = .returned u ∧ Run k0 own φ β w φ' β' w' ∧ V φ' β' w' v u ∧ WInv own φ' β' (getO s'.objs) w' ∧ (∀ l, s'.nx ≤ l → β' l = none) := by
  unfold fnOk at hok
  simp only [Bool.and_eq_true] at hok
  obtain ⟨hnt, hle⟩ := hok
  have hnt := Nat.eq_of_beq_eq_true hnt
  have hle := Nat.le_of_ble_eq_true hle
  unfold evFnM at h
  rw [hb] at h
  simp only at h
  obtain ⟨e, s', h, hC⟩ := ev_sound hE hg hm c hL _ _ _ h
  have key : ∃ vs, resultsOf E s' fn.results.toList = some vs ∧ K (oneOr vs) s' = some r ∧ (e.out = .normal ∨ e.out = .ret) := by
    cases e with
    | exit i => cases h
    | normal => obtain ⟨vs, h1, h2⟩ := bind_some h; exact ⟨vs, h1, h2, .inl rfl⟩
    | ret => obtain ⟨vs, h1, h2⟩ := bind_some h; exact ⟨vs, h1, h2, .inr rfl⟩
  obtain ⟨avs, hres, hfin, he⟩ := key
  refine ⟨oneOr avs, s', hfin, fun own φ β w vs hV hW htop => ?_⟩
  have hvl := hV.length
  refine calls_of_wp hf hb ?_
  have hrel : Rel H k0 own φ β (initSt args objs) { tmps := vs.toArray ++ Array.replicate (fn.ntmps - vs.toArray.size) undef, defers := [] } w := by
    refine ⟨?_, rfl, fun x => ?_, ?_, fun l hl => ⟨?_, htop l hl⟩, hk0⟩
    · simp only [Array.size_append, List.size_toArray, Array.size_replicate]; omega
    · unfold slotAt initSt
      rw [lk_numbered]
      simp only [Nat.zero_le, if_true, Nat.sub_zero]
      cases ha : args[x]? with
      | none => simp [V]
      | some v =>
        obtain ⟨u, hu, hVu⟩ := hV.get ha
        simp only [Option.getD_some]
        have : (Act.eval { tmps := vs.toArray ++ Array.replicate (fn.ntmps - vs.toArray.size) undef, defers := [] } (.tmp x)) = u := by
          have hlt := (List.getElem?_eq_some_iff.1 hu).1
          simp only [Act.eval, Array.getD_eq_getD_getElem?]
          rw [Array.getElem?_append_left (by simpa using hlt)]
          simp [hu]
        rw [this]; exact hVu
    · have : getO (initSt args objs).objs = fun l => (objs[l]?).getD .dead := funext fun l => getO_numbered objs l
      rw [this]; exact hW
    · unfold initSt
      rw [getO_numbered]
      have : objs[l]? = none := by simpa [initSt] using hl
      rw [this]; rfl
  refine hC own φ β _ w hrel _ fun φ' β' a' w' hr hrun => ?_
  obtain ⟨us, g1, g2⟩ := results_sound hE hr _ _ hres
  have hrunR : (results fn a'.tmps).run P w' = .ok (if h : us.toArray.size = 1 then us.toArray[0] else .tuple us.toArray) w' := by
    rw [results_eq, Array.mapM_eq_mapM_toList]
    simp [g1]
  have hpost : a'.defers = [] ∧ ∃ v, (results fn a'.tmps).run P w' = .ok v w' ∧ ∃ u φ2 β2, Ending.returned v = .returned u ∧ Run k0 own φ β w φ2 β2 w' ∧ V φ2 β2 w' (oneOr avs) u ∧
      WInv own φ2 β2 (getO s'.objs) w' ∧ ∀ l, s'.nx ≤ l → β2 l = none :=
    ⟨hr.defers, _, hrunR, _, φ', β', rfl, hrun, oneOr_sound g2, hr.inv, fun l hl => (hr.top l hl).2⟩
  rcases he with he | he <;> rw [he] <;> exact hpost
theorem dead_none {l : Nat} {ob : AObj} (h : ObjRel φ β w l ob) (hb : β l = none) : ob = .dead := by
  cases ob with
  | dead => rfl
  | arr sz t xs tail => simp only [ObjRel, hb] at h
  | log t xs => simp only [ObjRel, hb] at h
  | map kt vt es => simp only [ObjRel] at h; obtain ⟨_, p, _, _, h, _⟩ := h; rw [hb] at h; cases h
  | siter s pos => simp only [ObjRel] at h; obtain ⟨_, p, h, _⟩ := h; rw [hb] at h; cases h
theorem finM_sound {k0 : Nat} {n : FuncId} {args : List AV} {objs objs' : List AObj} (hk0 : k0 ≤ objs.length) {v r : AV} {s' : St} (hfin : finM k0 objs.length v s' = some (r, objs'))
    (hC : ∀ (own : Own P) φ β w vs, VL φ β w args vs → WInv own φ β (fun l => (objs[l]?).getD .dead) w → (∀ l, objs.length ≤ l → β l = none) →
      Calls P n vs.toArray w fun e w' => ∃ u φ' β', e = .returned u ∧ Run k0 own φ β w φ' β' w' ∧ V φ' β' w' v u ∧ WInv own φ' β' (getO s'.objs) w' ∧ (∀ l, s'.nx ≤ l → β' l = none)) : EffGood P n args objs r objs' := by
  unfold finM at hfin
  obtain ⟨hc, hfin⟩ := cond_none hfin
  generalize (reach (getO s'.objs) reachFuel (locsK (getO s'.objs) k0 ++ v.locs) (List.range k0)).drop k0 = rest at hc hfin
  obtain ⟨ls, hls⟩ : ∃ ls, ls = List.range k0 ++ ((List.range (objs.length - k0)).map (fun i => s'.nx + i) ++ rest) := ⟨_, rfl⟩
  rw [← hls] at hc hfin
  simp only [Option.some.injEq, Prod.mk.injEq] at hfin
  obtain ⟨rfl, rfl⟩ := hfin
  have hlo : ∀ l, l < k0 → ls[l]? = some l := fun l hl => by
    rw [hls, List.getElem?_append_left (by simpa using hl), List.getElem?_range hl]
  have hmid : ∀ l, k0 ≤ l → l < objs.length → ls[l]? = some (s'.nx + (l - k0)) := fun l h1 h2 => by
    rw [hls, List.getElem?_append_right (by simpa using h1), List.length_range, List.getElem?_append_left (by simp; omega), List.getElem?_map, List.getElem?_range (by omega)]
    rfl
  have hlen : objs.length ≤ ls.length := by rw [hls]; simp; omega
  intro own φ β w vs hV hW htop
  refine (hC own φ β w vs hV hW htop).mono fun e w' ⟨u, φ', β', he, hrun, hVu, hWI, ht⟩ => ?_
  have hW1 := hWI.sub hc
  have hmn : ∀ l, k0 ≤ l → l < objs.length → subB ls β' l = none := fun l h1 h2 => by
    unfold subB
    rw [hmid l h1 h2]
    exact ht _ (by omega)
  obtain ⟨β2, hβ2⟩ : ∃ β2 : Beta, β2 = fun l => if k0 ≤ l ∧ l < objs.length then β l else subB ls β' l := ⟨_, rfl⟩
  have hb1 : ∀ l, ¬ (k0 ≤ l ∧ l < objs.length) → β2 l = subB ls β' l := fun l h => by rw [hβ2]; simp only [h, if_false]
  have hb2 : ∀ l, k0 ≤ l → l < objs.length → β2 l = β l := fun l h1 h2 => by rw [hβ2]; simp only [h1, h2, and_self, if_true]
  have hext : Ext (subB ls β') β2 := fun l x hx => by
    by_cases h : k0 ≤ l ∧ l < objs.length
    · rw [hmn l h.1 h.2] at hx; cases hx
    · rw [hb1 l h]; exact hx
  have e2 : (fun l => ((ls.map fun l => (getO s'.objs l).ren (idx ls 0))[l]?).getD .dead) = getO (numbered 0 (ls.map fun l => (getO s'.objs l).ren (idx ls 0))) := funext fun l => (getO_numbered _ l).symm
  have hsame : ∀ l, getO (numbered 0 (ls.map fun l => (getO s'.objs l).ren (idx ls 0))) l ≠ .dead → β2 l = subB ls β' l := fun l hl => by
    by_cases h : k0 ≤ l ∧ l < objs.length
    · exact absurd (dead_none (hW1.rel l) (hmn l h.1 h.2)) hl
    · exact hb1 l h
  refine ⟨u, φ', β2, he, ⟨hrun.keeps, fun l hl => ?_, hrun.grow, hrun.old⟩, V.keep (.refl _ _) hext _ _ (V.ren subB_idx _ _ hVu), ?_, fun l hl => ?_⟩
  · by_cases h : k0 ≤ l
    · exact hb2 l h hl
    · rw [hb1 l (fun h' => h h'.1), ← hrun.agree l (by omega)]
      simp [subB, hlo l (by omega)]
  · rw [e2]
    refine ⟨fun m => (hW1.rel m).keep (.refl _ _) hext (fun _ _ => ⟨rfl, rfl⟩), fun m p hm hp => hW1.mine m p hm (by rw [← hsame m hm]; exact hp), fun m m' p q hne h1 h2 h3 h4 => hW1.dist m m' p q hne h1 h2 (by rw [← hsame m h1]; exact h3) (by rw [← hsame m' h2]; exact h4), hW1.fresh, hW1.laid⟩
  · have hl : ls.length ≤ l := by simpa using hl
    rw [hb1 l (fun h => by omega)]
    have : ls[l]? = none := by simpa using hl
    simp [subB, this]
theorem vcase_okM (hE : EnvOK P E) (hg : GlobOK P E) (hm : P.follows .mixedOrders = true) {n : FuncId} {fn : Func} (hf : P.funcs[n]? = some fn) {c : VCase} {cd : Code} (hb : fn.body = some cd) (k0 : Nat) (hk0 : Nat.ble k0 c.objs.length = true)
    (hok : (Nat.beq H.nt fn.ntmps && Nat.ble c.ins.length fn.ntmps) = true) {LP : Loops (c.out.den × opatsDen c.outs)} (hL : LoopsGood P H k0 LP cd)
    (h : ∀ x y r, pick (c.f x y) = some r → patsWf c.ins x → opatsWf c.objs y → evFnM k0 E H LP fn (patsMk c.ins x) (opatsMk c.objs y) (finVM c.out c.outs k0 c.objs.length) = some r) : c.e.ok P n := fun (x : patsDen c.ins) (y : opatsDen c.objs) r objs' hxy hw1 hw2 => by
  obtain ⟨z, hz, e0⟩ := pick_mapAlt hxy
  cases e0
  have he := h x y z hz hw1 hw2
  have hlen : ∀ (ps : List Pat) (x : patsDen ps), (patsMk ps x).length = ps.length := fun ps => by
    induction ps with
    | nil => intro _; rfl
    | cons p ps ih => intro x; simp [patsMk, ih]
  have holen : ∀ (ps : List OPat) (x : opatsDen ps), (opatsMk ps x).length = ps.length := fun ps => by
    induction ps with
    | nil => intro _; rfl
    | cons p ps ih => intro x; simp [opatsMk, ih]
  have hl : c.objs.length = (opatsMk c.objs y).length := (holen c.objs y).symm
  have hk : k0 ≤ (opatsMk c.objs y).length := by rw [← hl]; exact Nat.le_of_ble_eq_true hk0
  rw [hl] at he
  obtain ⟨v, s', hv, hC⟩ := evFn_coreM hE hg hm hf (args := patsMk c.ins x) (objs := opatsMk c.objs y) (by unfold fnOk; rw [hlen c.ins x]; exact hok) hb hk hL he
  unfold finVM at hv
  obtain ⟨⟨r, os⟩, h1, hv⟩ := bind_some hv
  obtain ⟨a, h2, hv⟩ := bind_some hv
  obtain ⟨b, h3, hv⟩ := bind_some hv
  cases hv
  have hE2 := finM_sound hk h1 hC
  exact hE2.told h2 h3
end
end Go.Sim
namespace Go.Sim
@[reducible] def recTy : Ty := .pair (.int .i64) (.pair (.int .i64) (.pair .str (.pair .str .bool)))
@[reducible] def segTy : Ty := .pair (.int .i64) (.pair (.int .i64) (.pair (.int .i64) (.pair (.int .i64) (.pair (.sl recTy) (.pair .bool (.pair .bool (.pair .bool (.pair (.int .i64) (.int .u32)))))))))
@[reducible] def confTy : Ty := .pair (.int .i64) (.pair (.int .i64) (.pair (.int .i64) (.int .i64)))
abbrev Rec := Int × Int × List UInt8 × List UInt8 × Bool
abbrev Seg := Int × Int × Int × Int × List Rec × Bool × Bool × Bool × Int × Int
abbrev Cnf := Int × Int × Int × Int
end Go.Sim
namespace Go.Sim
abbrev recT : Ty := .pair (.int .i64) (.pair (.int .i64) (.pair .str (.pair .str .bool)))
theorem and_bif {a b : Bool} : (bif a then some b else some false) = some (a && b) := by cases a <;> rfl
theorem or_bif {a b : Bool} : (bif a then some true else some b) = some (a || b) := by cases a <;> rfl
theorem nand_bif {a b : Bool} : (bif a then some false else some b) = some (!a && b) := by cases a <;> rfl
theorem nor_bif {a b : Bool} : (bif a then some b else some true) = some (!a || b) := by cases a <;> rfl
abbrev Cmd := Int × Int × Int × List Rec × List UInt8 × Int × Int × Int × Int × Cnf
instance recDec : DecidableEq Rec := inferInstance
instance recsDec : DecidableEq (List Rec) := @instDecidableEqList Rec recDec
instance cmdDec0 : DecidableEq (Int × Int × Cnf) := inferInstance
instance cmdDec1 : DecidableEq (Int × Int × Int × Int × Cnf) := @instDecidableEqProd _ _ _ (@instDecidableEqProd _ _ _ cmdDec0)
instance cmdDec2 : DecidableEq (List UInt8 × Int × Int × Int × Int × Cnf) := @instDecidableEqProd _ _ inferInstance cmdDec1
instance cmdDec3 : DecidableEq (List Rec × List UInt8 × Int × Int × Int × Int × Cnf) := @instDecidableEqProd _ _ recsDec cmdDec2
instance cmdDec : DecidableEq Cmd := @instDecidableEqProd _ _ _ (@instDecidableEqProd _ _ _ (@instDecidableEqProd _ _ _ cmdDec3))
end Go.Sim
namespace Go.Sim
theorem firstFrom_eq {α : Type} [DecidableEq α] {q : α → α → Bool} (hq : ∀ x y, q x y = decide (x = y)) (d : α) {a b : List α} (h : b.length = a.length) : (firstFrom (fun i => !(q (a.getD i d) (b.getD i d))) 0 a.length).isSome = !decide (a = b) := by
  cases hf : firstFrom (fun i => !(q (a.getD i d) (b.getD i d))) 0 a.length with
  | none =>
    have hn := firstFrom_none hf
    have : a = b := List.ext_getElem h.symm fun i h1 h2 => by
      have := hn i (Nat.zero_le _) (by omega)
      simp only [hq, Bool.not_eq_false', decide_eq_true_eq, List.getD_eq_getElem?_getD, List.getElem?_eq_getElem h1, List.getElem?_eq_getElem h2, Option.getD_some] at this
      exact this
    simp [this]
  | some j =>
    obtain ⟨_, h2, h3, _⟩ := firstFrom_spec hf
    have hne : a ≠ b := fun e => by
      subst e
      simp [hq] at h3
    simp [hne]
def recEqB (a b : Rec) : Bool := a.1 == b.1 && (a.2.1 == b.2.1 && (a.2.2.1 == b.2.2.1 && (a.2.2.2.1 == b.2.2.2.1 && (a.2.2.2.2 == b.2.2.2.2 && true))))
theorem recEqB_eq (a b : Rec) : recEqB a b = decide (a = b) := by
  obtain ⟨a1, a2, a3, a4, a5⟩ := a
  obtain ⟨b1, b2, b3, b4, b5⟩ := b
  unfold recEqB
  apply Bool.eq_iff_iff.2
  simp [Prod.ext_iff]
end Go.Sim
namespace Go.Sim
def bt (l : List UInt8) (k : Nat) : Nat := (l.getD k 0).toNat
end Go.Sim
namespace Go.Sim
end Go.Sim
namespace Go.Sim
end Go.Sim
namespace Go.Sim
end Go.Sim
namespace Go.Sim
end Go.Sim
namespace Go.Sim
end Go.Sim
namespace Go.Sim
def recR (r : Rec) : Bool := decide (r.1 ≥ 0) && (decide (r.1 ≤ 1125899906842624) && (decide (r.2.1 ≥ -1099511627776) && (decide (r.2.1 ≤ 1099511627776) && (decide (((List.length r.2.2.1 : Nat) : Int) ≥ 1) &&
  (decide (((List.length r.2.2.1 : Nat) : Int) ≤ 200) && (decide (((List.length r.2.2.2.1 : Nat) : Int) ≤ 2000) && (!r.2.2.2.2 || r.2.2.2.1 == [])))))))
theorem recR_key (l : List UInt8) : (!(l == [])) = decide (((List.length l : Nat) : Int) ≥ 1) := by
  cases l with
  | nil => rfl
  | cons a b => simp; omega
end Go.Sim
namespace Go.Sim
set_option linter.unusedSimpArgs false
set_option linter.unusedVariables false
def preN (n : Nat) : List Int := if n < 128 then [] else ((n % 128 + 128 : Nat) : Int) :: preN (n / 128)
termination_by n
decreasing_by omega
def lastN (n : Nat) : Nat := if n < 128 then n else lastN (n / 128)
termination_by n
decreasing_by omega
def putN (n : Nat) : List Int := preN n ++ [(lastN n : Int)]
theorem pow7 (i : Nat) : 2 ^ (7 * (i + 1)) = 2 ^ (7 * i) * 128 := by rw [Nat.mul_add, Nat.pow_add]
def foldV (n : Int) : Int := bif decide (n < 0) then -2 * n - 1 else 2 * n
theorem wrapu8_mod (n : Int) : IntKind.u8.wrap n = n % 256 := by simp [IntKind.wrap, IntKind.bits, IntKind.signed]
set_option maxRecDepth 10000 in
theorem or128 : ∀ y : Fin 256, (y.val ||| 128) = y.val % 128 + 128 := by decide
theorem put_byte {x : Int} (h : 0 ≤ x) : IntKind.u8.wrap (↑(BitVec.ofInt 8 (IntKind.u8.wrap x) ||| BitVec.ofInt 8 (128 : Int)).toNat : Int) = ((x.toNat % 128 + 128 : Nat) : Int) := by
  have e1 : (BitVec.ofInt 8 (IntKind.u8.wrap x)).toNat = x.toNat % 256 := by
    rw [wrapu8_mod]
    simp only [BitVec.toNat_ofInt]
    omega
  have e2 : (BitVec.ofInt 8 (128 : Int)).toNat = 128 := by decide
  rw [BitVec.toNat_or, e1, e2]
  have := or128 ⟨x.toNat % 256, Nat.mod_lt _ (by omega)⟩
  simp only at this
  rw [this, wrapu8_mod]
  omega
theorem fdiv128 {x : Int} (h : 0 ≤ x) : x.fdiv 128 = ((x.toNat / 128 : Nat) : Int) := by
  rw [Int.fdiv_eq_ediv_of_nonneg _ (by omega)]; omega
theorem ofInt64 {x : Int} (h : 0 ≤ x) (h' : x < 18446744073709551616) : (BitVec.ofInt 64 x).toNat = x.toNat := by
  simp only [BitVec.toNat_ofInt]; omega
theorem xor_ones (x : BitVec 64) : (BitVec.ofInt 64 (18446744073709551615 : Int) ^^^ x).toNat = 18446744073709551615 - x.toNat := by
  have e : BitVec.ofInt 64 (18446744073709551615 : Int) = BitVec.allOnes 64 := by decide
  rw [e, BitVec.allOnes_xor, BitVec.toNat_not]
theorem fold_val {n : Int} (h1 : -9223372036854775808 ≤ n) (h2 : n ≤ 9223372036854775807) : (bif decide (n < (0 : Int)) then
    some (IntKind.u64.wrap (↑(BitVec.ofInt 64 (18446744073709551615 : Int) ^^^ BitVec.ofInt 64 (IntKind.u64.wrap (IntKind.u64.wrap n * (2 : Int)))).toNat : Int), ())
    else some (IntKind.u64.wrap (IntKind.u64.wrap n * (2 : Int)), ())) = some (foldV n, ()) := by
  unfold foldV
  have e : IntKind.u64.wrap (IntKind.u64.wrap n * 2) = (bif decide (n < 0) then 2 * n + 18446744073709551616 else 2 * n) := by
    rw [wrapu64_mod, wrapu64_mod]
    by_cases h : n < 0
    · simp only [h, decide_true, cond_true]; omega
    · simp only [h, decide_false, cond_false]; omega
  rw [e]
  by_cases h : n < 0
  · simp only [h, decide_true, cond_true]
    rw [xor_ones, ofInt64 (by omega) (by omega)]
    congr 2
    rw [wrapu64_mod]
    omega
  · simp only [h, decide_false, cond_false]
theorem fold_in {n : Int} (h1 : -9223372036854775808 ≤ n) (h2 : n ≤ 9223372036854775807) : 0 ≤ foldV n ∧ foldV n ≤ 18446744073709551615 := by
  unfold foldV
  by_cases h : n < 0
  · simp only [h, decide_true, cond_true]; omega
  · simp only [h, decide_false, cond_false]; omega
theorem preN_lt {n : Nat} (h : n < 128) : preN n = [] := by rw [preN, if_pos h]
theorem preN_ge {n : Nat} (h : ¬ n < 128) : preN n = ((n % 128 + 128 : Nat) : Int) :: preN (n / 128) := by rw [preN, if_neg h]
theorem lastN_lt {n : Nat} (h : n < 128) : lastN n = n := by rw [lastN, if_pos h]
theorem lastN_ge {n : Nat} (h : ¬ n < 128) : lastN n = lastN (n / 128) := by rw [lastN, if_neg h]
theorem lastN_small (n : Nat) : lastN n < 128 := by
  induction n using Nat.strongRecOn with
  | ind n ih =>
    by_cases h : n < 128
    · rw [lastN_lt h]; exact h
    · rw [lastN_ge h]; exact ih _ (by omega)
theorem preN_len : ∀ (k n : Nat), n < 2 ^ (7 * (k + 1)) → (preN n).length ≤ k
  | 0, n, h => by rw [preN_lt (by simpa using h)]; simp
  | k + 1, n, h => by
    by_cases h' : n < 128
    · rw [preN_lt h']; simp
    · rw [preN_ge h', List.length_cons]
      rw [pow7] at h
      have := preN_len k (n / 128) (Nat.div_lt_of_lt_mul (by rw [Nat.mul_comm]; exact h))
      omega
theorem preN_len9 {n : Nat} (h : n < 18446744073709551616) : (preN n).length ≤ 9 := preN_len 9 n (by omega)
theorem putN_len {n : Nat} (h : n < 18446744073709551616) : (putN n).length ≤ 10 := by
  have := preN_len9 h
  unfold putN; simp only [List.length_append, List.length_cons, List.length_nil]; omega
end Go.Sim
namespace Go.Sim
set_option linter.unusedSimpArgs false
set_option linter.unusedVariables false
def encR (r : Rec) : List Int := putN r.1.toNat ++ putN (foldV r.2.1).toNat ++ [bif r.2.2.2.2 then (1 : Int) else 0] ++ putN (List.length r.2.2.1) ++ bytesOf r.2.2.1 ++ putN (List.length r.2.2.2.1) ++ bytesOf r.2.2.2.1
def putR (b : List Int) (r : Rec) : List Int := bif recR r then b ++ encR r else b
theorem encR_len {r : Rec} (h : recR r = true) : (encR r).length ≤ 2241 := by
  obtain ⟨o, t, k, v, d⟩ := r
  simp only [recR, Bool.and_eq_true, decide_eq_true_eq] at h
  obtain ⟨h1, h2, h3, h4, h5, h6, h7, h8⟩ := h
  have hk : (bytesOf k).length = k.length := by simp [bytesOf]
  have hv : (bytesOf v).length = v.length := by simp [bytesOf]
  have hf := fold_in (n := t) (by omega) (by omega)
  have a1 := putN_len (n := o.toNat) (by omega)
  have a2 := putN_len (n := (foldV t).toNat) (by omega)
  have a3 := putN_len (n := List.length k) (by omega)
  have a4 := putN_len (n := List.length v) (by omega)
  simp only [encR, List.length_append, List.length_cons, List.length_nil, hk, hv]
  omega
end Go.Sim
namespace Go.Sim
set_option linter.unusedSimpArgs false
set_option linter.unusedVariables false
def polyB : BitVec 32 := 3988292384#32
def bitB (v : BitVec 32) : BitVec 32 := bif v.getLsbD 0 then (v >>> 1) ^^^ polyB else v >>> 1
def itB : Nat → BitVec 32 → BitVec 32
  | 0, v => v
  | n + 1, v => itB n (bitB v)
def byteB (v : BitVec 32) (c : Int) : BitVec 32 := itB 8 (v ^^^ BitVec.ofInt 32 c)
def crcB (v : BitVec 32) (b : List Int) : BitVec 32 := b.foldl byteB v
def sumB (b : List Int) : BitVec 32 := ~~~ crcB (~~~ 0#32) b
theorem low_cases (v : BitVec 32) : (v &&& 1#32 = 1#32 ∧ v.getLsbD 0 = true) ∨ (v &&& 1#32 = 0#32 ∧ v.getLsbD 0 = false) := by
  have h : (v &&& 1#32).toNat = v.toNat % 2 := by
    rw [BitVec.toNat_and]
    exact Nat.and_one_is_mod v.toNat
  have g : v.getLsbD 0 = decide (v.toNat % 2 = 1) := by
    unfold BitVec.getLsbD
    exact Nat.testBit_zero v.toNat
  rcases Nat.mod_two_eq_zero_or_one v.toNat with e | e
  · exact .inr ⟨BitVec.eq_of_toNat_eq (by rw [h, e]; rfl), by rw [g, e]; rfl⟩
  · exact .inl ⟨BitVec.eq_of_toNat_eq (by rw [h, e]; rfl), by rw [g, e]; rfl⟩
theorem ofInt_bv (v : BitVec 32) : BitVec.ofInt 32 (v.toNat : Int) = v := by
  apply BitVec.eq_of_toNat_eq
  have := v.isLt
  rw [BitVec.toNat_ofInt]
  omega
theorem wrap_bv (v : BitVec 32) : IntKind.u32.wrap (v.toNat : Int) = (v.toNat : Int) := by
  have := v.isLt
  exact wrap_in (In.u32.2 ⟨by omega, by omega⟩)
theorem fdiv_bv (v : BitVec 32) : (v.toNat : Int).fdiv 2 = ((v >>> 1).toNat : Int) := by
  rw [BitVec.toNat_ushiftRight, Nat.shiftRight_eq_div_pow]
  rw [Int.fdiv_eq_ediv_of_nonneg _ (by omega)]
  rfl
theorem bit_prog (v : BitVec 32) : IntKind.u32.wrap (((BitVec.ofInt 32 ((v.toNat : Int).fdiv 2) ^^^ BitVec.ofInt 32 (IntKind.u32.wrap (((BitVec.ofInt 32 3988292384 &&& BitVec.ofInt 32
    (IntKind.u32.wrap (0 - IntKind.u32.wrap ((BitVec.ofInt 32 (v.toNat : Int) &&& BitVec.ofInt 32 1).toNat : Int)))).toNat : Nat) : Int))).toNat : Nat) : Int) = ((bitB v).toNat : Int) := by
  rw [ofInt_bv, fdiv_bv, ofInt_bv, show BitVec.ofInt 32 1 = 1#32 from rfl]
  unfold bitB
  rcases low_cases v with ⟨h, g⟩ | ⟨h, g⟩
  · rw [h, g, cond_true]
    rw [show BitVec.ofInt 32 (IntKind.u32.wrap (((BitVec.ofInt 32 3988292384 &&& BitVec.ofInt 32 (IntKind.u32.wrap (0 - IntKind.u32.wrap ((1#32).toNat : Int)))).toNat : Nat) : Int)) = polyB by decide, wrap_bv]
  · rw [h, g, cond_false]
    rw [show BitVec.ofInt 32 (IntKind.u32.wrap (((BitVec.ofInt 32 3988292384 &&& BitVec.ofInt 32 (IntKind.u32.wrap (0 - IntKind.u32.wrap ((0#32).toNat : Int)))).toNat : Nat) : Int)) = 0#32 by decide, BitVec.xor_zero, wrap_bv]
theorem bit_ref1 (v : BitVec 32) : (IntKind.u32.wrap ((BitVec.ofInt 32 (v.toNat : Int) &&& BitVec.ofInt 32 1).toNat : Int) == 1) = v.getLsbD 0 := by
  rw [ofInt_bv, show BitVec.ofInt 32 1 = 1#32 from rfl]
  rcases low_cases v with ⟨h, g⟩ | ⟨h, g⟩
  · rw [h, g]; decide
  · rw [h, g]; decide
theorem bit_ref2 (v : BitVec 32) : IntKind.u32.wrap (((BitVec.ofInt 32 ((v.toNat : Int).fdiv 2) ^^^ BitVec.ofInt 32 3988292384).toNat : Nat) : Int) = (((v >>> 1) ^^^ polyB).toNat : Int) := by
  rw [fdiv_bv, ofInt_bv, show BitVec.ofInt 32 3988292384 = polyB from rfl, wrap_bv]
end Go.Sim
namespace Go.Sim
set_option linter.unusedSimpArgs false
set_option linter.unusedVariables false
set_option maxRecDepth 10000
theorem env_nil : ∀ x ∈ ([] : List (FuncId × Con)), HoldsC P0 x.1 x.2 := fun x h => by cases h
abbrev u8T : Ty := .int .u8
theorem right1_ev (r : recT.den) : evFn (env []) H.f35 (LPof []) F.f35 [valOf recT r] [] (finT [.bool]) = Option.bind (bif decide (r.1 ≥ (0 : Int)) then bif decide (r.1 ≤ (1125899906842624 : Int)) then bif decide (r.2.1 ≥ (-1099511627776 : Int)) then bif decide (r.2.1 ≤ (1099511627776 : Int)) then bif decide ((↑(List.length r.2.2.1) : Int) ≥ (1 : Int)) then bif decide ((↑(List.length r.2.2.1) : Int) ≤ (200 : Int)) then bif decide ((↑(List.length r.2.2.2.1) : Int) ≤ (2000 : Int)) then bif !r.2.2.2.2 then some true else some (r.2.2.2.1 == []) else some false else some false else some false else some false else some false else some false else some false) fun v => some (v, ()) := by kernel_rfl
def caseRight1 : PCase := ⟨[.ty recT], [.bool], fun x => (fun (r : Rec) => [(true, (recR r, ()))]) x.1⟩
theorem right1_val (r : Rec) : evFn (env []) H.f35 (LPof []) F.f35 [valOf recT r] [] (finT [.bool]) = some (recR r, ()) := by
  rw [right1_ev]; simp only [and_bif, or_bif, nand_bif, nor_bif, Option.bind_some]; rfl
theorem right1_ok : caseRight1.ok P0 I.f35 := case_ok2 (H := H.f35) (E := env []) (env_ok env_nil) glob0 mixed0 G.f35 Bd.f35 (by kernel_rfl) noLoops fun ⟨r, ()⟩ y h hw => by
  obtain ⟨hc, rfl⟩ := pick_pre h
  exact right1_val r
theorem recright_ev (r : recT.den) : evFn (env []) H.f43 (LPof []) F.f43 [valOf recT r] [] (finT [.bool]) = Option.bind (bif decide (r.1 ≥ (0 : Int)) then bif decide (r.1 ≤ (1125899906842624 : Int)) then bif decide (r.2.1 ≥ (-1099511627776 : Int)) then bif decide (r.2.1 ≤ (1099511627776 : Int)) then bif !r.2.2.1 == [] then bif decide ((↑(List.length r.2.2.1) : Int) ≤ (200 : Int)) then bif decide ((↑(List.length r.2.2.2.1) : Int) ≤ (2000 : Int)) then bif r.2.2.2.2 then some !!r.2.2.2.1 == [] else some true else some false else some false else some false else some false else some false else some false else some false) fun v => some (v, ()) := by kernel_rfl
def caseRecright : PCase := ⟨[.ty recT], [.bool], fun x => (fun (r : Rec) => [(true, (recR r, ()))]) x.1⟩
theorem recright_val (r : Rec) : evFn (env []) H.f43 (LPof []) F.f43 [valOf recT r] [] (finT [.bool]) = some (recR r, ()) := by
  rw [recright_ev]; simp only [and_bif, or_bif, nand_bif, nor_bif, Option.bind_some, Bool.not_not, recR_key r.2.2.1]; rfl
theorem recright_ok : caseRecright.ok P0 I.f43 := case_ok2 (H := H.f43) (E := env []) (env_ok env_nil) glob0 mixed0 G.f43 Bd.f43 (by kernel_rfl) noLoops fun ⟨r, ()⟩ y h hw => by
  obtain ⟨hc, rfl⟩ := pick_pre h
  exact recright_val r
theorem vfold_ev (n : Int) : evFn (env []) H.f79 (LPof []) F.f79 [.int .i64 n] [] (finT [.int .u64]) = bif decide (n < (0 : Int)) then some (IntKind.u64.wrap (↑(BitVec.ofInt 64 (18446744073709551615 : Int) ^^^ BitVec.ofInt 64 (IntKind.u64.wrap (IntKind.u64.wrap n * (2 : Int)))).toNat : Int), ()) else some (IntKind.u64.wrap (IntKind.u64.wrap n * (2 : Int)), ()) := by kernel_rfl
def caseFold : PCase := ⟨[.ty (.int .i64)], [.int .u64], fun x => (fun (n : Int) => [(true, (foldV n, ()))]) x.1⟩
theorem vfold_val (n : Int) (hn : In .i64 n) : evFn (env []) H.f79 (LPof []) F.f79 [.int .i64 n] [] (finT [.int .u64]) = some (foldV n, ()) := by
  rw [vfold_ev, fold_val (In.i64.1 hn).1 (In.i64.1 hn).2]
theorem vfold_ok : caseFold.ok P0 I.f79 := case_ok2 (H := H.f79) (E := env []) (env_ok env_nil) glob0 mixed0 G.f79 Bd.f79 (by kernel_rfl) noLoops fun ⟨n, ()⟩ y h hw => by
  obtain ⟨hc, rfl⟩ := pick_pre h
  exact vfold_val n hw.1
theorem vput_rd {R : Type} (x : Int) (o : List Int) (K : Ex → St → Option R) : roundK (env []) H.f80 0 (LPof []) V.f80_2 L.f80_2 ⟨[(1, .int .u64 x), (5, .hw 0)], [(0, .arr 1 (.int .u8) o [])], 1⟩ K = bif decide (x ≥ (128 : Int)) then bif decide ((o ++ [IntKind.u8.wrap (↑(BitVec.ofInt 8 (IntKind.u8.wrap x) ||| BitVec.ofInt 8 (128 : Int)).toNat : Int)]).length * 1 ≤ 140737488355328) then K .normal { slots := [(1, .int IntKind.u64 (x.fdiv (128 : Int))), (5, .hw 0)], objs := [(0, .arr 1 (Ty.int IntKind.u8) (o ++ [IntKind.u8.wrap (↑(BitVec.ofInt 8 (IntKind.u8.wrap x) ||| BitVec.ofInt 8 (128 : Int)).toNat : Int)]) [])], nx := 1 } else none else K (.exit 0) { slots := [(1, .int IntKind.u64 x), (5, .hw 0)], objs := [(0, .arr 1 (Ty.int IntKind.u8) o [])], nx := 1 } := by kernel_rfl
def vputSt (x : Int) (o : List Int) : St := ⟨[(1, .int .u64 x), (5, .hw 0)], [(0, .arr 1 (.int .u8) o [])], 1⟩
theorem vput_rounds {R : Type} (K : Ex → St → Option R) : ∀ (n : Nat) (o : List Int), o.length + (preN n).length < 140737488355328 →
    ∃ m, rounds (env []) H.f80 0 (LPof []) V.f80_2 L.f80_2 m (vputSt n o) K = K (.exit 0) (vputSt (lastN n) (o ++ preN n)) := by
  intro n
  induction n using Nat.strongRecOn with
  | ind n ih =>
    intro o ho
    by_cases h : n < 128
    · refine ⟨1, ?_⟩
      rw [rounds_succ']
      refine (vput_rd _ _ _).trans ?_
      rw [cond_neg (by omega), lastN_lt h, preN_lt h, List.append_nil]
      rfl
    · rw [preN_ge h, List.length_cons] at ho
      obtain ⟨m, hm⟩ := ih (n / 128) (by omega) (o ++ [((n % 128 + 128 : Nat) : Int)]) (by simp only [List.length_append, List.length_cons, List.length_nil]; omega)
      refine ⟨m + 1, ?_⟩
      rw [rounds_succ']
      refine (vput_rd _ _ _).trans ?_
      have e1 := put_byte (x := (n : Int)) (by omega)
      have e2 := fdiv128 (x := (n : Int)) (by omega)
      rw [Int.toNat_natCast] at e1 e2
      rw [cond_pos (by omega), e1, e2, cond_pos (by simp only [List.length_append, List.length_cons, List.length_nil]; omega), lastN_ge h, preN_ge h]
      refine Eq.trans hm ?_
      rw [List.append_assoc]
      rfl
abbrev vputLC : LoopC := LoopC.of ⟨[(1, .int .u64), (5, .lit (.hw 0))], [.arr 1 (.int .u8) []]⟩ (fun x => decide (x.2.1.1.length ≤ 140737488355000))
    fun x => [(true, .exit 0, vputSt (lastN x.1.1.toNat) (x.2.1.1 ++ preN x.1.1.toNat))]
theorem vput_go (x : Int) (o : List Int) (h : o.length ≤ 140737488355000) (hx : In .u64 x) : ∃ n, rounds (env []) H.f80 0 (LPof []) V.f80_2 L.f80_2 n (vputSt x o) (fun e s => some (e, s)) = some (.exit 0, vputSt (lastN x.toNat) (o ++ preN x.toNat)) := by
  have hx := In.u64.1 hx
  have h9 := preN_len9 (n := x.toNat) (by omega)
  obtain ⟨m, hm⟩ := vput_rounds (fun e s => some (e, s)) x.toNat o (by omega)
  have e : ((x.toNat : Nat) : Int) = x := by omega
  rw [e] at hm
  exact ⟨m, hm⟩
theorem vput_lok : LoopOK P0 H.f80 0 L.f80_2 vputLC :=
  loop_ok_of (env_ok env_nil) glob0 mixed0 noLoops V.f80_2 (by decide) fun ⟨⟨x, _⟩, ⟨⟨o, _⟩, _⟩⟩ h hw => vput_go x o (of_decide_eq_true h) hw.1.1
theorem vput_ev (b : List Int) (x : Int) : evFn (env []) H.f80 (LPof [(2, vputLC)]) F.f80 [.vl (.int .u8) b, .int .u64 x] [] (finV (.lit (.hw 0)) [.arr 1 (.int .u8) []] 0) = bif decide (b.length * 1 ≤ 140737488355328) then bif decide (b.length ≤ 140737488355000) && true then bif decide ((b ++ preN x.toNat ++ [IntKind.u8.wrap (↑(lastN x.toNat) : Int)]).length * 1 ≤ 140737488355328) then some ((), (b ++ preN x.toNat ++ [IntKind.u8.wrap (↑(lastN x.toNat) : Int)], ()), ()) else none else none else none := by kernel_rfl
theorem lastN_byte (n : Nat) : IntKind.u8.wrap ((lastN n : Nat) : Int) = (lastN n : Int) := by
  have := lastN_small n
  rw [wrapu8_mod]; omega
def caseVput : VCase := ⟨[.vl u8T, .int .u64], [], .lit (.hw 0), [.arr 1 u8T []], fun ⟨b, x, ()⟩ () => [(decide (b.length ≤ 140737488355000), ((), ((b ++ putN x.toNat, ()), ())))]⟩
theorem vput_val (b : List Int) (x : Int) (hc : (decide (b.length ≤ 140737488355000)) = true) (hx : In .u64 x) : evFn (env []) H.f80 (LPof [(2, vputLC)]) F.f80 [.vl u8T b, .int .u64 x] [] (finV (.lit (.hw 0)) [.arr 1 u8T []] 0) = some ((), ((b ++ putN x.toNat, ()), ())) := by
  have hb := of_decide_eq_true hc
  have h9 := preN_len9 (n := x.toNat) (by have := (In.u64.1 hx).2; have := (In.u64.1 hx).1; omega)
  rw [vput_ev, cond_pos (by omega), cond_and_none, cond_pos hb, cond_true, cond_pos (by simp only [List.length_append, List.length_cons, List.length_nil]; omega), lastN_byte, List.append_assoc]
  rfl
theorem vput_ok : caseVput.e.ok P0 I.f80 := vcase_ok (c := caseVput) (H := H.f80) (E := env []) (env_ok env_nil) glob0 mixed0 G.f80 Bd.f80 (by kernel_rfl) (loops_good (tab := [(2, vputLC)]) (by kernel_rfl) (fun x hx => by simp at hx; subst hx; exact vput_lok)) fun ⟨b, x, ()⟩ () r h hw1 hw2 => by
  obtain ⟨hc, rfl⟩ := pick_pre h
  exact vput_val b x hc hw1.2.1
theorem rfold_ev (n : Int) : evFn (env []) H.f30 (LPof []) F.f30 [.int .i64 n] [] (finT [.int .u64]) = bif decide (n < (0 : Int)) then some (IntKind.u64.wrap (IntKind.u64.wrap (IntKind.u64.wrap (IntKind.i64.wrap ((0 : Int) - IntKind.i64.wrap (n + (1 : Int)))) * (2 : Int)) + (1 : Int)), ()) else some (IntKind.u64.wrap (IntKind.u64.wrap n * (2 : Int)), ()) := by kernel_rfl
end Go.Sim
namespace Go.Sim
set_option linter.unusedSimpArgs false
set_option linter.unusedVariables false
set_option maxRecDepth 10000
theorem crcin_rd {R : Type} (x : Int) (b : List Int) (n i k : Int) (K : Ex → St → Option R) : roundK (env []) H.f38 0 (LPof []) V.f38_7 L.f38_7 ⟨[(5, .int .u32 x), (11, .vl u8T b), (12, .int .i64 n), (13, .int .i64 i), (21, .int .i64 k)], [], 0⟩ K = bif decide (k < (8 : Int)) then K .normal { slots := [(5, .int .u32 (IntKind.u32.wrap (↑(BitVec.ofInt 32 (x.fdiv (2 : Int)) ^^^ BitVec.ofInt 32 (IntKind.u32.wrap (↑(BitVec.ofInt 32 (3988292384 : Int) &&& BitVec.ofInt 32 (IntKind.u32.wrap ((0 : Int) - IntKind.u32.wrap (↑(BitVec.ofInt 32 x &&& BitVec.ofInt 32 (1 : Int)).toNat : Int)))).toNat : Int))).toNat : Int))), (11, .vl (Ty.int IntKind.u8) b), (12, .int .i64 n), (13, .int .i64 i), (21, .int .i64 (IntKind.i64.wrap (k + (1 : Int))))], objs := [], nx := 0 } else K (.exit 2) { slots := [(5, .int .u32 x), (11, .vl (Ty.int IntKind.u8) b), (12, .int .i64 n), (13, .int .i64 i), (21, .int .i64 k)], objs := [], nx := 0 } := by kernel_rfl
theorem rcrcin_rd {R : Type} (x : Int) (b : List Int) (i k : Int) (K : Ex → St → Option R) : roundK (env []) H.f31 0 (LPof []) V.f31_7 L.f31_7 ⟨[(1, .vl u8T b), (5, .int .u32 x), (6, .int .i64 i), (7, .int .i64 k)], [], 0⟩ K = bif decide (k < (8 : Int)) then bif IntKind.u32.wrap (↑(BitVec.ofInt 32 x &&& BitVec.ofInt 32 (1 : Int)).toNat : Int) == (1 : Int) then K .normal { slots := [(1, .vl (Ty.int IntKind.u8) b), (5, .int .u32 (IntKind.u32.wrap (↑(BitVec.ofInt 32 (x.fdiv (2 : Int)) ^^^ BitVec.ofInt 32 (3988292384 : Int)).toNat : Int))), (6, .int .i64 i), (7, .int .i64 (IntKind.i64.wrap (k + (1 : Int))))], objs := [], nx := 0 } else K .normal { slots := [(1, .vl (Ty.int IntKind.u8) b), (5, .int .u32 (x.fdiv (2 : Int))), (6, .int .i64 i), (7, .int .i64 (IntKind.i64.wrap (k + (1 : Int))))], objs := [], nx := 0 } else K (.exit 2) { slots := [(1, .vl (Ty.int IntKind.u8) b), (5, .int .u32 x), (6, .int .i64 i), (7, .int .i64 k)], objs := [], nx := 0 } := by kernel_rfl
def crcinSt (v : BitVec 32) (b : List Int) (n i k : Int) : St := ⟨[(5, .int .u32 (v.toNat : Int)), (11, .vl u8T b), (12, .int .i64 n), (13, .int .i64 i), (21, .int .i64 k)], [], 0⟩
theorem crcin_loop {R : Type} (b : List Int) (n i : Int) (K : Ex → St → Option R) : ∀ (m k : Nat) (v : BitVec 32), k + m = 8 → rounds (env []) H.f38 0 (LPof []) V.f38_7 L.f38_7 (m + 1) (crcinSt v b n i k) K = K (.exit 2) (crcinSt (itB m v) b n i 8)
  | 0, k, v, h => by
    obtain rfl : k = 8 := by omega
    rw [rounds_succ']
    refine (crcin_rd _ _ _ _ _ _).trans ?_
    rw [cond_neg (by omega)]
    rfl
  | m + 1, k, v, h => by
    rw [rounds_succ']
    refine (crcin_rd _ _ _ _ _ _).trans ?_
    rw [cond_pos (by omega), bit_prog, wrap64 (by omega) (by omega)]
    exact crcin_loop b n i K m (k + 1) (bitB v) (by omega)
theorem u32_bv {x : Int} (h : In .u32 x) : ∃ v : BitVec 32, x = (v.toNat : Int) := by
  have := In.u32.1 h
  refine ⟨BitVec.ofNat 32 x.toNat, ?_⟩
  rw [BitVec.toNat_ofNat]
  omega
abbrev crcinLC : LoopC := LoopC.of ⟨[(5, .int .u32), (11, .vl u8T), (12, .int .i64), (13, .int .i64), (21, .int .i64)], []⟩ (fun x => decide (x.1.2.2.2.2.1 = (0 : Int)))
  fun x => [(true, .exit 2, crcinSt (itB 8 (BitVec.ofInt 32 x.1.1)) x.1.2.1 x.1.2.2.1 x.1.2.2.2.1 8)]
theorem crcin_go (x : Int) (hx : In .u32 x) (b : List Int) (n i : Int) : ∃ m, rounds (env []) H.f38 0 (LPof []) V.f38_7 L.f38_7 m ⟨[(5, .int .u32 x), (11, .vl u8T b), (12, .int .i64 n), (13, .int .i64 i), (21, .int .i64 0)], [], 0⟩ (fun e s => some (e, s)) =
    some (.exit 2, crcinSt (itB 8 (BitVec.ofInt 32 x)) b n i 8) := by
  obtain ⟨v, rfl⟩ := u32_bv hx
  rw [ofInt_bv]
  exact ⟨9, crcin_loop b n i _ 8 0 v (by omega)⟩
theorem crcin_lok : LoopOK P0 H.f38 0 L.f38_7 crcinLC :=
  loop_ok_of (env_ok env_nil) glob0 mixed0 noLoops V.f38_7 (by decide) fun ⟨⟨x, b, n, i, k, _⟩, _⟩ h hw => by
    obtain rfl := of_decide_eq_true h
    exact crcin_go x hw.1.1 b n i
theorem crc_rd {R : Type} (x : Int) (b : List Int) (n i : Int) (K : Ex → St → Option R) : roundK (env []) H.f38 0 (LPof [(7, crcinLC)]) V.f38_3 L.f38_3 ⟨[(5, .int .u32 x), (11, .vl u8T b), (12, .int .i64 n), (13, .int .i64 i)], [], 0⟩ K = bif decide (i < n) then bif decide ((0 : Int) ≤ i) && decide (i < (↑b.length : Int)) then K .normal { slots := [(5, .int .u32 (↑(itB 8 (BitVec.ofInt 32 (IntKind.u32.wrap (↑(BitVec.ofInt 32 x ^^^ BitVec.ofInt 32 (IntKind.u32.wrap (b.getD i.toNat (0 : Int)))).toNat : Int)))).toNat : Int)), (11, .vl (Ty.int IntKind.u8) b), (12, .int .i64 n), (13, .int .i64 (IntKind.i64.wrap (i + (1 : Int))))], objs := [], nx := 0 } else none else K (.exit 0) { slots := [(5, .int .u32 x), (11, .vl (Ty.int IntKind.u8) b), (12, .int .i64 n), (13, .int .i64 i)], objs := [], nx := 0 } := by kernel_rfl
def rcrcinSt (v : BitVec 32) (b : List Int) (i k : Int) : St := ⟨[(1, .vl u8T b), (5, .int .u32 (v.toNat : Int)), (6, .int .i64 i), (7, .int .i64 k)], [], 0⟩
theorem rcrcin_loop {R : Type} (b : List Int) (i : Int) (K : Ex → St → Option R) : ∀ (m k : Nat) (v : BitVec 32), k + m = 8 → rounds (env []) H.f31 0 (LPof []) V.f31_7 L.f31_7 (m + 1) (rcrcinSt v b i k) K = K (.exit 2) (rcrcinSt (itB m v) b i 8)
  | 0, k, v, h => by
    obtain rfl : k = 8 := by omega
    rw [rounds_succ']
    refine (rcrcin_rd _ _ _ _ _).trans ?_
    rw [cond_neg (by omega)]
    rfl
  | m + 1, k, v, h => by
    have ih := rcrcin_loop b i K m (k + 1) (bitB v) (by omega)
    rw [rounds_succ']
    refine (rcrcin_rd _ _ _ _ _).trans ?_
    rw [cond_pos (by omega), bit_ref1, bit_ref2, fdiv_bv, wrap64 (by omega) (by omega)]
    unfold bitB at ih
    rw [show itB (m + 1) v = itB m (bitB v) from rfl]
    unfold bitB
    cases hv : v.getLsbD 0 with
    | true => simp only [hv, cond_true] at ih; exact ih
    | false => simp only [hv, cond_false] at ih; exact ih
abbrev rcrcinLC : LoopC := LoopC.of ⟨[(1, .vl u8T), (5, .int .u32), (6, .int .i64), (7, .int .i64)], []⟩ (fun x => decide (x.1.2.2.2.1 = (0 : Int)))
  fun x => [(true, .exit 2, rcrcinSt (itB 8 (BitVec.ofInt 32 x.1.2.1)) x.1.1 x.1.2.2.1 8)]
theorem rcrcin_go (x : Int) (hx : In .u32 x) (b : List Int) (i : Int) : ∃ m, rounds (env []) H.f31 0 (LPof []) V.f31_7 L.f31_7 m ⟨[(1, .vl u8T b), (5, .int .u32 x), (6, .int .i64 i), (7, .int .i64 0)], [], 0⟩ (fun e s => some (e, s)) =
    some (.exit 2, rcrcinSt (itB 8 (BitVec.ofInt 32 x)) b i 8) := by
  obtain ⟨v, rfl⟩ := u32_bv hx
  rw [ofInt_bv]
  exact ⟨9, rcrcin_loop b i _ 8 0 v (by omega)⟩
theorem rcrcin_lok : LoopOK P0 H.f31 0 L.f31_7 rcrcinLC :=
  loop_ok_of (env_ok env_nil) glob0 mixed0 noLoops V.f31_7 (by decide) fun ⟨⟨b, x, i, k, _⟩, _⟩ h hw => by
    obtain rfl := of_decide_eq_true h
    exact rcrcin_go x hw.1.2.1 b i
theorem rcrc_rd {R : Type} (x : Int) (b : List Int) (i : Int) (K : Ex → St → Option R) : roundK (env []) H.f31 0 (LPof [(7, rcrcinLC)]) V.f31_3 L.f31_3 ⟨[(1, .vl u8T b), (5, .int .u32 x), (6, .int .i64 i)], [], 0⟩ K = bif decide (i < (↑b.length : Int)) then bif decide ((0 : Int) ≤ i) && decide (i < (↑b.length : Int)) then K .normal { slots := [(1, .vl (Ty.int IntKind.u8) b), (5, .int .u32 (↑(itB 8 (BitVec.ofInt 32 (IntKind.u32.wrap (↑(BitVec.ofInt 32 x ^^^ BitVec.ofInt 32 (IntKind.u32.wrap (b.getD i.toNat (0 : Int)))).toNat : Int)))).toNat : Int)), (6, .int .i64 (IntKind.i64.wrap (i + (1 : Int))))], objs := [], nx := 0 } else none else K (.exit 0) { slots := [(1, .vl (Ty.int IntKind.u8) b), (5, .int .u32 x), (6, .int .i64 i)], objs := [], nx := 0 } := by kernel_rfl
theorem u32_byte {c : Int} (h : In .u8 c) : IntKind.u32.wrap c = c := by have := In.u8'.1 h; exact wrap_in (In.u32.2 ⟨by omega, by omega⟩)
theorem drop_one {b r : List Int} {i : Nat} {c : Int} (hr : b.drop i = c :: r) : i < b.length ∧ b.getD i 0 = c ∧ b.drop (i + 1) = r := by
  refine ⟨?_, ?_, ?_⟩
  · have := congrArg List.length hr; simp at this; omega
  · have := congrArg (fun l => l.getD 0 (0 : Int)) hr
    simpa [List.getD_eq_getElem?_getD] using this
  · rw [show b.drop (i + 1) = (b.drop i).drop 1 by rw [List.drop_drop], hr]; rfl
def crcSt (v : BitVec 32) (b : List Int) (i : Nat) : St := ⟨[(5, .int .u32 (v.toNat : Int)), (11, .vl u8T b), (12, .int .i64 b.length), (13, .int .i64 i)], [], 0⟩
theorem crc_rounds {R : Type} (K : Ex → St → Option R) (b : List Int) (hm : b.length ≤ 9223372036854775807) : ∀ (r : List Int) (i : Nat) (v : BitVec 32), b.drop i = r → i ≤ b.length → (∀ c ∈ r, In .u8 c) →
    ∃ m, rounds (env []) H.f38 0 (LPof [(7, crcinLC)]) V.f38_3 L.f38_3 m (crcSt v b i) K = K (.exit 0) (crcSt (crcB v r) b b.length)
  | [], i, v, hr, hl, hb => by
    have : i = b.length := by have := congrArg List.length hr; simp at this; omega
    refine ⟨1, ?_⟩
    rw [rounds_succ']
    refine (crc_rd _ _ _ _ _).trans ?_
    rw [cond_neg (by omega), this]
    rfl
  | c :: r, i, v, hr, hl, hb => by
    obtain ⟨h1, h2, h3⟩ := drop_one hr
    obtain ⟨m, hm'⟩ := crc_rounds K b hm r (i + 1) (byteB v c) h3 (by omega) (fun x hx => hb x (List.mem_cons_of_mem _ hx))
    refine ⟨m + 1, ?_⟩
    rw [rounds_succ']
    refine (crc_rd _ _ _ _ _).trans ?_
    rw [cond_pos (by omega), cond_pos2 (by omega) (by omega), Int.toNat_natCast, h2, u32_byte (hb c (by simp)), ofInt_bv, wrap_bv, ofInt_bv, wrap64 (by omega) (by omega)]
    exact hm'
abbrev crcLC : LoopC := LoopC.of ⟨[(5, .int .u32), (11, .vl u8T), (12, .int .i64), (13, .int .i64)], []⟩ (fun x => decide (x.1.2.2.1 = (List.length x.1.2.1 : Int)) && decide (x.1.2.2.2.1 = (0 : Int)))
  fun x => [(true, .exit 0, crcSt (crcB (BitVec.ofInt 32 x.1.1) x.1.2.1) x.1.2.1 (List.length x.1.2.1))]
theorem crc_go (x : Int) (hx : In .u32 x) (b : List Int) (hm : b.length ≤ maxL) (hb : ∀ c ∈ b, In .u8 c) : ∃ m, rounds (env []) H.f38 0 (LPof [(7, crcinLC)]) V.f38_3 L.f38_3 m ⟨[(5, .int .u32 x), (11, .vl u8T b), (12, .int .i64 b.length), (13, .int .i64 0)], [], 0⟩ (fun e s => some (e, s)) =
    some (.exit 0, crcSt (crcB (BitVec.ofInt 32 x) b) b b.length) := by
  obtain ⟨v, rfl⟩ := u32_bv hx
  rw [ofInt_bv]
  exact crc_rounds _ b hm b 0 v rfl (by omega) hb
theorem crcin_lg {R : Type} : LoopsGood P0 H.f38 0 (LPof (R := R) [(7, crcinLC)]) L.f38_3 := loops_good (tab := [(7, crcinLC)]) (by kernel_rfl) (fun x hx => by simp at hx; subst hx; exact crcin_lok)
theorem crc_lok : LoopOK P0 H.f38 0 L.f38_3 crcLC :=
  loop_ok_of (env_ok env_nil) glob0 mixed0 crcin_lg V.f38_3 (by decide) fun ⟨⟨x, b, n, i, _⟩, _⟩ h hw => by
    simp only [Bool.and_eq_true, decide_eq_true_eq] at h
    obtain ⟨rfl, rfl⟩ := h
    exact crc_go x hw.1.1 b hw.1.2.1.1 hw.1.2.1.2
def rcrcSt (v : BitVec 32) (b : List Int) (i : Nat) : St := ⟨[(1, .vl u8T b), (5, .int .u32 (v.toNat : Int)), (6, .int .i64 i)], [], 0⟩
theorem rcrc_rounds {R : Type} (K : Ex → St → Option R) (b : List Int) (hm : b.length ≤ 9223372036854775807) : ∀ (r : List Int) (i : Nat) (v : BitVec 32), b.drop i = r → i ≤ b.length → (∀ c ∈ r, In .u8 c) →
    ∃ m, rounds (env []) H.f31 0 (LPof [(7, rcrcinLC)]) V.f31_3 L.f31_3 m (rcrcSt v b i) K = K (.exit 0) (rcrcSt (crcB v r) b b.length)
  | [], i, v, hr, hl, hb => by
    have : i = b.length := by have := congrArg List.length hr; simp at this; omega
    refine ⟨1, ?_⟩
    rw [rounds_succ']
    refine (rcrc_rd _ _ _ _).trans ?_
    rw [cond_neg (by omega), this]
    rfl
  | c :: r, i, v, hr, hl, hb => by
    obtain ⟨h1, h2, h3⟩ := drop_one hr
    obtain ⟨m, hm'⟩ := rcrc_rounds K b hm r (i + 1) (byteB v c) h3 (by omega) (fun x hx => hb x (List.mem_cons_of_mem _ hx))
    refine ⟨m + 1, ?_⟩
    rw [rounds_succ']
    refine (rcrc_rd _ _ _ _).trans ?_
    rw [cond_pos (by omega), cond_pos2 (by omega) (by omega), Int.toNat_natCast, h2, u32_byte (hb c (by simp)), ofInt_bv, wrap_bv, ofInt_bv, wrap64 (by omega) (by omega)]
    exact hm'
abbrev rcrcLC : LoopC := LoopC.of ⟨[(1, .vl u8T), (5, .int .u32), (6, .int .i64)], []⟩ (fun x => decide (x.1.2.2.1 = (0 : Int)))
  fun x => [(true, .exit 0, rcrcSt (crcB (BitVec.ofInt 32 x.1.2.1) x.1.1) x.1.1 (List.length x.1.1))]
theorem rcrc_go (x : Int) (hx : In .u32 x) (b : List Int) (hm : b.length ≤ maxL) (hb : ∀ c ∈ b, In .u8 c) : ∃ m, rounds (env []) H.f31 0 (LPof [(7, rcrcinLC)]) V.f31_3 L.f31_3 m ⟨[(1, .vl u8T b), (5, .int .u32 x), (6, .int .i64 0)], [], 0⟩ (fun e s => some (e, s)) =
    some (.exit 0, rcrcSt (crcB (BitVec.ofInt 32 x) b) b b.length) := by
  obtain ⟨v, rfl⟩ := u32_bv hx
  rw [ofInt_bv]
  exact rcrc_rounds _ b hm b 0 v rfl (by omega) hb
theorem rcrcin_lg {R : Type} : LoopsGood P0 H.f31 0 (LPof (R := R) [(7, rcrcinLC)]) L.f31_3 := loops_good (tab := [(7, rcrcinLC)]) (by kernel_rfl) (fun x hx => by simp at hx; subst hx; exact rcrcin_lok)
theorem rcrc_lok : LoopOK P0 H.f31 0 L.f31_3 rcrcLC :=
  loop_ok_of (env_ok env_nil) glob0 mixed0 rcrcin_lg V.f31_3 (by decide) fun ⟨⟨b, x, i, _⟩, _⟩ h hw => by
    obtain rfl := of_decide_eq_true h
    exact rcrc_go x hw.1.2.1 b hw.1.1.1 hw.1.1.2
theorem crcm_ev (x : Int) (b : List Int) : evFn (env []) H.f38 (LPof [(3, crcLC)]) F.f38 [.int .u32 x, .vl u8T b] [] (finT [.int .u32]) = bif decide ((↑b.length : Int) = (↑b.length : Int)) && true && true then some (IntKind.u32.wrap (↑(BitVec.ofInt 32 (4294967295 : Int) ^^^ BitVec.ofInt 32 (↑(crcB (BitVec.ofInt 32 (IntKind.u32.wrap (↑(BitVec.ofInt 32 (4294967295 : Int) ^^^ BitVec.ofInt 32 x).toNat : Int))) b).toNat : Int)).toNat : Int), ()) else none := by kernel_rfl
theorem rcrcm_ev (x : Int) (b : List Int) : evFn (env []) H.f31 (LPof [(3, rcrcLC)]) F.f31 [.int .u32 x, .vl u8T b] [] (finT [.int .u32]) = some (IntKind.u32.wrap (↑(BitVec.ofInt 32 (4294967295 : Int) ^^^ BitVec.ofInt 32 (↑(crcB (BitVec.ofInt 32 (IntKind.u32.wrap (↑(BitVec.ofInt 32 (4294967295 : Int) ^^^ BitVec.ofInt 32 x).toNat : Int))) b).toNat : Int)).toNat : Int), ()) := by kernel_rfl
theorem ones_xor (v : BitVec 32) : BitVec.ofInt 32 4294967295 ^^^ v = ~~~ v := by
  rw [show BitVec.ofInt 32 4294967295 = BitVec.allOnes 32 from rfl, BitVec.allOnes_xor]
def caseCrcM : PCase := ⟨[.ty (.int .u32), .ty (.sl u8T)], [.int .u32], fun x => (fun (x : Int) (b : List Int) => [(true, (((~~~ crcB (~~~ BitVec.ofInt 32 x) b).toNat : Int), ()))]) x.1 x.2.1⟩
theorem crcm_val (x : Int) (b : List Int) : evFn (env []) H.f38 (LPof [(3, crcLC)]) F.f38 [.int .u32 x, .vl u8T b] [] (finT [.int .u32]) = some (((~~~ crcB (~~~ BitVec.ofInt 32 x) b).toNat : Int), ()) := by
  rw [crcm_ev]
  simp only [decide_true, Bool.and_true, cond_true, ones_xor, wrap_bv, ofInt_bv]
theorem crcm_ok : caseCrcM.ok P0 I.f38 := case_ok2 (H := H.f38) (E := env []) (env_ok env_nil) glob0 mixed0 G.f38 Bd.f38 (by kernel_rfl) (loops_good (tab := [(3, crcLC)]) (by kernel_rfl) (fun x hx => by simp at hx; subst hx; exact crc_lok)) fun ⟨x, b, ()⟩ y h hw => by
  obtain ⟨hc, rfl⟩ := pick_pre h
  exact crcm_val x b
def caseRcrcM : PCase := ⟨[.ty (.int .u32), .ty (.sl u8T)], [.int .u32], fun x => (fun (x : Int) (b : List Int) => [(true, (((~~~ crcB (~~~ BitVec.ofInt 32 x) b).toNat : Int), ()))]) x.1 x.2.1⟩
theorem rcrcm_val (x : Int) (b : List Int) : evFn (env []) H.f31 (LPof [(3, rcrcLC)]) F.f31 [.int .u32 x, .vl u8T b] [] (finT [.int .u32]) = some (((~~~ crcB (~~~ BitVec.ofInt 32 x) b).toNat : Int), ()) := by
  rw [rcrcm_ev]
  simp only [ones_xor, wrap_bv, ofInt_bv]
theorem rcrcm_ok : caseRcrcM.ok P0 I.f31 := case_ok2 (H := H.f31) (E := env []) (env_ok env_nil) glob0 mixed0 G.f31 Bd.f31 (by kernel_rfl) (loops_good (tab := [(3, rcrcLC)]) (by kernel_rfl) (fun x hx => by simp at hx; subst hx; exact rcrc_lok)) fun ⟨x, b, ()⟩ y h hw => by
  obtain ⟨hc, rfl⟩ := pick_pre h
  exact rcrcm_val x b
noncomputable abbrev consF1 : List (FuncId × Con) := [(I.f38, .pure (pureOf [caseCrcM])), (I.f31, .pure (pureOf [caseRcrcM]))]
theorem consF1_ok : ∀ x ∈ consF1, HoldsC P0 x.1 x.2 := by
  intro x hx
  simp at hx
  rcases hx with rfl | rfl
  · exact ⟨pureOf_holds (by simp; exact crcm_ok), C.f38⟩
  · exact ⟨pureOf_holds (by simp; exact rcrcm_ok), C.f31⟩
theorem crcs_ev (b : List Int) : evFn (env consF1) H.f39 (LPof []) F.f39 [.vl u8T b] [] (finT [.int .u32]) = some ((↑(~~~crcB (~~~BitVec.ofInt 32 (0 : Int)) b).toNat : Int), ()) := by kernel_rfl
theorem rcrcs_ev (b : List Int) : evFn (env consF1) H.f37 (LPof []) F.f37 [.vl u8T b] [] (finT [.int .u32]) = some ((↑(~~~crcB (~~~BitVec.ofInt 32 (0 : Int)) b).toNat : Int), ()) := by kernel_rfl
def sumI (b : List Int) : Int := (sumB b).toNat
theorem sum0 (b : List Int) : ((~~~ crcB (~~~ BitVec.ofInt 32 0) b).toNat : Int) = sumI b := rfl
def caseCrcS : PCase := ⟨[.ty (.sl u8T)], [.int .u32], fun x => (fun (b : List Int) => [(true, (sumI b, ()))]) x.1⟩
theorem crcs_val (b : List Int) : evFn (env consF1) H.f39 (LPof []) F.f39 [.vl u8T b] [] (finT [.int .u32]) = some (sumI b, ()) := by
  rw [crcs_ev, sum0]
theorem crcs_ok : caseCrcS.ok P0 I.f39 := case_ok2 (H := H.f39) (E := env consF1) (env_ok consF1_ok) glob0 mixed0 G.f39 Bd.f39 (by kernel_rfl) noLoops fun ⟨b, ()⟩ y h hw => by
  obtain ⟨hc, rfl⟩ := pick_pre h
  exact crcs_val b
def caseRcrcS : PCase := ⟨[.ty (.sl u8T)], [.int .u32], fun x => (fun (b : List Int) => [(true, (sumI b, ()))]) x.1⟩
theorem rcrcs_val (b : List Int) : evFn (env consF1) H.f37 (LPof []) F.f37 [.vl u8T b] [] (finT [.int .u32]) = some (sumI b, ()) := by
  rw [rcrcs_ev, sum0]
theorem rcrcs_ok : caseRcrcS.ok P0 I.f37 := case_ok2 (H := H.f37) (E := env consF1) (env_ok consF1_ok) glob0 mixed0 G.f37 Bd.f37 (by kernel_rfl) noLoops fun ⟨b, ()⟩ y h hw => by
  obtain ⟨hc, rfl⟩ := pick_pre h
  exact rcrcs_val b
theorem writ_ev (x : Int) : evFn (env []) H.f41 (LPof []) F.f41 [.int .u32 x] [] (finT [.sl u8T]) = some ([IntKind.u8.wrap (x.fdiv (16777216 : Int)), IntKind.u8.wrap (x.fdiv (65536 : Int)), IntKind.u8.wrap (x.fdiv (256 : Int)), IntKind.u8.wrap x], ()) := by kernel_rfl
def writI (x : Int) : List Int := [IntKind.u8.wrap (x.fdiv 16777216), IntKind.u8.wrap (x.fdiv 65536), IntKind.u8.wrap (x.fdiv 256), IntKind.u8.wrap x]
def caseWrit : PCase := ⟨[.ty (.int .u32)], [.sl u8T], fun x => (fun (x : Int) => [(true, (writI x, ()))]) x.1⟩
theorem writ_val (x : Int) : evFn (env []) H.f41 (LPof []) F.f41 [.int .u32 x] [] (finT [.sl u8T]) = some (writI x, ()) := by
  exact writ_ev x
theorem writ_ok : caseWrit.ok P0 I.f41 := case_ok2 (H := H.f41) (E := env []) (env_ok env_nil) glob0 mixed0 G.f41 Bd.f41 (by kernel_rfl) noLoops fun ⟨x, ()⟩ y h hw => by
  obtain ⟨hc, rfl⟩ := pick_pre h
  exact writ_val x
theorem rput_rd {R : Type} (x : Int) (o : List Int) (K : Ex → St → Option R) : roundK (env []) H.f32 0 (LPof []) V.f32_2 L.f32_2 ⟨[(0, .hw 0), (1, .int .u64 x)], [(0, .arr 1 (.int .u8) o [])], 1⟩ K = bif decide (x > (127 : Int)) then bif decide ((o ++ [IntKind.u8.wrap (↑(BitVec.ofInt 8 (IntKind.u8.wrap (IntKind.u64.wrap (↑(BitVec.ofInt 64 x &&& BitVec.ofInt 64 (127 : Int)).toNat : Int))) ||| BitVec.ofInt 8 (128 : Int)).toNat : Int)]).length * 1 ≤ 140737488355328) then K .normal { slots := [(0, .hw 0), (1, .int IntKind.u64 (x.fdiv (128 : Int)))], objs := [(0, .arr 1 (Ty.int IntKind.u8) (o ++ [IntKind.u8.wrap (↑(BitVec.ofInt 8 (IntKind.u8.wrap (IntKind.u64.wrap (↑(BitVec.ofInt 64 x &&& BitVec.ofInt 64 (127 : Int)).toNat : Int))) ||| BitVec.ofInt 8 (128 : Int)).toNat : Int)]) [])], nx := 1 } else none else K (.exit 0) { slots := [(0, .hw 0), (1, .int IntKind.u64 x)], objs := [(0, .arr 1 (Ty.int IntKind.u8) o [])], nx := 1 } := by kernel_rfl
theorem put_byte7 {x : Int} (h : 0 ≤ x) : IntKind.u8.wrap (((BitVec.ofInt 8 (IntKind.u8.wrap (IntKind.u64.wrap (((BitVec.ofInt 64 x &&& BitVec.ofInt 64 127).toNat : Nat) : Int))) ||| BitVec.ofInt 8 128).toNat : Nat) : Int) = ((x.toNat % 128 + 128 : Nat) : Int) := by
  have e : (BitVec.ofInt 64 x &&& BitVec.ofInt 64 127).toNat = x.toNat % 128 := by
    rw [BitVec.toNat_and, show (BitVec.ofInt 64 127).toNat = 2 ^ 7 - 1 by rfl, Nat.and_two_pow_sub_one_eq_mod, BitVec.toNat_ofInt]
    omega
  have e2 : IntKind.u64.wrap ((x.toNat % 128 : Nat) : Int) = ((x.toNat % 128 : Nat) : Int) := by rw [wrapu64_mod]; omega
  rw [e, e2, put_byte (by omega), Int.toNat_natCast]
  omega
def rputSt (x : Int) (o : List Int) : St := ⟨[(0, .hw 0), (1, .int .u64 x)], [(0, .arr 1 (.int .u8) o [])], 1⟩
theorem rput_rounds {R : Type} (K : Ex → St → Option R) : ∀ (n : Nat) (o : List Int), o.length + (preN n).length < 140737488355328 →
    ∃ m, rounds (env []) H.f32 0 (LPof []) V.f32_2 L.f32_2 m (rputSt n o) K = K (.exit 0) (rputSt (lastN n) (o ++ preN n)) := by
  intro n
  induction n using Nat.strongRecOn with
  | ind n ih =>
    intro o ho
    by_cases h : n < 128
    · refine ⟨1, ?_⟩
      rw [rounds_succ']
      refine (rput_rd _ _ _).trans ?_
      rw [cond_neg (by omega), lastN_lt h, preN_lt h, List.append_nil]
      rfl
    · rw [preN_ge h, List.length_cons] at ho
      obtain ⟨m, hm⟩ := ih (n / 128) (by omega) (o ++ [((n % 128 + 128 : Nat) : Int)]) (by simp only [List.length_append, List.length_cons, List.length_nil]; omega)
      refine ⟨m + 1, ?_⟩
      rw [rounds_succ']
      refine (rput_rd _ _ _).trans ?_
      have e1 := put_byte7 (x := (n : Int)) (by omega)
      have e2 := fdiv128 (x := (n : Int)) (by omega)
      rw [Int.toNat_natCast] at e1 e2
      rw [cond_pos (by omega), e1, e2, cond_pos (by simp only [List.length_append, List.length_cons, List.length_nil]; omega), lastN_ge h, preN_ge h]
      refine Eq.trans hm ?_
      rw [List.append_assoc]
      rfl
abbrev rputLC : LoopC := LoopC.of ⟨[(0, .lit (.hw 0)), (1, .int .u64)], [.arr 1 (.int .u8) []]⟩ (fun x => decide (x.2.1.1.length ≤ 140737488355000))
    fun x => [(true, .exit 0, rputSt (lastN x.1.2.1.toNat) (x.2.1.1 ++ preN x.1.2.1.toNat))]
theorem rput_go (x : Int) (o : List Int) (h : o.length ≤ 140737488355000) (hx : In .u64 x) : ∃ n, rounds (env []) H.f32 0 (LPof []) V.f32_2 L.f32_2 n (rputSt x o) (fun e s => some (e, s)) = some (.exit 0, rputSt (lastN x.toNat) (o ++ preN x.toNat)) := by
  have hx := In.u64.1 hx
  have h9 := preN_len9 (n := x.toNat) (by omega)
  obtain ⟨m, hm⟩ := rput_rounds (fun e s => some (e, s)) x.toNat o (by omega)
  have e : ((x.toNat : Nat) : Int) = x := by omega
  rw [e] at hm
  exact ⟨m, hm⟩
theorem rput_lok : LoopOK P0 H.f32 0 L.f32_2 rputLC :=
  loop_ok_of (env_ok env_nil) glob0 mixed0 noLoops V.f32_2 (by decide) fun ⟨⟨_, x, _⟩, ⟨⟨o, _⟩, _⟩⟩ h hw => rput_go x o (of_decide_eq_true h) hw.1.2.1
theorem rput_ev (b : List Int) (x : Int) : evFn (env []) H.f32 (LPof [(2, rputLC)]) F.f32 [.vl u8T b, .int .u64 x] [] (finV (.lit (.hw 0)) [.arr 1 u8T []] 0) = bif decide (b.length * 1 ≤ 140737488355328) then bif decide (b.length ≤ 140737488355000) && true then bif decide ((b ++ preN x.toNat ++ [IntKind.u8.wrap (↑(lastN x.toNat) : Int)]).length * 1 ≤ 140737488355328) then some ((), (b ++ preN x.toNat ++ [IntKind.u8.wrap (↑(lastN x.toNat) : Int)], ()), ()) else none else none else none := by kernel_rfl
def caseRput : VCase := ⟨[.vl u8T, .int .u64], [], .lit (.hw 0), [.arr 1 u8T []], fun ⟨b, x, ()⟩ () => [(decide (b.length ≤ 140737488355000), ((), ((b ++ putN x.toNat, ()), ())))]⟩
theorem rput_val (b : List Int) (x : Int) (hc : (decide (b.length ≤ 140737488355000)) = true) (hx : In .u64 x) : evFn (env []) H.f32 (LPof [(2, rputLC)]) F.f32 [.vl u8T b, .int .u64 x] [] (finV (.lit (.hw 0)) [.arr 1 u8T []] 0) = some ((), ((b ++ putN x.toNat, ()), ())) := by
  have hb := of_decide_eq_true hc
  have h9 := preN_len9 (n := x.toNat) (by have := (In.u64.1 hx).2; have := (In.u64.1 hx).1; omega)
  rw [rput_ev, cond_pos (by omega), hc, Bool.true_and, cond_true, cond_pos (by simp only [List.length_append, List.length_cons, List.length_nil]; omega), lastN_byte, List.append_assoc]
  rfl
theorem rput_ok : caseRput.e.ok P0 I.f32 := vcase_ok (c := caseRput) (H := H.f32) (E := env []) (env_ok env_nil) glob0 mixed0 G.f32 Bd.f32 (by kernel_rfl) (loops_good (tab := [(2, rputLC)]) (by kernel_rfl) (fun x hx => by simp at hx; subst hx; exact rput_lok)) fun ⟨b, x, ()⟩ () r h hw1 hw2 => by
  obtain ⟨hc, rfl⟩ := pick_pre h
  exact rput_val b x hc hw1.2.1
noncomputable abbrev consF2 : List (FuncId × Con) := [(I.f39, .pure (pureOf [caseCrcS])), (I.f37, .pure (pureOf [caseRcrcS])), (I.f41, .pure (pureOf [caseWrit])), (I.f32, .eff (effOf [caseRput.e])), (I.f80, .eff (effOf [caseVput.e]))]
theorem consF2_ok : ∀ x ∈ consF2, HoldsC P0 x.1 x.2 := by
  intro x hx
  simp at hx
  rcases hx with rfl | rfl | rfl | rfl | rfl
  · exact ⟨pureOf_holds (by simp; exact crcs_ok), C.f39⟩
  · exact ⟨pureOf_holds (by simp; exact rcrcs_ok), C.f37⟩
  · exact ⟨pureOf_holds (by simp; exact writ_ok), C.f41⟩
  · exact ⟨fun args objs r objs2 h _ => effOf_holds (by simp; exact rput_ok) args objs r objs2 h, C.f32⟩
  · exact ⟨fun args objs r objs2 h _ => effOf_holds (by simp; exact vput_ok) args objs r objs2 h, C.f80⟩
theorem fput_ev (b p : List Int) : evFn (env consF2) H.f40 (LPof []) F.f40 [.vl u8T b, .vl u8T p] [] (finT [.sl u8T]) = bif decide (b.length ≤ 140737488355000) then bif decide ((b ++ putN (IntKind.u64.wrap (↑p.length : Int)).toNat ++ writI (sumI p)).length * 1 ≤ 140737488355328) then bif decide ((b ++ putN (IntKind.u64.wrap (↑p.length : Int)).toNat ++ writI (sumI p) ++ p).length * 1 ≤ 140737488355328) then some (b ++ putN (IntKind.u64.wrap (↑p.length : Int)).toNat ++ writI (sumI p) ++ p, ()) else none else none else none := by kernel_rfl
theorem rfput_ev (b p : List Int) : evFn (env consF2) H.f33 (LPof []) F.f33 [.vl u8T b, .vl u8T p] [] (finT [.sl u8T]) = bif decide (b.length ≤ 140737488355000) then bif decide ((b ++ putN (IntKind.u64.wrap (↑p.length : Int)).toNat ++ [IntKind.u8.wrap ((sumI p).fdiv (16777216 : Int)), IntKind.u8.wrap ((sumI p).fdiv (65536 : Int)), IntKind.u8.wrap ((sumI p).fdiv (256 : Int)), IntKind.u8.wrap (sumI p)]).length * 1 ≤ 140737488355328) then bif decide ((b ++ putN (IntKind.u64.wrap (↑p.length : Int)).toNat ++ [IntKind.u8.wrap ((sumI p).fdiv (16777216 : Int)), IntKind.u8.wrap ((sumI p).fdiv (65536 : Int)), IntKind.u8.wrap ((sumI p).fdiv (256 : Int)), IntKind.u8.wrap (sumI p)] ++ p).length * 1 ≤ 140737488355328) then some (b ++ putN (IntKind.u64.wrap (↑p.length : Int)).toNat ++ [IntKind.u8.wrap ((sumI p).fdiv (16777216 : Int)), IntKind.u8.wrap ((sumI p).fdiv (65536 : Int)), IntKind.u8.wrap ((sumI p).fdiv (256 : Int)), IntKind.u8.wrap (sumI p)] ++ p, ()) else none else none else none := by kernel_rfl
def frameE (p : List Int) : List Int := putN p.length ++ writI (sumI p) ++ p
theorem writI_len (x : Int) : (writI x).length = 4 := rfl
def caseFput : PCase := ⟨[.ty (.sl u8T), .ty (.sl u8T)], [.sl u8T], fun x => (fun (b p : List Int) => [(decide (b.length + p.length ≤ 140737488350000), (b ++ frameE p, ()))]) x.1 x.2.1⟩
theorem fput_val (b p : List Int) (hc : (decide (b.length + p.length ≤ 140737488350000)) = true) : evFn (env consF2) H.f40 (LPof []) F.f40 [.vl u8T b, .vl u8T p] [] (finT [.sl u8T]) = some (b ++ frameE p, ()) := by
  have h := of_decide_eq_true hc
  have h9 := putN_len (n := p.length) (by omega)
  rw [fput_ev, wrapu64 (by omega) (by omega), Int.toNat_natCast, cond_pos (by omega), cond_pos (by simp only [List.length_append, writI_len]; omega), cond_pos (by simp only [List.length_append, writI_len]; omega)]
  unfold frameE
  simp only [List.append_assoc]
theorem fput_ok : caseFput.ok P0 I.f40 := case_ok2 (H := H.f40) (E := env consF2) (env_ok consF2_ok) glob0 mixed0 G.f40 Bd.f40 (by kernel_rfl) noLoops fun ⟨b, p, ()⟩ y h hw => by
  obtain ⟨hc, rfl⟩ := pick_pre h
  exact fput_val b p hc
def caseRfput : PCase := ⟨[.ty (.sl u8T), .ty (.sl u8T)], [.sl u8T], fun x => (fun (b p : List Int) => [(decide (b.length + p.length ≤ 140737488350000), (b ++ frameE p, ()))]) x.1 x.2.1⟩
theorem rfput_val (b p : List Int) (hc : (decide (b.length + p.length ≤ 140737488350000)) = true) : evFn (env consF2) H.f33 (LPof []) F.f33 [.vl u8T b, .vl u8T p] [] (finT [.sl u8T]) = some (b ++ frameE p, ()) := by
  have h := of_decide_eq_true hc
  have h9 := putN_len (n := p.length) (by omega)
  rw [rfput_ev, wrapu64 (by omega) (by omega), Int.toNat_natCast]
  have e : [IntKind.u8.wrap ((sumI p).fdiv 16777216), IntKind.u8.wrap ((sumI p).fdiv 65536), IntKind.u8.wrap ((sumI p).fdiv 256), IntKind.u8.wrap (sumI p)] = writI (sumI p) := rfl
  rw [e, cond_pos (by omega), cond_pos (by simp only [List.length_append, writI_len]; omega), cond_pos (by simp only [List.length_append, writI_len]; omega)]
  unfold frameE
  simp only [List.append_assoc]
theorem rfput_ok : caseRfput.ok P0 I.f33 := case_ok2 (H := H.f33) (E := env consF2) (env_ok consF2_ok) glob0 mixed0 G.f33 Bd.f33 (by kernel_rfl) noLoops fun ⟨b, p, ()⟩ y h hw => by
  obtain ⟨hc, rfl⟩ := pick_pre h
  exact rfput_val b p hc
end Go.Sim
namespace Go.Sim
set_option linter.unusedSimpArgs false
set_option linter.unusedVariables false
set_option maxRecDepth 10000
noncomputable abbrev consR1 : List (FuncId × Con) := [(I.f43, .pure (pureOf [caseRecright])), (I.f80, .eff (effOf [caseVput.e])), (I.f79, .pure (pureOf [caseFold]))]
theorem consR1_ok : ∀ x ∈ consR1, HoldsC P0 x.1 x.2 := by
  intro x hx
  simp at hx
  rcases hx with rfl | rfl | rfl
  · exact ⟨pureOf_holds (by simp; exact recright_ok), C.f43⟩
  · exact ⟨fun args objs r objs2 h _ => effOf_holds (by simp; exact vput_ok) args objs r objs2 h, C.f80⟩
  · exact ⟨pureOf_holds (by simp; exact vfold_ok), C.f79⟩
theorem recput_ev (b : List Int) (r : Rec) : evFn (env consR1) H.f42 (LPof []) F.f42 [.vl u8T b, valOf recT r] [] (finV (.lit (.hw 0)) [.arr 1 u8T []] 0) = bif decide (b.length * 1 ≤ 140737488355328) then bif !recR r then some ((), (b, ()), ()) else bif decide (b.length ≤ 140737488355000) then bif decide (List.length (b ++ putN (IntKind.u64.wrap r.1).toNat) ≤ 140737488355000) then bif r.2.2.2.2 then bif decide ((b ++ putN (IntKind.u64.wrap r.1).toNat ++ putN (foldV r.2.1).toNat ++ [(1 : Int)]).length * 1 ≤ 140737488355328) then bif decide ((b ++ putN (IntKind.u64.wrap r.1).toNat ++ putN (foldV r.2.1).toNat ++ [(1 : Int)]).length ≤ 140737488355000) then bif decide ((b ++ putN (IntKind.u64.wrap r.1).toNat ++ putN (foldV r.2.1).toNat ++ [(1 : Int)] ++ putN (IntKind.u64.wrap (↑(List.length r.2.2.1) : Int)).toNat ++ bytesOf r.2.2.1).length * 1 ≤ 140737488355328) then bif decide ((b ++ putN (IntKind.u64.wrap r.1).toNat ++ putN (foldV r.2.1).toNat ++ [(1 : Int)] ++ putN (IntKind.u64.wrap (↑(List.length r.2.2.1) : Int)).toNat ++ bytesOf r.2.2.1).length ≤ 140737488355000) then bif decide ((b ++ putN (IntKind.u64.wrap r.1).toNat ++ putN (foldV r.2.1).toNat ++ [(1 : Int)] ++ putN (IntKind.u64.wrap (↑(List.length r.2.2.1) : Int)).toNat ++ bytesOf r.2.2.1 ++ putN (IntKind.u64.wrap (↑(List.length r.2.2.2.1) : Int)).toNat ++ bytesOf r.2.2.2.1).length * 1 ≤ 140737488355328) then some ((), (b ++ putN (IntKind.u64.wrap r.1).toNat ++ putN (foldV r.2.1).toNat ++ [(1 : Int)] ++ putN (IntKind.u64.wrap (↑(List.length r.2.2.1) : Int)).toNat ++ bytesOf r.2.2.1 ++ putN (IntKind.u64.wrap (↑(List.length r.2.2.2.1) : Int)).toNat ++ bytesOf r.2.2.2.1, ()), ()) else none else none else none else none else none else bif decide ((b ++ putN (IntKind.u64.wrap r.1).toNat ++ putN (foldV r.2.1).toNat ++ [(0 : Int)]).length * 1 ≤ 140737488355328) then bif decide ((b ++ putN (IntKind.u64.wrap r.1).toNat ++ putN (foldV r.2.1).toNat ++ [(0 : Int)]).length ≤ 140737488355000) then bif decide ((b ++ putN (IntKind.u64.wrap r.1).toNat ++ putN (foldV r.2.1).toNat ++ [(0 : Int)] ++ putN (IntKind.u64.wrap (↑(List.length r.2.2.1) : Int)).toNat ++ bytesOf r.2.2.1).length * 1 ≤ 140737488355328) then bif decide ((b ++ putN (IntKind.u64.wrap r.1).toNat ++ putN (foldV r.2.1).toNat ++ [(0 : Int)] ++ putN (IntKind.u64.wrap (↑(List.length r.2.2.1) : Int)).toNat ++ bytesOf r.2.2.1).length ≤ 140737488355000) then bif decide ((b ++ putN (IntKind.u64.wrap r.1).toNat ++ putN (foldV r.2.1).toNat ++ [(0 : Int)] ++ putN (IntKind.u64.wrap (↑(List.length r.2.2.1) : Int)).toNat ++ bytesOf r.2.2.1 ++ putN (IntKind.u64.wrap (↑(List.length r.2.2.2.1) : Int)).toNat ++ bytesOf r.2.2.2.1).length * 1 ≤ 140737488355328) then some ((), (b ++ putN (IntKind.u64.wrap r.1).toNat ++ putN (foldV r.2.1).toNat ++ [(0 : Int)] ++ putN (IntKind.u64.wrap (↑(List.length r.2.2.1) : Int)).toNat ++ bytesOf r.2.2.1 ++ putN (IntKind.u64.wrap (↑(List.length r.2.2.2.1) : Int)).toNat ++ bytesOf r.2.2.2.1, ()), ()) else none else none else none else none else none else none else none else none := by kernel_rfl
theorem recput_go (b : List Int) (r : Rec) (hb : b.length ≤ 140737488350000) : evFn (env consR1) H.f42 (LPof []) F.f42 [.vl u8T b, valOf recT r] [] (finV (.lit (.hw 0)) [.arr 1 u8T []] 0) = some ((), ((putR b r, ()), ())) := by
  rw [recput_ev, cond_pos (by omega)]
  unfold putR
  cases hr : recR r with
  | false => rfl
  | true =>
    have hl := encR_len hr
    obtain ⟨o, t, k, v, d⟩ := r
    simp only [recR, Bool.and_eq_true, decide_eq_true_eq] at hr
    obtain ⟨h1, h2, h3, h4, h5, h6, h7, h8⟩ := hr
    have hk : (bytesOf k).length = k.length := by simp [bytesOf]
    have hv : (bytesOf v).length = v.length := by simp [bytesOf]
    have w1 : IntKind.u64.wrap o = o := wrapu64 (by omega) (by omega)
    have w2 : (IntKind.u64.wrap ((List.length k : Nat) : Int)).toNat = List.length k := by rw [wrapu64 (by omega) (by omega)]; omega
    have w3 : (IntKind.u64.wrap ((List.length v : Nat) : Int)).toNat = List.length v := by rw [wrapu64 (by omega) (by omega)]; omega
    simp only [encR, List.length_append, List.length_cons, List.length_nil, hk, hv] at hl
    simp only [w1, w2, w3, Bool.not_true, cond_false, cond_true, encR]
    cases d <;> simp only [cond_true, cond_false, List.append_assoc] <;>
      (repeat rw [cond_pos (by first | omega | (simp only [List.length_append, List.length_cons, List.length_nil, hk, hv]; omega))])
def caseRecput : VCase := ⟨[.vl u8T, .agg [.int .i64, .int .i64, .str, .str, .bool]], [], .lit (.hw 0), [.arr 1 u8T []], fun ⟨b, ⟨o, t, k, v, d, ()⟩, ()⟩ () => [(decide (b.length ≤ 140737488350000), ((), ((putR b (o, t, k, v, d), ()), ())))]⟩
theorem recput_val (b : List Int) (o : Int) (t : Int) (k : List UInt8) (v : List UInt8) (d : Bool) (hc : (decide (b.length ≤ 140737488350000)) = true) : evFn (env consR1) H.f42 (LPof []) F.f42 [.vl u8T b, .agg [.int .i64 o, .int .i64 t, .str k, .str v, .bool d]] [] (finV (.lit (.hw 0)) [.arr 1 u8T []] 0) = some ((), ((putR b (o, t, k, v, d), ()), ())) := by
  exact recput_go b (o, t, k, v, d) (of_decide_eq_true hc)
theorem recput_ok : caseRecput.e.ok P0 I.f42 := vcase_ok (c := caseRecput) (H := H.f42) (E := env consR1) (env_ok consR1_ok) glob0 mixed0 G.f42 Bd.f42 (by kernel_rfl) noLoops fun ⟨b, ⟨o, t, k, v, d, ()⟩, ()⟩ () r h hw1 hw2 => by
  obtain ⟨hc, rfl⟩ := pick_pre h
  exact recput_val b o t k v d hc
def caseRfold : PCase := ⟨[.ty (.int .i64)], [.int .u64], fun x => (fun (n : Int) => [(true, (foldV n, ()))]) x.1⟩
theorem rfold_val (n : Int) (hn : In .i64 n) : evFn (env []) H.f30 (LPof []) F.f30 [.int .i64 n] [] (finT [.int .u64]) = some (foldV n, ()) := by
  have h := In.i64.1 hn
  rw [rfold_ev]
  unfold foldV
  by_cases h0 : n < 0
  · rw [cond_pos h0, wrap64 (n := n + 1) (by omega) (by omega), wrap64 (by omega) (by omega), wrapu64 (n := 0 - (n + 1)) (by omega) (by omega), wrapu64 (n := (0 - (n + 1)) * 2) (by omega) (by omega), wrapu64 (by omega) (by omega)]
    simp only [h0]
    simp
    omega
  · rw [cond_neg h0, wrapu64 (n := n) (by omega) (by omega), wrapu64 (by omega) (by omega)]
    simp only [h0]
    simp
    omega
theorem rfold_ok : caseRfold.ok P0 I.f30 := case_ok2 (H := H.f30) (E := env []) (env_ok env_nil) glob0 mixed0 G.f30 Bd.f30 (by kernel_rfl) noLoops fun ⟨n, ()⟩ y h hw => by
  obtain ⟨hc, rfl⟩ := pick_pre h
  exact rfold_val n hw.1
noncomputable abbrev consR2 : List (FuncId × Con) := [(I.f35, .pure (pureOf [caseRight1])), (I.f32, .eff (effOf [caseRput.e])), (I.f30, .pure (pureOf [caseRfold]))]
theorem consR2_ok : ∀ x ∈ consR2, HoldsC P0 x.1 x.2 := by
  intro x hx
  simp at hx
  rcases hx with rfl | rfl | rfl
  · exact ⟨pureOf_holds (by simp; exact right1_ok), C.f35⟩
  · exact ⟨fun args objs r objs2 h _ => effOf_holds (by simp; exact rput_ok) args objs r objs2 h, C.f32⟩
  · exact ⟨pureOf_holds (by simp; exact rfold_ok), C.f30⟩
def H.rrec2 : Hint := { H.f34 with vs := [11, 16, 29, 38, 4] }
theorem rrecput_ev (b : List Int) (r : Rec) : evFn (env consR2) H.rrec2 (LPof []) F.f34 [.vl u8T b, valOf recT r] [] (finT [.sl u8T]) = bif decide (b.length * 1 ≤ 140737488355328) then bif !recR r then some (b, ()) else bif decide (b.length ≤ 140737488355000) then bif decide (List.length (b ++ putN (IntKind.u64.wrap r.1).toNat) ≤ 140737488355000) then bif r.2.2.2.2 then bif decide ((b ++ putN (IntKind.u64.wrap r.1).toNat ++ putN (foldV r.2.1).toNat ++ [(1 : Int)]).length * 1 ≤ 140737488355328) then bif decide ((b ++ putN (IntKind.u64.wrap r.1).toNat ++ putN (foldV r.2.1).toNat ++ [(1 : Int)]).length ≤ 140737488355000) then bif decide ((b ++ putN (IntKind.u64.wrap r.1).toNat ++ putN (foldV r.2.1).toNat ++ [(1 : Int)] ++ putN (IntKind.u64.wrap (↑(List.length r.2.2.1) : Int)).toNat ++ bytesOf r.2.2.1).length * 1 ≤ 140737488355328) then bif decide ((b ++ putN (IntKind.u64.wrap r.1).toNat ++ putN (foldV r.2.1).toNat ++ [(1 : Int)] ++ putN (IntKind.u64.wrap (↑(List.length r.2.2.1) : Int)).toNat ++ bytesOf r.2.2.1).length ≤ 140737488355000) then bif decide ((b ++ putN (IntKind.u64.wrap r.1).toNat ++ putN (foldV r.2.1).toNat ++ [(1 : Int)] ++ putN (IntKind.u64.wrap (↑(List.length r.2.2.1) : Int)).toNat ++ bytesOf r.2.2.1 ++ putN (IntKind.u64.wrap (↑(List.length r.2.2.2.1) : Int)).toNat ++ bytesOf r.2.2.2.1).length * 1 ≤ 140737488355328) then some (b ++ putN (IntKind.u64.wrap r.1).toNat ++ putN (foldV r.2.1).toNat ++ [(1 : Int)] ++ putN (IntKind.u64.wrap (↑(List.length r.2.2.1) : Int)).toNat ++ bytesOf r.2.2.1 ++ putN (IntKind.u64.wrap (↑(List.length r.2.2.2.1) : Int)).toNat ++ bytesOf r.2.2.2.1, ()) else none else none else none else none else none else bif decide ((b ++ putN (IntKind.u64.wrap r.1).toNat ++ putN (foldV r.2.1).toNat ++ [(0 : Int)]).length * 1 ≤ 140737488355328) then bif decide ((b ++ putN (IntKind.u64.wrap r.1).toNat ++ putN (foldV r.2.1).toNat ++ [(0 : Int)]).length ≤ 140737488355000) then bif decide ((b ++ putN (IntKind.u64.wrap r.1).toNat ++ putN (foldV r.2.1).toNat ++ [(0 : Int)] ++ putN (IntKind.u64.wrap (↑(List.length r.2.2.1) : Int)).toNat ++ bytesOf r.2.2.1).length * 1 ≤ 140737488355328) then bif decide ((b ++ putN (IntKind.u64.wrap r.1).toNat ++ putN (foldV r.2.1).toNat ++ [(0 : Int)] ++ putN (IntKind.u64.wrap (↑(List.length r.2.2.1) : Int)).toNat ++ bytesOf r.2.2.1).length ≤ 140737488355000) then bif decide ((b ++ putN (IntKind.u64.wrap r.1).toNat ++ putN (foldV r.2.1).toNat ++ [(0 : Int)] ++ putN (IntKind.u64.wrap (↑(List.length r.2.2.1) : Int)).toNat ++ bytesOf r.2.2.1 ++ putN (IntKind.u64.wrap (↑(List.length r.2.2.2.1) : Int)).toNat ++ bytesOf r.2.2.2.1).length * 1 ≤ 140737488355328) then some (b ++ putN (IntKind.u64.wrap r.1).toNat ++ putN (foldV r.2.1).toNat ++ [(0 : Int)] ++ putN (IntKind.u64.wrap (↑(List.length r.2.2.1) : Int)).toNat ++ bytesOf r.2.2.1 ++ putN (IntKind.u64.wrap (↑(List.length r.2.2.2.1) : Int)).toNat ++ bytesOf r.2.2.2.1, ()) else none else none else none else none else none else none else none else none := by kernel_rfl
theorem rrecput_go (b : List Int) (r : Rec) (hb : b.length ≤ 140737488350000) : evFn (env consR2) H.rrec2 (LPof []) F.f34 [.vl u8T b, valOf recT r] [] (finT [.sl u8T]) = some (putR b r, ()) := by
  rw [rrecput_ev, cond_pos (by omega)]
  unfold putR
  cases hr : recR r with
  | false => rfl
  | true =>
    have hl := encR_len hr
    obtain ⟨o, t, k, v, d⟩ := r
    simp only [recR, Bool.and_eq_true, decide_eq_true_eq] at hr
    obtain ⟨h1, h2, h3, h4, h5, h6, h7, h8⟩ := hr
    have hk : (bytesOf k).length = k.length := by simp [bytesOf]
    have hv : (bytesOf v).length = v.length := by simp [bytesOf]
    have w1 : IntKind.u64.wrap o = o := wrapu64 (by omega) (by omega)
    have w2 : (IntKind.u64.wrap ((List.length k : Nat) : Int)).toNat = List.length k := by rw [wrapu64 (by omega) (by omega)]; omega
    have w3 : (IntKind.u64.wrap ((List.length v : Nat) : Int)).toNat = List.length v := by rw [wrapu64 (by omega) (by omega)]; omega
    simp only [encR, List.length_append, List.length_cons, List.length_nil, hk, hv] at hl
    simp only [w1, w2, w3, Bool.not_true, cond_false, cond_true, encR]
    cases d <;> simp only [cond_true, cond_false, List.append_assoc] <;>
      (repeat rw [cond_pos (by first | omega | (simp only [List.length_append, List.length_cons, List.length_nil, hk, hv]; omega))])
def caseRrecput : PCase := ⟨[.ty (.sl u8T), .ty recT], [.sl u8T], fun x => [(decide (List.length x.1 ≤ 140737488350000), (putR x.1 x.2.1, ()))]⟩
theorem rrecput_ok : caseRrecput.ok P0 I.f34 := case_ok2 (H := H.rrec2) (E := env consR2) (env_ok consR2_ok) glob0 mixed0 G.f34 Bd.f34 (by kernel_rfl) noLoops fun ⟨b, r, ()⟩ y h hw => by
  obtain ⟨hc, rfl⟩ := pick_pre h
  exact rrecput_go b r (of_decide_eq_true hc)
noncomputable abbrev consB1 : List (FuncId × Con) := [(I.f43, .pure (pureOf [caseRecright])), (I.f42, .eff (effOf [caseRecput.e])), (I.f40, .pure (pureOf [caseFput]))]
theorem consB1_ok : ∀ x ∈ consB1, HoldsC P0 x.1 x.2 := by
  intro x hx
  simp at hx
  rcases hx with rfl | rfl | rfl
  · exact ⟨pureOf_holds (by simp; exact recright_ok), C.f43⟩
  · exact ⟨fun args objs r objs2 h _ => effOf_holds (by simp; exact recput_ok) args objs r objs2 h, C.f42⟩
  · exact ⟨pureOf_holds (by simp; exact fput_ok), C.f40⟩
def H.bytes2 : Hint := { H.f47 with vs := [16, 2] }
theorem sbytes_rd {R : Type} (l : List Rec) (o : List Int) (n i : Int) (K : Ex → St → Option R) : roundK (env consB1) H.bytes2 0 (LPof []) V.f47_3 L.f47_3 ⟨[(3, .hw 0), (6, .vl recT l), (7, .int .i64 n), (8, .int .i64 i)], [(0, .arr 1 u8T o [])], 1⟩ K = bif decide (i < n) then bif decide ((0 : Int) ≤ i) && decide (i < (↑l.length : Int)) then bif recR (l.getD i.toNat recTy.zero) then bif decide (0 + (putR [] (l.getD i.toNat recTy.zero)).length ≤ 140737488350000) then bif decide ((o ++ ([] ++ frameE (putR [] (l.getD i.toNat recTy.zero)))).length * 1 ≤ 140737488355328) then K .normal { slots := [(3, .hw 0), (6, .vl recTy l), (7, .int .i64 n), (8, .int .i64 (IntKind.i64.wrap (i + (1 : Int))))], objs := [(0, .arr 1 (Ty.int IntKind.u8) (o ++ ([] ++ frameE (putR [] (l.getD i.toNat recTy.zero)))) [])], nx := 1 } else none else none else K .normal { slots := [(3, .hw 0), (6, .vl recTy l), (7, .int .i64 n), (8, .int .i64 (IntKind.i64.wrap (i + (1 : Int))))], objs := [(0, .arr 1 (Ty.int IntKind.u8) o [])], nx := 1 } else none else K (.exit 0) { slots := [(3, .hw 0), (6, .vl recTy l), (7, .int .i64 n), (8, .int .i64 i)], objs := [(0, .arr 1 (Ty.int IntKind.u8) o [])], nx := 1 } := by kernel_rfl
noncomputable abbrev consB2 : List (FuncId × Con) := [(I.f35, .pure (pureOf [caseRight1])), (I.f34, .pure (pureOf [caseRrecput])), (I.f33, .pure (pureOf [caseRfput]))]
theorem consB2_ok : ∀ x ∈ consB2, HoldsC P0 x.1 x.2 := by
  intro x hx
  simp at hx
  rcases hx with rfl | rfl | rfl
  · exact ⟨pureOf_holds (by simp; exact right1_ok), C.f35⟩
  · exact ⟨pureOf_holds (by simp; exact rrecput_ok), C.f34⟩
  · exact ⟨pureOf_holds (by simp; exact rfput_ok), C.f33⟩
theorem rbytes_rd {R : Type} (l : List Rec) (o : List Int) (i : Int) (K : Ex → St → Option R) : roundK (env consB2) H.f29 0 (LPof []) V.f29_3 L.f29_3 ⟨[(0, .vl recT l), (3, .hw 0), (4, .int .i64 i)], [(0, .arr 1 u8T o [])], 1⟩ K = bif decide (i < (↑l.length : Int)) then bif decide ((0 : Int) ≤ i) && decide (i < (↑l.length : Int)) then bif recR (l.getD i.toNat recTy.zero) then bif decide ((0 : Int) ≤ i) && decide (i < (↑l.length : Int)) then bif decide (0 + (putR [] (l.getD i.toNat recTy.zero)).length ≤ 140737488350000) then bif decide ((o ++ ([] ++ frameE (putR [] (l.getD i.toNat recTy.zero)))).length * 1 ≤ 140737488355328) then K .normal { slots := [(0, .vl recTy l), (3, .hw 0), (4, .int .i64 (IntKind.i64.wrap (i + (1 : Int))))], objs := [(0, .arr 1 (Ty.int IntKind.u8) (o ++ ([] ++ frameE (putR [] (l.getD i.toNat recTy.zero)))) [])], nx := 1 } else none else none else none else K .normal { slots := [(0, .vl recTy l), (3, .hw 0), (4, .int .i64 (IntKind.i64.wrap (i + (1 : Int))))], objs := [(0, .arr 1 (Ty.int IntKind.u8) o [])], nx := 1 } else none else K (.exit 0) { slots := [(0, .vl recTy l), (3, .hw 0), (4, .int .i64 i)], objs := [(0, .arr 1 (Ty.int IntKind.u8) o [])], nx := 1 } := by kernel_rfl
def frm (r : Rec) : List Int := bif recR r then frameE (encR r) else []
def bytS (l : List Rec) : List Int := (l.map frm).flatten
theorem frm_len (r : Rec) : (frm r).length ≤ 2260 := by
  unfold frm
  cases h : recR r with
  | false => simp
  | true =>
    have h1 := encR_len h
    have h2 := putN_len (n := (encR r).length) (by omega)
    simp only [cond_true, frameE, List.length_append, writI_len]
    omega
theorem bytS_snoc (l : List Rec) (r : Rec) : bytS (l ++ [r]) = bytS l ++ frm r := by unfold bytS; simp
theorem bytS_len (l : List Rec) : (bytS l).length ≤ 2260 * l.length := by
  induction l with
  | nil => simp [bytS]
  | cons r l ih =>
    have h := frm_len r
    have e : bytS (r :: l) = frm r ++ bytS l := by unfold bytS; simp
    rw [e, List.length_append, List.length_cons]
    omega
theorem take_snoc {l : List Rec} {i : Nat} (h : i < l.length) : l.take (i + 1) = l.take i ++ [l.getD i recTy.zero] := by
  rw [List.getD_eq_getElem?_getD, List.getElem?_eq_getElem h, List.take_add_one, List.getElem?_eq_getElem h]
  rfl
theorem bytS_take {l : List Rec} {i : Nat} (h : i < l.length) : bytS (l.take (i + 1)) = bytS (l.take i) ++ frm (l.getD i recTy.zero) := by
  rw [take_snoc h, bytS_snoc]
def sbSt (l : List Rec) (i : Nat) : St := ⟨[(3, .hw 0), (6, .vl recT l), (7, .int .i64 l.length), (8, .int .i64 i)], [(0, .arr 1 u8T (bytS (l.take i)) [])], 1⟩
theorem sb_rounds {R : Type} (l : List Rec) (hl : l.length ≤ 1000000000) (K : Ex → St → Option R) : ∀ (m i : Nat), i + m = l.length → rounds (env consB1) H.bytes2 0 (LPof []) V.f47_3 L.f47_3 (m + 1) (sbSt l i) K = K (.exit 0) (sbSt l l.length)
  | 0, i, h => by
    obtain rfl : i = l.length := by omega
    rw [rounds_succ']
    refine (sbytes_rd _ _ _ _ _).trans ?_
    rw [cond_neg (by omega)]
    rfl
  | m + 1, i, h => by
    have ih := sb_rounds l hl K m (i + 1) (by omega)
    have e1 := bytS_take (l := l) (i := i) (by omega)
    have h1 := frm_len (l.getD i recTy.zero)
    have h2 := bytS_len (l.take (i + 1))
    have h3 : (l.take (i + 1)).length = i + 1 := by simp; omega
    have e3 : IntKind.i64.wrap ((i : Int) + 1) = ((i + 1 : Nat) : Int) := by rw [wrap64 (by omega) (by omega)]; omega
    rw [rounds_succ']
    refine (sbytes_rd _ _ _ _ _).trans ?_
    rw [cond_pos (by omega), cond_pos2 (by omega) (by omega), Int.toNat_natCast, e3]
    unfold frm at e1
    cases hr : recR (l.getD i recTy.zero) with
    | false =>
      rw [hr, cond_false, List.append_nil] at e1
      rw [cond_false]
      have e4 : sbSt l (i + 1) = ⟨[(3, .hw 0), (6, .vl recT l), (7, .int .i64 l.length), (8, .int .i64 (i + 1 : Nat))], [(0, .arr 1 u8T (bytS (l.take i)) [])], 1⟩ := by unfold sbSt; rw [e1]
      rw [e4] at ih
      exact ih
    | true =>
      rw [hr, cond_true] at e1
      have h4 := encR_len hr
      have hp : putR [] (l.getD i recTy.zero) = encR (l.getD i recTy.zero) := by unfold putR; rw [hr]; rfl
      rw [cond_true, hp, List.nil_append, ← e1, cond_pos (by omega), cond_pos (by omega)]
      exact ih
abbrev sbLC : LoopC := LoopC.of ⟨[(3, .lit (.hw 0)), (6, .vl recT), (7, .int .i64), (8, .int .i64)], [.arr 1 u8T []]⟩ (fun x => decide (x.1.2.2.2.1 = (0 : Int)) && decide (x.1.2.2.1 = (List.length x.1.2.1 : Int)) && decide (List.length x.1.2.1 ≤ 1000000000) && List.isEmpty x.2.1.1)
  fun x => [(true, .exit 0, sbSt x.1.2.1 (List.length x.1.2.1))]
theorem sb_lok : LoopOK P0 H.bytes2 0 L.f47_3 sbLC :=
  loop_ok_of (env_ok consB1_ok) glob0 mixed0 noLoops V.f47_3 (by decide) fun ⟨⟨_, l, n, i, _⟩, ⟨⟨o, _⟩, _⟩⟩ h hw => by
    simp only [Bool.and_eq_true, decide_eq_true_eq] at h
    obtain ⟨⟨⟨rfl, rfl⟩, h3⟩, h4⟩ := h
    obtain rfl : o = [] := List.isEmpty_iff.1 h4
    exact ⟨_, sb_rounds l h3 _ l.length 0 (Nat.zero_add _)⟩
theorem sbytes_ev (l : List Rec) : evFn (env consB1) H.bytes2 (LPof [(3, sbLC)]) F.f47 [.vl recT l] [] (finT [.sl u8T]) = bif decide ((↑l.length : Int) = (↑l.length : Int)) && decide (l.length ≤ 1000000000) && true && true then some (bytS (List.take l.length l), ()) else none := by kernel_rfl
def rbSt (l : List Rec) (i : Nat) : St := ⟨[(0, .vl recT l), (3, .hw 0), (4, .int .i64 i)], [(0, .arr 1 u8T (bytS (l.take i)) [])], 1⟩
theorem rb_rounds {R : Type} (l : List Rec) (hl : l.length ≤ 1000000000) (K : Ex → St → Option R) : ∀ (m i : Nat), i + m = l.length → rounds (env consB2) H.f29 0 (LPof []) V.f29_3 L.f29_3 (m + 1) (rbSt l i) K = K (.exit 0) (rbSt l l.length)
  | 0, i, h => by
    obtain rfl : i = l.length := by omega
    rw [rounds_succ']
    refine (rbytes_rd _ _ _ _).trans ?_
    rw [cond_neg (by omega)]
    rfl
  | m + 1, i, h => by
    have ih := rb_rounds l hl K m (i + 1) (by omega)
    have e1 := bytS_take (l := l) (i := i) (by omega)
    have h1 := frm_len (l.getD i recTy.zero)
    have h2 := bytS_len (l.take (i + 1))
    have h3 : (l.take (i + 1)).length = i + 1 := by simp; omega
    have e3 : IntKind.i64.wrap ((i : Int) + 1) = ((i + 1 : Nat) : Int) := by rw [wrap64 (by omega) (by omega)]; omega
    rw [rounds_succ']
    refine (rbytes_rd _ _ _ _).trans ?_
    rw [cond_pos (by omega), cond_pos2 (by omega) (by omega), cond_pos2 (by omega) (by omega), Int.toNat_natCast, e3]
    unfold frm at e1
    cases hr : recR (l.getD i recTy.zero) with
    | false =>
      rw [hr, cond_false, List.append_nil] at e1
      rw [cond_false]
      have e4 : rbSt l (i + 1) = ⟨[(0, .vl recT l), (3, .hw 0), (4, .int .i64 (i + 1 : Nat))], [(0, .arr 1 u8T (bytS (l.take i)) [])], 1⟩ := by unfold rbSt; rw [e1]
      rw [e4] at ih
      exact ih
    | true =>
      rw [hr, cond_true] at e1
      have h4 := encR_len hr
      have hp : putR [] (l.getD i recTy.zero) = encR (l.getD i recTy.zero) := by unfold putR; rw [hr]; rfl
      rw [cond_true, hp, List.nil_append, ← e1, cond_pos (by omega), cond_pos (by omega)]
      exact ih
abbrev rbLC : LoopC := LoopC.of ⟨[(0, .vl recT), (3, .lit (.hw 0)), (4, .int .i64)], [.arr 1 u8T []]⟩ (fun x => decide (x.1.2.2.1 = (0 : Int)) && decide (List.length x.1.1 ≤ 1000000000) && List.isEmpty x.2.1.1)
  fun x => [(true, .exit 0, rbSt x.1.1 (List.length x.1.1))]
theorem rb_lok : LoopOK P0 H.f29 0 L.f29_3 rbLC :=
  loop_ok_of (env_ok consB2_ok) glob0 mixed0 noLoops V.f29_3 (by decide) fun ⟨⟨l, _, i, _⟩, ⟨⟨o, _⟩, _⟩⟩ h hw => by
    simp only [Bool.and_eq_true, decide_eq_true_eq] at h
    obtain ⟨⟨rfl, h3⟩, h4⟩ := h
    obtain rfl : o = [] := List.isEmpty_iff.1 h4
    exact ⟨_, rb_rounds l h3 _ l.length 0 (Nat.zero_add _)⟩
theorem rbytes_ev (l : List Rec) : evFn (env consB2) H.f29 (LPof [(3, rbLC)]) F.f29 [.vl recT l] [] (finT [.sl u8T]) = bif decide (l.length ≤ 1000000000) && true && true then some (bytS (List.take l.length l), ()) else none := by kernel_rfl
def caseSbytes : PCase := ⟨[.ty (.sl recT)], [.sl u8T], fun x => [(decide (List.length x.1 ≤ 1000000000), (bytS x.1, ()))]⟩
theorem sbytes_ok : caseSbytes.ok P0 I.f47 := case_ok2 (H := H.bytes2) (E := env consB1) (env_ok consB1_ok) glob0 mixed0 G.f47 Bd.f47 (by kernel_rfl) (loops_good (tab := [(3, sbLC)]) (by kernel_rfl) (fun x hx => by simp at hx; subst hx; exact sb_lok)) fun ⟨l, ()⟩ y h hw => by
  obtain ⟨hc, rfl⟩ := pick_pre h
  refine (sbytes_ev l).trans ?_
  simp only [hc, decide_true, Bool.and_self, cond_true, List.take_length]
  rfl
def caseRbytes : PCase := ⟨[.ty (.sl recT)], [.sl u8T], fun x => (fun (l : List Rec) => [(decide (List.length l ≤ 1000000000), (bytS l, ()))]) x.1⟩
theorem rbytes_val (l : List Rec) (hc : (decide (List.length l ≤ 1000000000)) = true) : evFn (env consB2) H.f29 (LPof [(3, rbLC)]) F.f29 [.vl recT l] [] (finT [.sl u8T]) = some (bytS l, ()) := by
  rw [rbytes_ev]
  simp only [hc, decide_true, Bool.and_self, cond_true, List.take_length]
theorem rbytes_ok : caseRbytes.ok P0 I.f29 := case_ok2 (H := H.f29) (E := env consB2) (env_ok consB2_ok) glob0 mixed0 G.f29 Bd.f29 (by kernel_rfl) (loops_good (tab := [(3, rbLC)]) (by kernel_rfl) (fun x hx => by simp at hx; subst hx; exact rb_lok)) fun ⟨l, ()⟩ y h hw => by
  obtain ⟨hc, rfl⟩ := pick_pre h
  exact rbytes_val l hc
noncomputable abbrev consB3 : List (FuncId × Con) := [(I.f47, .pure (pureOf [caseSbytes]))]
theorem consB3_ok : ∀ x ∈ consB3, HoldsC P0 x.1 x.2 := by
  intro x hx
  simp at hx
  subst hx
  exact ⟨pureOf_holds (by simp; exact sbytes_ok), C.f47⟩
theorem size_ev (l : List Rec) : evFn (env consB3) H.f71 (LPof []) F.f71 [.vl recT l] [] (finT [.int .i64]) = bif decide (l.length ≤ 1000000000) then some ((↑(bytS l).length : Int), ()) else none := by kernel_rfl
def caseSize : PCase := ⟨[.ty (.sl recT)], [.int .i64], fun x => (fun (l : List Rec) => [(decide (List.length l ≤ 1000000000), (((bytS l).length : Int), ()))]) x.1⟩
theorem size_val (l : List Rec) (hc : (decide (List.length l ≤ 1000000000)) = true) : evFn (env consB3) H.f71 (LPof []) F.f71 [.vl recT l] [] (finT [.int .i64]) = some (((bytS l).length : Int), ()) := by
  rw [size_ev, hc]; rfl
theorem size_ok : caseSize.ok P0 I.f71 := case_ok2 (H := H.f71) (E := env consB3) (env_ok consB3_ok) glob0 mixed0 G.f71 Bd.f71 (by kernel_rfl) noLoops fun ⟨l, ()⟩ y h hw => by
  obtain ⟨hc, rfl⟩ := pick_pre h
  exact size_val l hc
theorem latest_rd {R : Type} (l : List Rec) (t n i : Int) (K : Ex → St → Option R) : roundK (env []) H.f67 0 (LPof []) V.f67_3 L.f67_3 ⟨[(3, .int .i64 t), (6, .vl recT l), (7, .int .i64 n), (8, .int .i64 i)], [], 0⟩ K = bif decide (i < n) then bif decide ((0 : Int) ≤ i) && decide (i < (↑l.length : Int)) then Option.bind (bif i == (0 : Int) then some true else some (decide ((l.getD i.toNat recTy.zero).2.1 > t))) fun v => bif v then K .normal { slots := [(3, .int .i64 (l.getD i.toNat recTy.zero).2.1), (6, .vl recTy l), (7, .int .i64 n), (8, .int .i64 (IntKind.i64.wrap (i + (1 : Int))))], objs := [], nx := 0 } else K .normal { slots := [(3, .int .i64 t), (6, .vl recTy l), (7, .int .i64 n), (8, .int .i64 (IntKind.i64.wrap (i + (1 : Int))))], objs := [], nx := 0 } else none else K (.exit 0) { slots := [(3, .int .i64 t), (6, .vl recTy l), (7, .int .i64 n), (8, .int .i64 i)], objs := [], nx := 0 } := by kernel_rfl
end Go.Sim
