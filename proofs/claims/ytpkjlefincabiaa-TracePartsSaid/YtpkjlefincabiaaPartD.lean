/-
  SimBrw: a call that only looks: rows that lie in objects are told as data while the call lasts. · PlBase: the types of the program's data. · PlTy: the program's kinds of data: records, commands, segments. · PlSch: what searches in lists come to. · PlUtf: runes of a text in plain Lean. · PlWrd: eight bytes at once. · PlTab: the tables of package utf8. · PlVal: right UTF-8 in plain Lean. · PlSkp: plain letters are passed over, many at once. · PlNam: which texts are names, in plain Lean. · PlSvc: what chapters 10 and 21 say of commands and requests, in plain Lean. · WkT1: walks for TraceParts: commands alike, rows put together. · WkT2: walks for TraceParts: trace.One.
-/
import Derived.Test.YtpkjlefincabiaaPartC
namespace Go.Sim
set_option linter.unusedSectionVars false
set_option linter.unusedSimpArgs false
set_option linter.unusedVariables false

def frontE (t e : Ty) (xs : List t.den) : Option (List e.den) :=
  if h : t = e then some (h ▸ xs) else match xs with
    | [] => some []
    | _ :: _ => none
def mapO {α β : Type} (f : α → Option β) : List α → Option (List β)
  | [] => some []
  | a :: r => (f a).bind fun b => (mapO f r).bind fun l => some (b :: l)
def objElems (e : Ty) (f : List AV → Option e.den) : AObj → Option (List e.den)
  | .arr sz t xs tail => cond (Nat.beq sz e.sz) ((frontE t e xs).bind fun a => (mapO f tail).bind fun b => some (a ++ b)) none
  | .log t xs => frontE t e xs
  | _ => none
/-- Cells as data, with what lies in objects. -/
def bdec (get : Nat → AObj) : (t : Ty) → List AV → Option t.den
  | .bool, [.bool b] => some b
  | .int k, [.int k' n] => if k = k' then some n else none
  | .str, [.str s] => some s
  | .sl e, [v] => match v with
    | .hw l => objElems e (bdec get e) (get l)
    | .hs l o n => (objElems e (bdec get e) (get l)).bind fun xs => some ((xs.drop o).take n)
    | .hc l o n _ => (objElems e (bdec get e) (get l)).bind fun xs => some ((xs.drop o).take n)
    | v => asVl e v
  | .pair a b, cs => (bdec get a (cs.take a.sz)).bind fun x => (bdec get b (cs.drop a.sz)).bind fun y => some (x, y)
  | _, _ => none
def bview (get : Nat → AObj) (t : Ty) (v : AV) : Option t.den := cond (aggOk v t.sz) (bdec get t v.cells) none
def bviews (get : Nat → AObj) : (ps : List InP) → List AV → Option (insDen ps)
  | [], [] => some ()
  | .ty t :: r, v :: vs => (bview get t v).bind fun x => (bviews get r vs).bind fun y => some (x, y)
  | _, _ => none
/-- Data that speaks of no memory. -/
def scalT : Ty → Bool
  | .bool => true
  | .int _ => true
  | .str => true
  | .sl _ => false
  | .pair a b => scalT a && scalT b
/-- A pure function's contract, for rows that lie in objects. -/
def brwOf (c : PCase) (args : List AV) (objs : List AObj) : List (Bool × AV × List AObj) :=
  match bviews (fun l => (objs[l]?).getD .dead) c.ins args with
  | some x => mapAlt (fun y => (oneOr (valsOf c.outs y), objs)) (c.f x)
  | none => []

section
variable {P : Program} [Tabs P] {own : Own P} {φ : Nat → Nat} {β : Beta} {w : World}
/-- All that lies there is settled. -/
def phiB (φ : Nat → Nat) (w : World) : Nat → Nat := fun b => max (φ b) (phi0 w b)
theorem phiB_keeps : Keeps φ w (phiB φ w) w := ⟨fun b => Nat.le_max_left _ _, fun _ _ _ _ h => h, fun _ _ h => h, rfl, rfl⟩
theorem phiB_fresh (h : ∀ b, w.heap.size ≤ b → φ b = 0) : ∀ b, w.heap.size ≤ b → phiB φ w b = 0 := fun b hb => by
  unfold phiB phi0
  rw [h b hb, Array.getElem?_eq_none hb]
  rfl
theorem row_of_cells {b o : Nat} {ds : List Value} (h : CellsAt w b o ds) : RowAt (phiB φ w) w b o ds := fun i v hv => by
  have h1 := h i v hv
  refine ⟨h1, Nat.lt_of_lt_of_le (cell_phi0 h1).2.1 (Nat.le_max_right _ _)⟩
theorem frontE_len {t e : Ty} {xs : List t.den} {a : List e.den} (h : frontE t e xs = some a) : a.length = xs.length := by
  unfold frontE at h
  split at h
  · rename_i ht
    subst ht
    simp at h
    subst h; rfl
  · cases xs with
    | nil => simp at h; subst h; rfl
    | cons x xs => cases h
theorem frontE_at {t e : Ty} {xs : List t.den} {a : List e.den} (h : frontE t e xs = some a) {i : Nat} {x : e.den} (hx : a[i]? = some x) : ∃ ht : t = e, xs[i]? = some (ht ▸ x) := by
  unfold frontE at h
  split at h
  · rename_i ht
    subst ht
    simp at h
    subst h
    exact ⟨rfl, hx⟩
  · cases xs with
    | nil => simp at h; subst h; simp at hx
    | cons x xs => cases h
theorem mapO_len {α γ : Type} {f : α → Option γ} : ∀ {l : List α} {r : List γ}, mapO f l = some r → r.length = l.length
  | [], r, h => by simp [mapO] at h; subst h; rfl
  | a :: l, r, h => by
    simp only [mapO] at h
    obtain ⟨b, h1, h⟩ := bind_some h
    obtain ⟨s, h2, h⟩ := bind_some h
    simp at h; subst h
    simp [mapO_len h2]
theorem mapO_at {α γ : Type} {f : α → Option γ} : ∀ {l : List α} {r : List γ}, mapO f l = some r → ∀ {i : Nat} {x : γ}, r[i]? = some x → ∃ a, l[i]? = some a ∧ f a = some x
  | [], r, h, i, x, hx => by simp [mapO] at h; subst h; simp at hx
  | a :: l, r, h, i, x, hx => by
    simp only [mapO] at h
    obtain ⟨b, h1, h⟩ := bind_some h
    obtain ⟨s, h2, h⟩ := bind_some h
    simp at h; subst h
    cases i with
    | zero => simp at hx; subst hx; exact ⟨a, rfl, h1⟩
    | succ i => simpa using mapO_at h2 (i := i) (x := x) (by simpa using hx)
theorem objElems_sound {e : Ty} {f : List AV → Option e.den} {l : Nat} {ob : AObj} {out : List e.den} (h : objElems e f ob = some out) (hrel : ObjRel φ β w l ob)
    (hf : ∀ cs x vs, f cs = some x → VL φ β w cs vs → Vt (phiB φ w) w e x vs) : match β l with
    | none => False
    | some none => out = []
    | some (some p) => (out ≠ [] → p.sz = e.sz) ∧ p.len = out.length ∧ p.len ≤ maxL ∧ ∀ i x, out[i]? = some x → ∃ ds, Vt (phiB φ w) w e x ds ∧ CellsAt w p.block (p.off + i * e.sz) ds := by
  cases ob with
  | arr sz t xs tail =>
    simp only [objElems] at h
    obtain ⟨hsz, h⟩ := cond_none h
    obtain ⟨a, h1, h⟩ := bind_some h
    obtain ⟨b, h2, h⟩ := bind_some h
    simp at h
    subst h
    have hsz : sz = e.sz := Nat.eq_of_beq_eq_true hsz
    have hla := frontE_len h1
    have hlb := mapO_len h2
    rcases hb : β l with _ | (_ | p)
    · simp only [ObjRel, hb] at hrel
    · simp only [ObjRel, hb] at hrel
      obtain ⟨rfl, rfl⟩ := hrel
      simp at hla hlb
      simp [hla, hlb]
    · simp only [ObjRel, hb] at hrel
      obtain ⟨g1, g2, g3, g4, g5, g6, g7, g8, g9, g10⟩ := hrel
      refine ⟨fun _ => g1.trans hsz, by rw [List.length_append, hla, hlb]; exact g3, g4, fun i x hx => ?_⟩
      by_cases hi : i < a.length
      · rw [List.getElem?_append_left hi] at hx
        obtain ⟨ht, hx'⟩ := frontE_at h1 hx
        subst ht
        obtain ⟨ds, d1, d2⟩ := g9 i x hx'
        exact ⟨ds, Vt.keep phiB_keeps _ _ _ d1, by rw [← hsz]; exact d2⟩
      · rw [List.getElem?_append_right (by omega)] at hx
        obtain ⟨c, hc, hfc⟩ := mapO_at h2 hx
        obtain ⟨_, ds, d1, d2⟩ := g10 _ c hc
        refine ⟨ds, hf _ _ _ hfc d1, ?_⟩
        rw [← hsz]
        have : xs.length + (i - a.length) = i := by omega
        rwa [this] at d2
  | log t xs =>
    simp only [objElems] at h
    have hla := frontE_len h
    rcases hb : β l with _ | (_ | p)
    · simp only [ObjRel, hb] at hrel
    · simp only [ObjRel, hb] at hrel
      subst hrel
      simp at hla
      exact hla
    · simp only [ObjRel, hb] at hrel
      obtain ⟨g1, g3, g4, g6, g7, g8, g9⟩ := hrel
      refine ⟨fun hne => ?_, by rw [hla]; exact g3, g4, fun i x hx => ?_⟩
      · obtain ⟨x, hx⟩ : ∃ x, out[0]? = some x := by
          cases out with
          | nil => exact absurd rfl hne
          | cons x r => exact ⟨x, rfl⟩
        obtain ⟨ht, _⟩ := frontE_at h hx
        rw [g1, ht]
      · obtain ⟨ht, hx'⟩ := frontE_at h hx
        subst ht
        obtain ⟨ds, d1, d2⟩ := g9 i x hx'
        exact ⟨ds, Vt.keep phiB_keeps _ _ _ d1, d2⟩
  | _ => cases h
theorem bdec_sound {get : Nat → AObj} (hW : ∀ l, ObjRel φ β w l (get l)) : ∀ (t : Ty) (cs : List AV) (x : t.den) (vs : List Value), bdec get t cs = some x → VL φ β w cs vs → Vt (phiB φ w) w t x vs := by
  intro t
  induction t with
  | bool =>
    intro cs x vs hd hv
    match cs, hd with
    | [.bool b], hd =>
      simp [bdec] at hd
      subst hd
      simp only [VL, V] at hv
      obtain ⟨u, us, rfl, rfl, rfl⟩ := hv
      simp [Vt]
  | int k =>
    intro cs x vs hd hv
    match cs, hd with
    | [.int k' b], hd =>
      simp [bdec] at hd
      obtain ⟨rfl, rfl⟩ := hd
      simp only [VL, V] at hv
      obtain ⟨u, us, rfl, ⟨rfl, h2⟩, rfl⟩ := hv
      exact ⟨rfl, h2⟩
  | str =>
    intro cs x vs hd hv
    match cs, hd with
    | [.str b], hd =>
      simp [bdec] at hd
      subst hd
      simp only [VL, V] at hv
      obtain ⟨u, us, rfl, ⟨rfl, h2⟩, rfl⟩ := hv
      exact ⟨rfl, h2⟩
  | sl e ih =>
    intro cs x vs hd hv
    match cs, hd with
    | [c], hd =>
      simp only [VL] at hv
      obtain ⟨u, us, rfl, hu, rfl⟩ := hv
      have easy : asVl e c = some x → Vt (phiB φ w) w (.sl e) x [u] := fun h => Vt.keep phiB_keeps _ _ _ (asVl_sound h hu)
      have part : ∀ (l o n : Nat), (objElems e (bdec get e) (get l)).bind (fun xs => some ((xs.drop o).take n)) = some x → (n ≤ maxL ∧ match β l with
          | some (some p) => ∃ A cap, u = .slice A n cap ∧ n ≤ cap ∧ o + n ≤ p.len ∧ (cap ≠ 0 → A = some ⟨p.block, p.off + o * p.sz, none⟩)
          | some none => n = 0 ∧ ∃ A, u = .slice A 0 0
          | none => False) → Vt (phiB φ w) w (.sl e) x [u] := fun l o n hd ⟨hn, hu⟩ => by
        obtain ⟨xs, h1, hd⟩ := bind_some hd
        simp at hd
        subst hd
        have hel := objElems_sound h1 (hW l) ih
        rcases hb : β l with _ | (_ | p)
        · rw [hb] at hel; exact hel.elim
        · rw [hb] at hel hu
          obtain ⟨rfl, A, rfl⟩ := hu
          simp only at hel
          subst hel
          simpa using Vt.nilSl e A
        · rw [hb] at hel hu
          obtain ⟨A, cap, rfl, hcap, hon, hA⟩ := hu
          obtain ⟨g1, g2, g3, g4⟩ := hel
          have hlen : ((xs.drop o).take n).length = n := by simp; omega
          show _ ∧ _
          rw [hlen]
          refine ⟨hn, A, cap, rfl, hcap, fun i x hx => ?_⟩
          have hi : i < n := by have := (List.getElem?_eq_some_iff.1 hx).1; omega
          rw [List.getElem?_take_of_lt hi, List.getElem?_drop] at hx
          obtain ⟨ds, d1, d2⟩ := g4 _ x hx
          have hne : xs ≠ [] := fun h => by subst h; simp at hx
          have hps := g1 hne
          refine ⟨_, ds, hA (by omega), rfl, d1, ?_⟩
          have e1 : p.off + o * p.sz + i * e.sz = p.off + (o + i) * e.sz := by rw [hps, Nat.add_mul, Nat.add_assoc]
          show RowAt _ _ p.block (p.off + o * p.sz + i * e.sz) ds
          rw [e1]
          exact row_of_cells d2
      cases c with
      | hw l =>
        simp only [bdec] at hd
        have hel := objElems_sound hd (hW l) ih
        rcases hb : β l with _ | (_ | p)
        · rw [hb] at hel; exact hel.elim
        · rw [hb] at hel
          simp only [V, hb] at hu
          obtain ⟨A, rfl⟩ := hu
          simp only at hel
          subst hel
          exact Vt.nilSl e A
        · rw [hb] at hel
          simp only [V, hb] at hu
          obtain ⟨cap, rfl, hcap, _, _⟩ := hu
          obtain ⟨g1, g2, g3, g4⟩ := hel
          show _ ∧ _
          rw [← g2]
          refine ⟨g3, _, cap, rfl, hcap, fun i x hx => ?_⟩
          obtain ⟨ds, d1, d2⟩ := g4 i x hx
          exact ⟨_, ds, rfl, rfl, d1, row_of_cells d2⟩
      | hs l o n =>
        refine part l o n hd ?_
        simp only [V] at hu
        refine ⟨hu.1, ?_⟩
        rcases hb : β l with _ | (_ | p)
        · rw [hb] at hu; exact hu.2
        · rw [hb] at hu; exact hu.2
        · rw [hb] at hu
          obtain ⟨_, A, cap, h1, h2, h3, h4, h5⟩ := hu
          exact ⟨A, cap, h1, h2, h4, fun h => (h5 h).1⟩
      | hc l o n c =>
        refine part l o n hd ?_
        simp only [V] at hu
        obtain ⟨h1, h2, hu⟩ := hu
        refine ⟨Nat.le_trans h1 h2, ?_⟩
        rcases hb : β l with _ | (_ | p)
        · rw [hb] at hu; exact hu
        · rw [hb] at hu
          obtain ⟨k1, _, k3⟩ := hu
          exact ⟨k1, by
            obtain ⟨A, rfl⟩ := k3
            rename_i k2
            subst k1; subst k2
            exact ⟨A, rfl⟩⟩
        · rw [hb] at hu
          obtain ⟨A, g1, g2, g3⟩ := hu
          exact ⟨A, c, g1, h1, g2, fun h => (g3 h).1⟩
      | _ => exact easy hd
  | pair a b iha ihb =>
    intro cs x vs hd hv
    simp only [bdec] at hd
    obtain ⟨x1, h1, hd⟩ := Option.bind_eq_some_iff.1 hd
    obtain ⟨x2, h2, hd⟩ := Option.bind_eq_some_iff.1 hd
    simp at hd
    subst hd
    exact ⟨vs.take a.sz, vs.drop a.sz, by simp, iha _ _ _ h1 (hv.take _), ihb _ _ _ h2 (hv.drop _)⟩
theorem bdec_nil {get : Nat → AObj} : ∀ t : Ty, bdec get t [] = none := by
  intro t
  induction t with
  | pair a b iha ihb => simp [bdec, iha]
  | _ => rfl
theorem shape_of {c : AV} {u : Value} (h : V φ β w c u) (hne : c ≠ .undef) {vt : Ty} (hlen : u.cells.toList.length = vt.sz) (hc : aggOk c vt.sz = true) : (vt.sz = 1 → u.cells = #[u]) ∧ (1 < vt.sz → u = .agg u.cells) := by
  by_cases ha : ∃ cs, c = .agg cs
  · obtain ⟨cs, rfl⟩ := ha
    simp only [V] at h
    obtain ⟨vs, rfl, _⟩ := h
    have : 1 < vt.sz := by simpa [aggOk, Nat.blt_eq] using hc
    exact ⟨fun e => by omega, fun _ => rfl⟩
  · have hone : u.cells = #[u] := by
      by_cases hu : ∃ vs, u = .agg vs
      · obtain ⟨vs, rfl⟩ := hu
        exfalso
        have key : ∀ c : AV, (∀ cs, c ≠ .agg cs) → c ≠ .undef → ¬ V φ β w c (.agg vs) := by
          intro c hca hcu hV
          cases c with
          | agg cs => exact hca _ rfl
          | undef => exact hcu rfl
          | hw l => rcases hb : β l with _ | (_ | p) <;> simp [V, hb] at hV
          | hs l a n => rcases hb : β l with _ | (_ | p) <;> simp [V, hb] at hV
          | hc l a n c => rcases hb : β l with _ | (_ | p) <;> simp [V, hb] at hV
          | vl t xs => simp only [V, Vt] at hV; obtain ⟨_, A, cap, he, _⟩ := hV; simp at he
          | _ => simp [V] at hV
        exact key c (fun cs e => ha ⟨cs, e⟩) hne h
      · cases u <;> first | rfl | exact absurd ⟨_, rfl⟩ hu
    rw [hone] at hlen
    simp at hlen
    exact ⟨fun _ => hone, fun e => by omega⟩
theorem bview_V {get : Nat → AObj} (hW : ∀ l, ObjRel φ β w l (get l)) {t : Ty} {v : AV} {x : t.den} (h : bview get t v = some x) {u : Value} (hV : V φ β w v u) : V (phiB φ w) β w (valOf t x) u := by
  unfold bview at h
  obtain ⟨h1, h2⟩ := cond_none h
  have hne : v ≠ .undef := fun e => by subst e; simp only [AV.cells] at h2; rw [bdec_nil] at h2; cases h2
  have g1 := bdec_sound hW t _ _ _ h2 (V_cells hV hne)
  obtain ⟨g2, g3⟩ := shape_of hV hne (Vt.length _ _ _ g1) h1
  refine val_whole g1 g2 g3 ?_
  have hl := enc_length t x
  unfold valOf
  cases hb : Nat.blt 1 t.sz with
  | true =>
    have : 1 < t.sz := by simpa [Nat.blt_eq] using hb
    simp only [whole, cond_true]
    match he : enc t x with
    | [] => rfl
    | [c] => rw [he] at hl; simp at hl; omega
    | c :: d :: r => rfl
  | false =>
    have hnl : ¬ 1 < t.sz := by
      intro hh
      have : Nat.blt 1 t.sz = true := by simpa [Nat.blt_eq] using hh
      rw [hb] at this; cases this
    have hpos := sz_pos t
    match he : enc t x with
    | [] => rw [he] at hl; simp at hl; omega
    | [c] => simp [whole]
    | c :: d :: r => rw [he] at hl; simp at hl; omega
theorem bviews_V {get : Nat → AObj} (hW : ∀ l, ObjRel φ β w l (get l)) : ∀ {ps : List InP} {vs : List AV} {x : insDen ps}, bviews get ps vs = some x → ∀ {us : List Value}, VL φ β w vs us → VL (phiB φ w) β w (insMk ps x) us
  | [], [], x, h, us, hV => hV
  | [], _ :: _, x, h, us, hV => by cases h
  | .ty t :: r, [], x, h, us, hV => by cases h
  | .fn _ _ :: r, _, x, h, us, hV => by cases h
  | .ty t :: r, v :: vs, x, h, us, hV => by
    simp only [bviews] at h
    obtain ⟨a, h1, h⟩ := bind_some h
    obtain ⟨b, h2, h⟩ := bind_some h
    simp at h
    subst h
    simp only [VL] at hV
    obtain ⟨u, us', rfl, k1, k2⟩ := hV
    exact .cons (bview_V hW h1 k1) (bviews_V hW h2 k2)

def flatA : AV → Bool
  | .bool _ => true
  | .int _ _ => true
  | .str _ => true
  | _ => false
theorem enc_flat : ∀ (t : Ty) (x : t.den), scalT t = true → ∀ c ∈ enc t x, flatA c = true
  | .bool, x, _, c, hc => by simp [enc] at hc; subst hc; rfl
  | .int k, x, _, c, hc => by simp [enc] at hc; subst hc; rfl
  | .str, x, _, c, hc => by simp [enc] at hc; subst hc; rfl
  | .sl _, x, h, c, hc => by cases h
  | .pair a b, x, h, c, hc => by
    simp only [scalT, Bool.and_eq_true] at h
    simp only [enc, List.mem_append] at hc
    rcases hc with hc | hc
    · exact enc_flat a _ h.1 c hc
    · exact enc_flat b _ h.2 c hc
theorem V_flat {φ2 : Nat → Nat} {β2 : Beta} {w2 : World} {c : AV} {u : Value} (hc : flatA c = true) (h : V φ β w c u) : V φ2 β2 w2 c u := by
  cases c with
  | bool b => exact h
  | int k n => exact h
  | str s => exact h
  | _ => cases hc
theorem VL_flat {φ2 : Nat → Nat} {β2 : Beta} {w2 : World} : ∀ {cs : List AV} {us : List Value}, (∀ c ∈ cs, flatA c = true) → VL φ β w cs us → VL φ2 β2 w2 cs us
  | [], us, _, h => h
  | c :: cs, us, hc, h => by
    simp only [VL] at h ⊢
    obtain ⟨u, us', rfl, h1, h2⟩ := h
    exact ⟨u, us', rfl, V_flat (hc c (by simp)) h1, VL_flat (fun d hd => hc d (List.mem_cons_of_mem _ hd)) h2⟩
theorem valOf_flat {φ2 : Nat → Nat} {β2 : Beta} {w2 : World} {t : Ty} {x : t.den} {u : Value} (ht : scalT t = true) (h : V φ β w (valOf t x) u) : V φ2 β2 w2 (valOf t x) u := by
  have hf := enc_flat t x ht
  unfold valOf at h ⊢
  split at h
  · rename_i c hc
    rw [hc] at hf
    exact V_flat (hf c (by simp)) h
  · simp only [V] at h ⊢
    obtain ⟨vs, rfl, h⟩ := h
    exact ⟨vs, rfl, VL_flat hf h⟩
theorem valsOf_flat {φ2 : Nat → Nat} {β2 : Beta} {w2 : World} : ∀ {ts : List Ty} {x : tysDen ts} {us : List Value}, ts.all scalT = true → VL φ β w (valsOf ts x) us → VL φ2 β2 w2 (valsOf ts x) us
  | [], _, us, _, h => h
  | t :: r, x, us, ht, h => by
    simp only [List.all_cons, Bool.and_eq_true] at ht
    simp only [valsOf, VL] at h ⊢
    obtain ⟨u, us', rfl, h1, h2⟩ := h
    exact ⟨u, us', rfl, valOf_flat ht.1 h1, valsOf_flat ht.2 h2⟩
theorem oneOr_flat {φ2 : Nat → Nat} {β2 : Beta} {w2 : World} {ts : List Ty} {x : tysDen ts} {u : Value} (ht : ts.all scalT = true) (h : V φ β w (oneOr (valsOf ts x)) u) : V φ2 β2 w2 (oneOr (valsOf ts x)) u := by
  cases ts with
  | nil =>
    simp only [valsOf, oneOr, V] at h ⊢
    obtain ⟨vs, rfl, h2⟩ := h
    exact ⟨vs, rfl, h2⟩
  | cons t r =>
    cases r with
    | nil =>
      simp only [List.all_cons, List.all_nil, Bool.and_true] at ht
      exact valOf_flat ht h
    | cons t2 r =>
      simp only [valsOf, oneOr, V] at h ⊢
      obtain ⟨vs, rfl, h2⟩ := h
      exact ⟨vs, rfl, valsOf_flat (ts := t :: t2 :: r) (x := x) ht h2⟩
/-- What a pure function's contract says of rows that lie in objects. -/
theorem brw_holds {n : FuncId} {c : PCase} (h : c.ok P n) (hs : c.outs.all scalT = true) (hcal : Called P n) : HoldsC P n (.eff (brwOf c)) := by
  refine ⟨fun args objs r objs' hp _ => ?_, hcal⟩
  unfold brwOf at hp
  split at hp
  · rename_i x hx
    obtain ⟨y, hy, he⟩ := pick_mapAlt hp
    simp at he
    obtain ⟨rfl, he2⟩ := he
    subst he2
    intro own φ β w vs hV hW hβ
    have hV' := bviews_V hW.rel hx hV
    obtain ⟨objs2, hG⟩ := h x y hy (insMk_wf hV')
    have hfr := phiB_fresh fun b hb => (hW.fresh b hb).2
    refine (hG.pure (insMk_closed _ _) (oneOr_closed (valsOf_closed _ _)) (phiB φ w) β w vs hV' hfr (hW.laid.keep phiB_keeps)).mono fun e w' ⟨v, φ', he, hk, hg, hold, hfr', hVr⟩ => ?_
    have hk2 : Keeps φ w (fun b => if b < w.heap.size then φ b else φ' b) w' := by
      refine ⟨fun b => ?_, fun b o v ho hv => ?_, hk.room, hk.out⟩
      · by_cases hb : b < w.heap.size
        · simp [hb]
        · rw [(hW.fresh b (by omega)).2]; exact Nat.zero_le _
      · exact hk.cell b o v (Nat.lt_of_lt_of_le ho (Nat.le_max_left _ _)) hv
    have hold2 : ∀ b, b < w.heap.size → w'.heap[b]? = w.heap[b]? ∧ (if b < w.heap.size then φ b else φ' b) = φ b := fun b hb => ⟨(hold b hb).1, by simp [hb]⟩
    refine ⟨v, fun b => if b < w.heap.size then φ b else φ' b, β, he, ⟨hk2, fun _ _ => rfl, hg, fun b hb _ => hold2 b hb⟩, oneOr_flat hs hVr, ⟨fun m => ?_, fun m p hm hp => ?_, hW.dist, fun b hb => ⟨(hW.fresh b (by omega)).1, ?_⟩, hW.laid.keep hk2⟩, hβ⟩
    · by_cases hd : (objs'[m]?).getD .dead = .dead
      · rw [hd]; trivial
      · exact (hW.rel m).keep hk2 (.refl _) (fun p hp => hold2 _ (hW.mine m p hd hp).2)
    · have := hW.mine m p hm hp
      exact ⟨this.1, by omega⟩
    · have : ¬ b < w.heap.size := by omega
      simp only [this, if_false]
      exact hfr' b hb
  · cases hp
end
end Go.Sim
namespace Go.Sim
@[reducible] def recTy : Ty := .pair (.int .i64) (.pair (.int .i64) (.pair .str (.pair .str .bool)))
@[reducible] def segTy : Ty := .pair (.int .i64) (.pair (.int .i64) (.pair (.int .i64) (.pair (.int .i64) (.pair (.sl recTy) (.pair .bool (.pair .bool (.pair .bool (.pair (.int .i64) (.int .u32)))))))))
@[reducible] def confTy : Ty := .pair (.int .i64) (.pair (.int .i64) (.pair (.int .i64) (.int .i64)))
abbrev Rec := Int × Int × List UInt8 × List UInt8 × Bool
abbrev Seg := Int × Int × Int × Int × List Rec × Bool × Bool × Bool × Int × Int
abbrev Cnf := Int × Int × Int × Int
end Go.Sim
namespace Go.Sim
abbrev confT : Ty := .pair (.int .i64) (.pair (.int .i64) (.pair (.int .i64) (.int .i64)))
abbrev recT : Ty := .pair (.int .i64) (.pair (.int .i64) (.pair .str (.pair .str .bool)))
abbrev cmdT : Ty := .pair (.int .i64) (.pair (.int .i64) (.pair (.int .i64) (.pair (.sl recT) (.pair .str (.pair (.int .i64) (.pair (.int .i64) (.pair (.int .i64) (.pair (.int .u32) confT))))))))
theorem and_bif {a b : Bool} : (bif a then some b else some false) = some (a && b) := by cases a <;> rfl
theorem or_bif {a b : Bool} : (bif a then some true else some b) = some (a || b) := by cases a <;> rfl
theorem nand_bif {a b : Bool} : (bif a then some false else some b) = some (!a && b) := by cases a <;> rfl
theorem nor_bif {a b : Bool} : (bif a then some b else some true) = some (!a || b) := by cases a <;> rfl
theorem ors_bif {a b x : Bool} : (bif a then some (b || x) else some x) = some (a && b || x) := by cases a <;> cases b <;> rfl
theorem ands_bif {a b x : Bool} : (bif a then some (b && x) else some x) = some ((!a || b) && x) := by cases a <;> cases b <;> rfl
theorem ors2_bif {a b d x : Bool} : (bif a then some (b || (d || x)) else some x) = some (a && (b || d) || x) := by cases a <;> cases b <;> rfl
theorem rf_bif {a b : Bool} {l : List AObj} : (bif a then some (AV.bool false, l) else some (AV.bool b, l)) = some (AV.bool (!a && b), l) := by cases a <;> rfl
theorem rt_bif {a b : Bool} {l : List AObj} : (bif a then some (AV.bool true, l) else some (AV.bool b, l)) = some (AV.bool (a || b), l) := by cases a <;> rfl
theorem ra_bif {a b : Bool} {l : List AObj} : (bif a then some (AV.bool b, l) else some (AV.bool false, l)) = some (AV.bool (a && b), l) := by cases a <;> rfl
theorem ro_bif {a b : Bool} {l : List AObj} : (bif a then some (AV.bool b, l) else some (AV.bool true, l)) = some (AV.bool (!a || b), l) := by cases a <;> rfl
theorem rfu_bif {a b : Bool} : (bif a then some (false, ()) else some (b, ())) = some (!a && b, ()) := by cases a <;> rfl
theorem rtu_bif {a b : Bool} : (bif a then some (true, ()) else some (b, ())) = some (a || b, ()) := by cases a <;> rfl
theorem rau_bif {a b : Bool} : (bif a then some (b, ()) else some (false, ())) = some (a && b, ()) := by cases a <;> rfl
theorem rou_bif {a b : Bool} : (bif a then some (b, ()) else some (true, ())) = some (!a || b, ()) := by cases a <;> rfl
theorem oand_bif {a b x : Bool} : (bif a then some x else some (b && x)) = some ((a || b) && x) := by cases a <;> cases b <;> rfl
theorem sw_bif {x y z : Int} {k : Int} : (bif k == x then some (k == x, ()) else bif k == y then some (k == y, ()) else some (k == z, ())) = some (k == x || (k == y || k == z), ()) := by
  cases hx : k == x <;> cases hy : k == y <;> simp [hx]
theorem sw2_bif {x y : Int} {k : Int} : (bif k == x then some (k == x, ()) else some (k == y, ())) = some (k == x || k == y, ()) := by
  cases hx : k == x <;> simp [hx]
theorem someu_bif {a b c : Bool} : (bif a then some (b, ()) else some (c, ())) = some (bif a then b else c, ()) := by cases a <;> rfl
theorem selfor {a b : Bool} : (bif a then a else b) = (a || b) := by cases a <;> rfl
theorem some_bif {α : Type} {a : Bool} {x y : α} : (bif a then some x else some y) = some (bif a then x else y) := by cases a <;> rfl
abbrev Cmd := Int × Int × Int × List Rec × List UInt8 × Int × Int × Int × Int × Cnf
instance recDec : DecidableEq Rec := inferInstance
instance recsDec : DecidableEq (List Rec) := @instDecidableEqList Rec recDec
instance cmdDec0 : DecidableEq (Int × Int × Cnf) := inferInstance
instance cmdDec1 : DecidableEq (Int × Int × Int × Int × Cnf) := @instDecidableEqProd _ _ _ (@instDecidableEqProd _ _ _ cmdDec0)
instance cmdDec2 : DecidableEq (List UInt8 × Int × Int × Int × Int × Cnf) := @instDecidableEqProd _ _ inferInstance cmdDec1
instance cmdDec3 : DecidableEq (List Rec × List UInt8 × Int × Int × Int × Int × Cnf) := @instDecidableEqProd _ _ recsDec cmdDec2
instance cmdDec : DecidableEq Cmd := @instDecidableEqProd _ _ _ (@instDecidableEqProd _ _ _ (@instDecidableEqProd _ _ _ cmdDec3))
end Go.Sim
namespace Go.Sim
theorem firstFrom_eq {α : Type} [DecidableEq α] {q : α → α → Bool} (hq : ∀ x y, q x y = decide (x = y)) (d : α) {a b : List α} (h : b.length = a.length) : (firstFrom (fun i => !(q (a.getD i d) (b.getD i d))) 0 a.length).isSome = !decide (a = b) := by
  cases hf : firstFrom (fun i => !(q (a.getD i d) (b.getD i d))) 0 a.length with
  | none =>
    have hn := firstFrom_none hf
    have : a = b := List.ext_getElem h.symm fun i h1 h2 => by
      have := hn i (Nat.zero_le _) (by omega)
      simp only [hq, Bool.not_eq_false', decide_eq_true_eq, List.getD_eq_getElem?_getD, List.getElem?_eq_getElem h1, List.getElem?_eq_getElem h2, Option.getD_some] at this
      exact this
    simp [this]
  | some j =>
    obtain ⟨_, h2, h3, _⟩ := firstFrom_spec hf
    have hne : a ≠ b := fun e => by
      subst e
      simp [hq] at h3
    simp [hne]
def recEqB (a b : Rec) : Bool := a.1 == b.1 && (a.2.1 == b.2.1 && (a.2.2.1 == b.2.2.1 && (a.2.2.2.1 == b.2.2.2.1 && (a.2.2.2.2 == b.2.2.2.2 && true))))
theorem recEqB_eq (a b : Rec) : recEqB a b = decide (a = b) := by
  obtain ⟨a1, a2, a3, a4, a5⟩ := a
  obtain ⟨b1, b2, b3, b4, b5⟩ := b
  unfold recEqB
  apply Bool.eq_iff_iff.2
  simp [Prod.ext_iff]
/-- Is a command too great? -/
def bigQ (r : Rec) : Bool := decide (((List.length r.2.2.1 : Nat) : Int) > 250) || decide (((List.length r.2.2.2.1 : Nat) : Int) > 2100)
abbrev atR (q : Rec → Bool) (a : List Rec) (i : Nat) : Bool := q (a.getD i recTy.zero)
def bigC (c : cmdT.den) : Bool := (firstFrom (atR bigQ c.2.2.2.1) 0 (min (List.length c.2.2.2.1) 70)).isSome || (decide (((List.length c.2.2.2.1 : Nat) : Int) > 60) || decide (((List.length c.2.2.2.2.1 : Nat) : Int) > 300))
theorem bigC_small {c : cmdT.den} (h : bigC c = false) : List.length c.2.2.2.1 ≤ 60 ∧ List.length c.2.2.2.2.1 ≤ 300 ∧ ∀ r ∈ c.2.2.2.1, List.length r.2.2.1 ≤ 250 ∧ List.length r.2.2.2.1 ≤ 2100 := by
  unfold bigC at h
  simp only [Bool.or_eq_false_iff, decide_eq_false_iff_not] at h
  obtain ⟨h1, h2, h3⟩ := h
  refine ⟨by omega, by omega, fun r hr => ?_⟩
  rw [Nat.min_eq_left (by omega)] at h1
  have := firstFrom_any0 (q := bigQ) (d := recTy.zero) c.2.2.2.1
  have e : (firstFrom (fun i => bigQ (c.2.2.2.1.getD i recTy.zero)) 0 c.2.2.2.1.length).isSome = false := h1
  rw [e] at this
  have hq := List.any_eq_false.1 this.symm r hr
  unfold bigQ at hq
  simp only [Bool.or_eq_true, decide_eq_true_eq, not_or] at hq
  omega
end Go.Sim
namespace Go.Sim
def bt (l : List UInt8) (k : Nat) : Nat := (l.getD k 0).toNat
def contL (l : List UInt8) (k : Nat) : Bool := decide (k < l.length) && bt l k / 64 == 2
/-- A text's first rune and its length. -/
def dec1 (l : List UInt8) : Nat × Nat :=
  if bt l 0 < 0x80 then (bt l 0, 1)
  else if bt l 0 / 32 == 6 && contL l 1 then
    (if (bt l 0 % 32) * 64 + bt l 1 % 64 ≥ 0x80 then ((bt l 0 % 32) * 64 + bt l 1 % 64, 2) else (0xFFFD, 1))
  else if bt l 0 / 16 == 14 && contL l 1 && contL l 2 then
    (if (bt l 0 % 16) * 4096 + (bt l 1 % 64) * 64 + bt l 2 % 64 ≥ 0x800 && Utf8.valid (((bt l 0 % 16) * 4096 + (bt l 1 % 64) * 64 + bt l 2 % 64 : Nat) : Int) then ((bt l 0 % 16) * 4096 + (bt l 1 % 64) * 64 + bt l 2 % 64, 3) else (0xFFFD, 1))
  else if bt l 0 / 8 == 30 && contL l 1 && contL l 2 && contL l 3 then
    (if (bt l 0 % 8) * 262144 + (bt l 1 % 64) * 4096 + (bt l 2 % 64) * 64 + bt l 3 % 64 ≥ 0x10000 && Utf8.valid (((bt l 0 % 8) * 262144 + (bt l 1 % 64) * 4096 + (bt l 2 % 64) * 64 + bt l 3 % 64 : Nat) : Int) then ((bt l 0 % 8) * 262144 + (bt l 1 % 64) * 4096 + (bt l 2 % 64) * 64 + bt l 3 % 64, 4) else (0xFFFD, 1))
  else (0xFFFD, 1)
theorem get_bt (s : List UInt8) (i k : Nat) : ((⟨s.toArray⟩ : ByteArray).get! (i + k)).toNat = bt (s.drop i) k := by
  unfold bt ByteArray.get!
  rw [List.getD_eq_getElem?_getD, List.getElem?_drop]
  congr 1
  rcases Nat.lt_or_ge (i + k) s.length with h | h
  · simp [h]
  · have h2 : s[i + k]? = none := by simpa using h
    rw [h2]
    simp [h]
    rfl
theorem size_drop (s : List UInt8) (i k : Nat) : decide (i + k < (⟨s.toArray⟩ : ByteArray).size) = decide (k < (s.drop i).length) := by
  apply decide_eq_decide.2
  have : (⟨s.toArray⟩ : ByteArray).size = s.length := by simp [ByteArray.size]
  rw [this, List.length_drop]
  omega
theorem decode_dec1 (s : List UInt8) (pos : Nat) : Utf8.decode ⟨s.toArray⟩ pos = dec1 (s.drop pos) := by
  unfold Utf8.decode dec1
  simp only [size_drop, get_bt, Utf8.runeError, contL]
  rfl
theorem dec1_pos (l : List UInt8) : 1 ≤ (dec1 l).2 := by
  unfold dec1
  repeat' split
  all_goals simp
theorem contL_lt {l : List UInt8} {k : Nat} (h : contL l k = true) : k < l.length := by
  unfold contL at h
  simp only [Bool.and_eq_true, decide_eq_true_eq] at h
  exact h.1
theorem dec1_le (l : List UInt8) (h : l ≠ []) : (dec1 l).2 ≤ l.length := by
  have hl : 1 ≤ l.length := by cases l with | nil => exact absurd rfl h | cons a b => simp
  unfold dec1
  split
  · exact hl
  · split
    · rename_i h2
      simp only [Bool.and_eq_true] at h2
      have := contL_lt h2.2
      split <;> simp <;> omega
    · split
      · rename_i h2
        simp only [Bool.and_eq_true] at h2
        have := contL_lt h2.2
        split <;> simp <;> omega
      · split
        · rename_i h2
          simp only [Bool.and_eq_true] at h2
          have := contL_lt h2.2
          split <;> simp <;> omega
        · exact hl
/-- How many runes there are. -/
def cnt (l : List UInt8) : Nat := if h : l = [] then 0 else cnt (l.drop (dec1 l).2) + 1
termination_by l.length
decreasing_by
  have := dec1_pos l
  have hl : 1 ≤ l.length := by cases l with | nil => exact absurd rfl h | cons a b => simp
  simp
  omega
/-- How many bytes the first n runes have. -/
def cutP (l : List UInt8) (n : Nat) : Nat := match n with
  | 0 => 0
  | n + 1 => if l = [] then 0 else (dec1 l).2 + cutP (l.drop (dec1 l).2) n
theorem cnt_nil : cnt [] = 0 := by rw [cnt]; simp
theorem cnt_cons (l : List UInt8) (h : l ≠ []) : cnt l = cnt (l.drop (dec1 l).2) + 1 := by rw [cnt]; simp [h]
theorem bt_take (l : List UInt8) (m k : Nat) (h : k < m) : bt (l.take m) k = bt l k := by
  unfold bt
  rw [List.getD_eq_getElem?_getD, List.getD_eq_getElem?_getD, List.getElem?_take_of_lt h]
theorem contL_take (l : List UInt8) (m k : Nat) (h : k < m) : contL (l.take m) k = contL l k := by
  unfold contL
  rw [bt_take l m k h]
  congr 1
  apply decide_eq_decide.2
  rw [List.length_take]
  omega
theorem contL_short (l : List UInt8) (m k : Nat) (h : m ≤ k) : contL (l.take m) k = false := by
  unfold contL
  have : ¬ k < (l.take m).length := by rw [List.length_take]; omega
  rw [decide_eq_false this]
  rfl
def decC (p x2 v2 x3 v3 x4 v4 : Bool) (r1 r2 r3 r4 : Nat) : Nat × Nat :=
  bif p then (r1, 1) else bif x2 then (bif v2 then (r2, 2) else (0xFFFD, 1)) else bif x3 then (bif v3 then (r3, 3) else (0xFFFD, 1)) else bif x4 then (bif v4 then (r4, 4) else (0xFFFD, 1)) else (0xFFFD, 1)
theorem decC_3 {p x2 v2 x3 v3 x4 v4 w4 : Bool} {r1 r2 r3 r4 s4 : Nat} (h : (decC p x2 v2 x3 v3 x4 v4 r1 r2 r3 r4).2 ≤ 3) : decC p x2 v2 x3 v3 false w4 r1 r2 r3 s4 = decC p x2 v2 x3 v3 x4 v4 r1 r2 r3 r4 := by
  revert h
  cases p <;> cases x2 <;> cases v2 <;> cases x3 <;> cases v3 <;> cases x4 <;> cases v4 <;> simp [decC]
theorem decC_2 {p x2 v2 x3 v3 x4 v4 w3 w4 : Bool} {r1 r2 r3 r4 s3 s4 : Nat} (h : (decC p x2 v2 x3 v3 x4 v4 r1 r2 r3 r4).2 ≤ 2) : decC p x2 v2 false w3 false w4 r1 r2 s3 s4 = decC p x2 v2 x3 v3 x4 v4 r1 r2 r3 r4 := by
  revert h
  cases p <;> cases x2 <;> cases v2 <;> cases x3 <;> cases v3 <;> cases x4 <;> cases v4 <;> simp [decC]
theorem decC_1 {p x2 v2 x3 v3 x4 v4 w2 w3 w4 : Bool} {r1 r2 r3 r4 s2 s3 s4 : Nat} (h : (decC p x2 v2 x3 v3 x4 v4 r1 r2 r3 r4).2 ≤ 1) : decC p false w2 false w3 false w4 r1 s2 s3 s4 = decC p x2 v2 x3 v3 x4 v4 r1 r2 r3 r4 := by
  revert h
  cases p <;> cases x2 <;> cases v2 <;> cases x3 <;> cases v3 <;> cases x4 <;> cases v4 <;> simp [decC]
theorem ite_cond {α : Type} {c : Prop} [Decidable c] {a b : α} : (if c then a else b) = bif decide c then a else b := by
  by_cases h : c <;> simp [h]
theorem dec1_decC (l : List UInt8) : dec1 l = decC (decide (bt l 0 < 0x80)) (bt l 0 / 32 == 6 && contL l 1) (decide ((bt l 0 % 32) * 64 + bt l 1 % 64 ≥ 0x80)) (bt l 0 / 16 == 14 && contL l 1 && contL l 2)
    (decide ((bt l 0 % 16) * 4096 + (bt l 1 % 64) * 64 + bt l 2 % 64 ≥ 0x800) && Utf8.valid (((bt l 0 % 16) * 4096 + (bt l 1 % 64) * 64 + bt l 2 % 64 : Nat) : Int)) (bt l 0 / 8 == 30 && contL l 1 && contL l 2 && contL l 3)
    (decide ((bt l 0 % 8) * 262144 + (bt l 1 % 64) * 4096 + (bt l 2 % 64) * 64 + bt l 3 % 64 ≥ 0x10000) && Utf8.valid (((bt l 0 % 8) * 262144 + (bt l 1 % 64) * 4096 + (bt l 2 % 64) * 64 + bt l 3 % 64 : Nat) : Int))
    (bt l 0) ((bt l 0 % 32) * 64 + bt l 1 % 64) ((bt l 0 % 16) * 4096 + (bt l 1 % 64) * 64 + bt l 2 % 64) ((bt l 0 % 8) * 262144 + (bt l 1 % 64) * 4096 + (bt l 2 % 64) * 64 + bt l 3 % 64) := by
  unfold dec1 decC
  simp only [ite_cond, Bool.decide_eq_true]
theorem dec1_take (l : List UInt8) (m : Nat) (h0 : 1 ≤ m) (h : (dec1 l).2 ≤ m) : dec1 (l.take m) = dec1 l := by
  have b0 := bt_take l m 0 h0
  rw [dec1_decC] at h
  rw [dec1_decC (l.take m), dec1_decC l]
  rcases Nat.lt_or_ge 3 m with h4 | h4
  · simp only [b0, bt_take l m 1 (by omega), bt_take l m 2 (by omega), bt_take l m 3 (by omega), contL_take l m 1 (by omega), contL_take l m 2 (by omega), contL_take l m 3 (by omega)]
  · have c3 := contL_short l m 3 h4
    rcases Nat.lt_or_ge 2 m with h3 | h3
    · simp only [b0, bt_take l m 1 (by omega), bt_take l m 2 (by omega), contL_take l m 1 (by omega), contL_take l m 2 (by omega), c3, Bool.and_false]
      exact decC_3 (Nat.le_trans h h4)
    · have c2 := contL_short l m 2 h3
      rcases Nat.lt_or_ge 1 m with h2 | h2
      · simp only [b0, bt_take l m 1 (by omega), contL_take l m 1 (by omega), c2, c3, Bool.and_false]
        exact decC_2 (Nat.le_trans h h3)
      · have c1 := contL_short l m 1 h2
        simp only [b0, c1, c2, c3, Bool.and_false]
        exact decC_1 (Nat.le_trans h h2)
/-! ### Cutting -/
theorem cutP_le : ∀ (n : Nat) (l : List UInt8), cutP l n ≤ l.length
  | 0, l => by simp [cutP]
  | n + 1, l => by
    simp only [cutP]
    split
    · simp
    · rename_i h
      have h1 := dec1_le l h
      have h2 := cutP_le n (l.drop (dec1 l).2)
      rw [List.length_drop] at h2
      omega
theorem cnt_split : ∀ (n : Nat) (l : List UInt8), cnt (l.take (cutP l n)) = min n (cnt l) ∧ cnt (l.take (cutP l n)) + cnt (l.drop (cutP l n)) = cnt l
  | 0, l => by simp [cutP, cnt_nil]
  | n + 1, l => by
    simp only [cutP]
    split
    · rename_i h
      subst h
      simp [cnt_nil]
    · rename_i h
      have h1 := dec1_le l h
      have hp := dec1_pos l
      obtain ⟨i1, i2⟩ := cnt_split n (l.drop (dec1 l).2)
      have hd : dec1 (l.take ((dec1 l).2 + cutP (l.drop (dec1 l).2) n)) = dec1 l := dec1_take l _ (by omega) (by omega)
      have hne : l.take ((dec1 l).2 + cutP (l.drop (dec1 l).2) n) ≠ [] := by
        intro e
        have := congrArg List.length e
        simp at this
        rcases this with h' | h'
        · omega
        · exact h h'
      have e1 : cnt (l.take ((dec1 l).2 + cutP (l.drop (dec1 l).2) n)) = cnt ((l.drop (dec1 l).2).take (cutP (l.drop (dec1 l).2) n)) + 1 := by
        rw [cnt_cons _ hne, hd, List.drop_take]
        congr 3
        omega
      have e2 : l.drop ((dec1 l).2 + cutP (l.drop (dec1 l).2) n) = (l.drop (dec1 l).2).drop (cutP (l.drop (dec1 l).2) n) := by rw [List.drop_drop]
      rw [e1, e2, cnt_cons l h]
      omega
/-- What is cut off is cut off again whole. -/
theorem cut_again (n : Nat) (l : List UInt8) : ∀ k, n ≤ k → cutP (l.take (cutP l n)) k = cutP l n := by
  induction n generalizing l with
  | zero => intro k _; cases k <;> simp [cutP]
  | succ n ih =>
    intro k hk
    obtain ⟨k, rfl⟩ : ∃ j, k = j + 1 := ⟨k - 1, by omega⟩
    by_cases h : l = []
    · subst h; simp [cutP]
    · have h1 := dec1_le l h
      have hp := dec1_pos l
      have hc : cutP l (n + 1) = (dec1 l).2 + cutP (l.drop (dec1 l).2) n := by simp [cutP, h]
      rw [hc]
      have hd : dec1 (l.take ((dec1 l).2 + cutP (l.drop (dec1 l).2) n)) = dec1 l := dec1_take l _ (by omega) (by omega)
      have hne : l.take ((dec1 l).2 + cutP (l.drop (dec1 l).2) n) ≠ [] := by
        intro e
        have := congrArg List.length e
        simp at this
        rcases this with h' | h'
        · omega
        · exact h h'
      simp only [cutP, hne, if_false, hd]
      rw [List.drop_take, show (dec1 l).2 + cutP (l.drop (dec1 l).2) n - (dec1 l).2 = cutP (l.drop (dec1 l).2) n by omega, ih _ k (by omega)]
theorem cnt_le : ∀ (m : Nat) (l : List UInt8), l.length ≤ m → cnt l ≤ l.length
  | 0, l, h => by
    have : l = [] := List.length_eq_zero_iff.1 (by omega)
    subst this
    simp [cnt_nil]
  | m + 1, l, h => by
    by_cases hl : l = []
    · subst hl; simp [cnt_nil]
    · have hp := dec1_pos l
      have hle := dec1_le l hl
      have ih := cnt_le m (l.drop (dec1 l).2) (by simp; omega)
      rw [List.length_drop] at ih
      rw [cnt_cons l hl]
      omega
/-! ### Is it one of them? -/
/-- How many bytes there are up to the first rune that is c, it with them. -/
def findF : Nat → List UInt8 → Int → Option Nat
  | 0, _, _ => none
  | m + 1, l, c => bif l.isEmpty then none else bif (((dec1 l).1 : Nat) : Int) == c then some (dec1 l).2 else (findF m (l.drop (dec1 l).2) c).map fun k => (dec1 l).2 + k
def hasR (l : List UInt8) (c : Int) : Bool := (findF l.length l c).isSome
end Go.Sim
namespace Go.Sim
def byB (l : List UInt8) (k : Nat) : BitVec 64 := BitVec.ofNat 64 (bt l k * 256 ^ k)
/-- The first eight bytes as one number. -/
def w8 (l : List UInt8) : BitVec 64 := byB l 0 ||| byB l 1 ||| byB l 2 ||| byB l 3 ||| byB l 4 ||| byB l 5 ||| byB l 6 ||| byB l 7
def m80 : BitVec 64 := BitVec.ofInt 64 9259542123273814144
theorem bt_lt (l : List UInt8) (k : Nat) : bt l k < 256 := UInt8.toNat_lt _
theorem byB_bit (l : List UInt8) (k : Nat) (hk : k < 8) : (byB l k).getLsbD (8 * k + 7) = (bt l k).testBit 7 := by
  unfold byB
  rw [BitVec.getLsbD_ofNat]
  have h1 : decide (8 * k + 7 < 64) = true := decide_eq_true (by omega)
  rw [h1, Bool.true_and, show 256 ^ k = 2 ^ (8 * k) by rw [Nat.pow_mul], Nat.testBit_mul_two_pow]
  simp
theorem m80_bit (k : Nat) (hk : k < 8) : m80.getLsbD (8 * k + 7) = true := by
  have : ∀ k : Fin 8, m80.getLsbD (8 * k.val + 7) = true := by decide
  exact this ⟨k, hk⟩
theorem bit7 (n : Nat) (h : n < 256) (hb : n.testBit 7 = false) : n < 128 := by
  rcases Nat.lt_or_ge n 128 with h' | h'
  · exact h'
  · have : n.testBit 7 = true := by
      rw [Nat.testBit_eq_decide_div_mod_eq]
      have : n / 2 ^ 7 = 1 := by omega
      rw [this]
      rfl
    rw [this] at hb; cases hb
/-- No byte of eight has its highest bit where the mask finds none. -/
theorem w8_low (l : List UInt8) (h : w8 l &&& m80 = 0) : ∀ k, k < 8 → bt l k < 128 := fun k hk => by
  apply bit7 _ (bt_lt l k)
  have h1 := congrArg (fun x : BitVec 64 => x.getLsbD (8 * k + 7)) h
  simp only [BitVec.getLsbD_and, m80_bit k hk, Bool.and_true, w8, BitVec.getLsbD_or] at h1
  have h2 : (0 : BitVec 64).getLsbD (8 * k + 7) = false := by simp
  rw [h2] at h1
  simp only [Bool.or_eq_false_iff] at h1
  have key := byB_bit l k hk
  obtain ⟨⟨⟨⟨⟨⟨⟨a0, a1⟩, a2⟩, a3⟩, a4⟩, a5⟩, a6⟩, a7⟩ := h1
  rw [← key]
  rcases (show k = 0 ∨ k = 1 ∨ k = 2 ∨ k = 3 ∨ k = 4 ∨ k = 5 ∨ k = 6 ∨ k = 7 by omega) with rfl | rfl | rfl | rfl | rfl | rfl | rfl | rfl
  · exact a0
  · exact a1
  · exact a2
  · exact a3
  · exact a4
  · exact a5
  · exact a6
  · exact a7
theorem ofInt_wrap (x : BitVec 64) : BitVec.ofInt 64 (IntKind.u64.wrap (x.toNat : Int)) = x := by
  have := x.isLt
  rw [wrapu64 (by omega) (by omega)]
  simp
theorem wrap_toNat (x : BitVec 64) : IntKind.u64.wrap (x.toNat : Int) = (x.toNat : Int) := by
  have := x.isLt
  exact wrapu64 (by omega) (by omega)
theorem ofInt_byte (l : List UInt8) : BitVec.ofInt 64 (IntKind.u64.wrap (((l.getD 0 0).toNat : Nat) : Int)) = byB l 0 := by
  have := bt_lt l 0
  unfold bt at this
  rw [wrapu64 (by omega) (by omega)]
  unfold byB bt
  simp
theorem ofInt_shift (l : List UInt8) (k : Nat) (c : Int) (hc : c = ((256 ^ k : Nat) : Int)) (hk : k < 8) : BitVec.ofInt 64 (IntKind.u64.wrap (IntKind.u64.wrap (((l.getD k 0).toNat : Nat) : Int) * c)) = byB l k := by
  have := bt_lt l k
  unfold bt at this
  have hp : 256 ^ k ≤ 72057594037927936 := by
    rcases (show k = 0 ∨ k = 1 ∨ k = 2 ∨ k = 3 ∨ k = 4 ∨ k = 5 ∨ k = 6 ∨ k = 7 by omega) with rfl | rfl | rfl | rfl | rfl | rfl | rfl | rfl <;> decide
  have hm : (l.getD k 0).toNat * 256 ^ k ≤ 255 * 72057594037927936 := Nat.mul_le_mul (by omega) hp
  have e : IntKind.u64.wrap (((l.getD k 0).toNat : Nat) : Int) = (((l.getD k 0).toNat : Nat) : Int) := wrapu64 (by omega) (by omega)
  rw [e, hc, ← Int.natCast_mul, wrapu64 (by omega) (by omega)]
  unfold byB bt
  rw [← BitVec.ofInt_natCast]
end Go.Sim
namespace Go.Sim
def utf8F (b : Nat) : Int :=
  if b < 128 then 240 else if b < 194 then 241 else if b < 224 then 2 else if b = 224 then 19 else if b < 237 then 3 else if b = 237 then 35 else if b < 240 then 3
  else if b = 240 then 52 else if b < 244 then 4 else if b = 244 then 68 else 241
def utf8First : List Int := (List.range 256).map utf8F
def utf8Acc : List (Int × Int) := [(128, 191), (160, 191), (128, 159), (144, 191), (128, 143), (0, 0), (0, 0), (0, 0), (0, 0), (0, 0), (0, 0), (0, 0), (0, 0), (0, 0), (0, 0), (0, 0)]
theorem utf8First_get (n : Nat) (h : n < 256) : utf8First.getD n 0 = utf8F n := by
  unfold utf8First
  rw [List.getD_eq_getElem?_getD, List.getElem?_map, List.getElem?_range h]
  rfl
theorem utf8First_length : utf8First.length = 256 := by simp [utf8First]
end Go.Sim
namespace Go.Sim
def tailB (n : Nat) : Bool := decide (128 ≤ n) && decide (n ≤ 191)
/-- How long the first rune is, if it is right. -/
def good1 (l : List UInt8) : Option Nat :=
  if bt l 0 < 128 then some 1
  else if bt l 0 < 194 then none
  else if bt l 0 < 224 then (if decide (2 ≤ l.length) && tailB (bt l 1) then some 2 else none)
  else if bt l 0 < 240 then (if decide (3 ≤ l.length) && tailB (bt l 1) && (decide (bt l 0 ≠ 224) || decide (160 ≤ bt l 1)) && (decide (bt l 0 ≠ 237) || decide (bt l 1 ≤ 159)) && tailB (bt l 2) then some 3 else none)
  else if bt l 0 < 245 then (if decide (4 ≤ l.length) && tailB (bt l 1) && (decide (bt l 0 ≠ 240) || decide (144 ≤ bt l 1)) && (decide (bt l 0 ≠ 244) || decide (bt l 1 ≤ 143)) && tailB (bt l 2) && tailB (bt l 3) then some 4 else none)
  else none
/-- All of it is right; m: at most so many runes. -/
def okF : Nat → List UInt8 → Bool
  | 0, l => l.isEmpty
  | m + 1, l => bif l.isEmpty then true else match good1 l with
    | none => false
    | some w => okF m (l.drop w)
/-- Where it ends. -/
def endF : Nat → List UInt8 → List UInt8
  | 0, l => l
  | m + 1, l => bif l.isEmpty then [] else match good1 l with
    | none => l
    | some w => endF m (l.drop w)
theorem good1_pos {l : List UInt8} {w : Nat} (h : good1 l = some w) : 1 ≤ w := by
  unfold good1 at h
  repeat' split at h
  all_goals first | (cases h; decide) | cases h
theorem good1_le {l : List UInt8} {w : Nat} (hl : l ≠ []) (h : good1 l = some w) : w ≤ l.length := by
  have h1 : 1 ≤ l.length := by cases l with | nil => exact absurd rfl hl | cons a b => simp
  unfold good1 at h
  repeat' split at h
  all_goals first
    | (cases h; rename_i hc; simp only [Bool.and_eq_true, decide_eq_true_eq] at hc; omega)
    | (cases h; omega)
    | cases h
theorem ok_more : ∀ (m : Nat) (l : List UInt8), l.length ≤ m → okF (m + 1) l = okF m l ∧ endF (m + 1) l = endF m l
  | 0, l, h => by
    have : l = [] := List.length_eq_zero_iff.1 (by omega)
    subst this
    exact ⟨rfl, rfl⟩
  | m + 1, l, h => by
    by_cases hl : l = []
    · subst hl; exact ⟨rfl, rfl⟩
    · have he : l.isEmpty = false := by cases l with | nil => exact absurd rfl hl | cons a b => rfl
      cases hg : good1 l with
      | none => rw [okF, okF, endF, endF, he, hg]; exact ⟨rfl, rfl⟩
      | some w =>
        have hp := good1_pos hg
        have hw := good1_le hl hg
        have ih := ok_more m (l.drop w) (by simp; omega)
        rw [okF, endF, he, hg]
        rw [show okF (m + 1) l = (bif l.isEmpty then true else match good1 l with | none => false | some w => okF m (l.drop w)) from rfl, show endF (m + 1) l = (bif l.isEmpty then [] else match good1 l with | none => l | some w => endF m (l.drop w)) from rfl, he, hg]
        exact ih
def okL (l : List UInt8) : Bool := okF l.length l
def endL (l : List UInt8) : List UInt8 := endF l.length l
theorem ok_fuel (l : List UInt8) : ∀ m, l.length ≤ m → okF m l = okL l ∧ endF m l = endL l := by
  intro m h
  induction m with
  | zero =>
    have : l = [] := List.length_eq_zero_iff.1 (by omega)
    subst this
    exact ⟨rfl, rfl⟩
  | succ m ih =>
    rcases Nat.lt_or_ge m l.length with h' | h'
    · have : m + 1 = l.length := by omega
      unfold okL endL
      rw [this]
      exact ⟨rfl, rfl⟩
    · obtain ⟨a, b⟩ := ok_more m l h'
      obtain ⟨c, d⟩ := ih h'
      exact ⟨a.trans c, b.trans d⟩
theorem okL_nil : okL [] = true := rfl
theorem endL_nil : endL [] = [] := rfl
theorem okL_some {l : List UInt8} {w : Nat} (hl : l ≠ []) (h : good1 l = some w) : okL l = okL (l.drop w) ∧ endL l = endL (l.drop w) := by
  have he : l.isEmpty = false := by cases l with | nil => exact absurd rfl hl | cons a b => rfl
  have h1 : 1 ≤ l.length := by cases l with | nil => exact absurd rfl hl | cons a b => simp
  have hp := good1_pos h
  obtain ⟨m, hm⟩ : ∃ m, l.length = m + 1 := ⟨l.length - 1, by omega⟩
  obtain ⟨a, b⟩ := ok_fuel (l.drop w) m (by simp; omega)
  unfold okL endL
  rw [hm, okF, endF, he, h]
  exact ⟨a, b⟩
theorem okL_none {l : List UInt8} (hl : l ≠ []) (h : good1 l = none) : okL l = false ∧ endL l = l := by
  have he : l.isEmpty = false := by cases l with | nil => exact absurd rfl hl | cons a b => rfl
  have h1 : 1 ≤ l.length := by cases l with | nil => exact absurd rfl hl | cons a b => simp
  obtain ⟨m, hm⟩ : ∃ m, l.length = m + 1 := ⟨l.length - 1, by omega⟩
  unfold okL endL
  rw [hm, okF, endF, he, h]
  exact ⟨rfl, rfl⟩
theorem bt_drop (l : List UInt8) (j k : Nat) : bt (l.drop j) k = bt l (j + k) := by
  unfold bt
  rw [List.getD_eq_getElem?_getD, List.getD_eq_getElem?_getD, List.getElem?_drop]
/-- Plain letters are passed over. -/
theorem okL_asc : ∀ (j : Nat) (l : List UInt8), j ≤ l.length → (∀ k, k < j → bt l k < 128) → okL l = okL (l.drop j) ∧ endL l = endL (l.drop j)
  | 0, l, _, _ => ⟨rfl, rfl⟩
  | j + 1, l, h, ha => by
    have hl : l ≠ [] := by intro e; subst e; simp at h
    have hg : good1 l = some 1 := by unfold good1; rw [if_pos (ha 0 (by omega))]
    obtain ⟨a, b⟩ := okL_some hl hg
    obtain ⟨c, d⟩ := okL_asc j (l.drop 1) (by simp; omega) (fun k hk => by rw [bt_drop, Nat.add_comm]; exact ha (k + 1) (by omega))
    rw [List.drop_drop] at c d
    rw [show j + 1 = 1 + j by omega]
    exact ⟨a.trans c, b.trans d⟩
end Go.Sim
namespace Go.Sim
theorem or_low {x y m : BitVec 64} (h : (x ||| y) &&& m = 0) : x &&& m = 0 ∧ y &&& m = 0 := by
  have key : ∀ i, i < 64 → ((x.getLsbD i || y.getLsbD i) && m.getLsbD i) = false := fun i hi => by
    have h1 := congrArg (fun z : BitVec 64 => z.getLsbD i) h
    simpa only [BitVec.getLsbD_and, BitVec.getLsbD_or, BitVec.ofNat_eq_ofNat, BitVec.getLsbD_zero] using h1
  constructor
  · apply BitVec.eq_of_getLsbD_eq
    intro i hi
    have := key i hi
    simp only [BitVec.getLsbD_and, BitVec.ofNat_eq_ofNat, BitVec.getLsbD_zero]
    revert this
    cases x.getLsbD i <;> cases y.getLsbD i <;> cases m.getLsbD i <;> simp
  · apply BitVec.eq_of_getLsbD_eq
    intro i hi
    have := key i hi
    simp only [BitVec.getLsbD_and, BitVec.ofNat_eq_ofNat, BitVec.getLsbD_zero]
    revert this
    cases x.getLsbD i <;> cases y.getLsbD i <;> cases m.getLsbD i <;> simp
def nullB (x : BitVec 64) : Bool := ((x.toNat : Nat) : Int) == (0 : Int)
theorem nullB_eq {x : BitVec 64} (h : nullB x = true) : x = 0 := by
  unfold nullB at h
  simp only [beq_iff_eq] at h
  apply BitVec.eq_of_toNat_eq
  simp
  omega
def low8 (l : List UInt8) : Bool := nullB (w8 l &&& m80)
def low16 (l : List UInt8) : Bool := nullB ((w8 l ||| w8 (l.drop 8)) &&& m80)
def low32 (l : List UInt8) : Bool := nullB (((w8 l ||| w8 (l.drop 8)) ||| (w8 (l.drop 16) ||| w8 (l.drop 24))) &&& m80)
theorem low8_asc {l : List UInt8} (h : low8 l = true) : ∀ k, k < 8 → bt l k < 128 := w8_low l (nullB_eq h)
theorem two_asc {l : List UInt8} {a b : Nat} (h1 : ∀ k, k < a → bt l k < 128) (h2 : ∀ k, k < b → bt (l.drop a) k < 128) : ∀ k, k < a + b → bt l k < 128 := fun k hk => by
  rcases Nat.lt_or_ge k a with h | h
  · exact h1 k h
  · have := h2 (k - a) (by omega)
    rw [bt_drop, show a + (k - a) = k by omega] at this
    exact this
theorem low16_asc {l : List UInt8} (h : low16 l = true) : ∀ k, k < 16 → bt l k < 128 := by
  obtain ⟨a, b⟩ := or_low (nullB_eq h)
  exact two_asc (a := 8) (b := 8) (w8_low l a) (w8_low _ b)
theorem low32_asc {l : List UInt8} (h : low32 l = true) : ∀ k, k < 32 → bt l k < 128 := by
  obtain ⟨a, b⟩ := or_low (nullB_eq h)
  obtain ⟨a1, a2⟩ := or_low a
  obtain ⟨b1, b2⟩ := or_low b
  have e : l.drop 24 = (l.drop 16).drop 8 := by rw [List.drop_drop]
  rw [e] at b2
  exact two_asc (a := 16) (b := 16) (two_asc (a := 8) (b := 8) (w8_low l a1) (w8_low _ a2)) (two_asc (a := 8) (b := 8) (w8_low _ b1) (w8_low _ b2))
def skipF : Nat → List UInt8 → List UInt8
  | 0, l => l
  | m + 1, l => bif decide (l.length > 32) && low32 l then skipF m (l.drop 32) else l
theorem skipF_ok : ∀ (m : Nat) (l : List UInt8), okL (skipF m l) = okL l ∧ endL (skipF m l) = endL l ∧ (skipF m l).length ≤ l.length
  | 0, l => ⟨rfl, rfl, Nat.le_refl _⟩
  | m + 1, l => by
    simp only [skipF]
    cases h : (decide (l.length > 32) && low32 l)
    · exact ⟨rfl, rfl, Nat.le_refl _⟩
    · simp only [Bool.and_eq_true, decide_eq_true_eq] at h
      obtain ⟨a, b⟩ := okL_asc 32 l (by omega) (low32_asc h.2)
      obtain ⟨c, d, e⟩ := skipF_ok m (l.drop 32)
      rw [List.length_drop] at e
      exact ⟨c.trans a.symm, d.trans b.symm, by simp only [cond_true]; omega⟩
def skip32 (l : List UInt8) : List UInt8 := skipF l.length l
/-- What is left behind a plain letter: more of them may be passed over. -/
def adv (t : List UInt8) : List UInt8 :=
  bif decide (t.length > 8) && low8 t then (bif decide ((t.drop 8).length > 16) && low16 (t.drop 8) then skip32 ((t.drop 8).drop 16) else t.drop 8) else t
theorem adv_ok (t : List UInt8) : okL (adv t) = okL t ∧ endL (adv t) = endL t ∧ (adv t).length ≤ t.length := by
  unfold adv
  cases h : (decide (t.length > 8) && low8 t)
  · exact ⟨rfl, rfl, Nat.le_refl _⟩
  · simp only [Bool.and_eq_true, decide_eq_true_eq] at h
    obtain ⟨a, b⟩ := okL_asc 8 t (by omega) (low8_asc h.2)
    simp only [cond_true]
    cases h2 : (decide ((t.drop 8).length > 16) && low16 (t.drop 8))
    · simp only [cond_false]
      exact ⟨a.symm, b.symm, by simp⟩
    · simp only [Bool.and_eq_true, decide_eq_true_eq] at h2
      obtain ⟨c, d⟩ := okL_asc 16 (t.drop 8) (by omega) (low16_asc h2.2)
      obtain ⟨e, f, g⟩ := skipF_ok ((t.drop 8).drop 16).length ((t.drop 8).drop 16)
      simp only [cond_true]
      unfold skip32
      refine ⟨e.trans (c.symm.trans a.symm), f.trans (d.symm.trans b.symm), ?_⟩
      simp only [List.length_drop] at g ⊢
      omega
end Go.Sim
namespace Go.Sim
def lettersL : List UInt8 := [97, 98, 99, 100, 101, 102, 103, 104, 105, 106, 107, 108, 109, 110, 111, 112, 113, 114, 115, 116, 117, 118, 119, 120, 121, 122, 48, 49, 50, 51, 52, 53, 54, 55, 56, 57]
def signsL : List UInt8 := [45, 95, 46]
def mayR (c : Int) : Bool := hasR lettersL c || hasR signsL c || (decide (c ≥ 161) && decide (c ≤ 65535) && c != 173 && c != 65279)
/-- May this rune not stand here? -/
def badR (c : Int) (first : Bool) : Bool := !mayR c || (first && hasR signsL c)
/-- The first bad rune: how many stand ahead of it; how many bytes there are, it with them. -/
def failF : Nat → List UInt8 → Bool → Option (Nat × Nat)
  | 0, _, _ => none
  | m + 1, l, first => bif l.isEmpty then none else bif badR (((dec1 l).1 : Nat) : Int) first then some (0, (dec1 l).2) else (failF m (l.drop (dec1 l).2) false).map fun p => (p.1 + 1, (dec1 l).2 + p.2)
def validL (s : List UInt8) : Bool := !(failF s.length s true).isSome && (decide ((cnt s : Int) > 0) && decide ((cnt s : Int) ≤ 40) && okL s)
end Go.Sim
namespace Go.Sim
/-- May a record be (P401)? -/
def recR (r : Rec) : Bool := decide (r.1 ≥ 0) && (decide (r.1 ≤ 1125899906842624) && (decide (r.2.1 ≥ -1099511627776) && (decide (r.2.1 ≤ 1099511627776) && (decide (((List.length r.2.2.1 : Nat) : Int) ≥ 1) &&
  (decide (((List.length r.2.2.1 : Nat) : Int) ≤ 200) && (decide (((List.length r.2.2.2.1 : Nat) : Int) ≤ 2000) && (!r.2.2.2.2 || r.2.2.2.1 == [])))))))
theorem recR_key (l : List UInt8) : (!(l == [])) = decide (((List.length l : Nat) : Int) ≥ 1) := by
  cases l with
  | nil => rfl
  | cons a b => simp; omega
def plainC (c : Cmd) : Bool := !(!c.1 == 1 && (c.2.1 != 0 || decide (((List.length c.2.2.2.1 : Nat) : Int) > 0)) || (!c.1 == 1 && (!c.1 == 11 && c.2.2.1 != 0) || !(c.1 == 3 || c.1 == 4) && !c.2.2.2.2.1 == [])) &&
  (!(!(c.1 == 2 || (c.1 == 3 || (c.1 == 8 || c.1 == 11))) && c.2.2.2.2.2.1 != 0 || (c.1 != 2 && (!c.1 == 11 && c.2.2.2.2.2.2.1 != 0) || (!(c.1 == 5 || (c.1 == 8 || c.1 == 9)) && c.2.2.2.2.2.2.2.1 != 0 || !c.1 == 11 && c.2.2.2.2.2.2.2.2.1 != 0))) &&
    (c.1 == 6 || c.2.2.2.2.2.2.2.2.2.1 == 0 && (c.2.2.2.2.2.2.2.2.2.2.1 == 0 && (c.2.2.2.2.2.2.2.2.2.2.2.1 == 0 && (c.2.2.2.2.2.2.2.2.2.2.2.2 == 0 && true)))))
def withinB (n a b : Int) : Bool := decide (n ≥ a) && decide (n ≤ b)
def outC (c : Cmd) : Bool := (c.1 == 2 || c.1 == 3) && (decide (c.2.2.2.2.2.1 < 0) || decide (c.2.2.2.2.2.1 > 1125899906842624))
def longR (r : Rec) : Bool := decide (((List.length r.2.2.1 : Nat) : Int) > 200) || decide (((List.length r.2.2.2.1 : Nat) : Int) > 2000)
/-- A command that has just what its kind names. -/
def bareC (c : Cmd) : Cmd × Bool :=
  let z : Cmd := (c.1, 0, 0, [], [], 0, 0, 0, 0, 0, 0, 0, 0)
  bif c.1 == 0 || (c.1 == 7 || c.1 == 10) then (z, true)
  else bif c.1 == 1 then ((c.1, c.2.1, c.2.2.1, c.2.2.2.1, [], 0, 0, 0, 0, 0, 0, 0, 0), true)
  else bif c.1 == 2 then ((c.1, 0, 0, [], [], c.2.2.2.2.2.1, c.2.2.2.2.2.2.1, 0, 0, 0, 0, 0, 0), true)
  else bif c.1 == 3 then ((c.1, 0, 0, [], c.2.2.2.2.1, c.2.2.2.2.2.1, 0, 0, 0, 0, 0, 0, 0), true)
  else bif c.1 == 4 then ((c.1, 0, 0, [], c.2.2.2.2.1, 0, 0, 0, 0, 0, 0, 0, 0), true)
  else bif c.1 == 5 || c.1 == 9 then ((c.1, 0, 0, [], [], 0, 0, c.2.2.2.2.2.2.2.1, 0, 0, 0, 0, 0), true)
  else bif c.1 == 6 then ((c.1, 0, 0, [], [], 0, 0, 0, 0, c.2.2.2.2.2.2.2.2.2), true)
  else bif c.1 == 8 then ((c.1, 0, 0, [], [], c.2.2.2.2.2.1, 0, c.2.2.2.2.2.2.2.1, 0, 0, 0, 0, 0), true)
  else bif c.1 == 11 then ((c.1, 0, c.2.2.1, [], [], c.2.2.2.2.2.1, c.2.2.2.2.2.2.1, 0, c.2.2.2.2.2.2.2.2.1, 0, 0, 0, 0), true)
  else (z, false)
/-- What is wrong with a record of a batch. -/
def badR1 (r : Rec) : Bool := r.1 != 0 || !recR r
def recsB (a : List Rec) : Bool := withinB (List.length a) 1 50 && !a.any badR1
def confB (c : Cnf) : Bool := withinB c.1 1 1000 && (withinB c.2.1 0 1099511627776 && (withinB c.2.2.1 0 1099511627776 && withinB c.2.2.2 0 1099511627776))
theorem cmd_eq (a b : Cmd) : (a.1 == b.1 && (a.2.1 == b.2.1 && (a.2.2.1 == b.2.2.1 && (a.2.2.2.2.1 == b.2.2.2.2.1 && (a.2.2.2.2.2.1 == b.2.2.2.2.2.1 && (a.2.2.2.2.2.2.1 == b.2.2.2.2.2.2.1 && (a.2.2.2.2.2.2.2.1 == b.2.2.2.2.2.2.2.1 &&
    (a.2.2.2.2.2.2.2.2.1 == b.2.2.2.2.2.2.2.2.1 && ((a.2.2.2.2.2.2.2.2.2.1 == b.2.2.2.2.2.2.2.2.2.1 && (a.2.2.2.2.2.2.2.2.2.2.1 == b.2.2.2.2.2.2.2.2.2.2.1 && (a.2.2.2.2.2.2.2.2.2.2.2.1 == b.2.2.2.2.2.2.2.2.2.2.2.1 &&
    (a.2.2.2.2.2.2.2.2.2.2.2.2 == b.2.2.2.2.2.2.2.2.2.2.2.2 && true)))) && decide (a.2.2.2.1 = b.2.2.2.1)))))))))) = decide (a = b) := by
  obtain ⟨a1, a2, a3, a4, a5, a6, a7, a8, a9, a10, a11, a12, a13⟩ := a
  obtain ⟨b1, b2, b3, b4, b5, b6, b7, b8, b9, b10, b11, b12, b13⟩ := b
  apply Bool.eq_iff_iff.2
  simp only [Bool.and_eq_true, beq_iff_eq, decide_eq_true_eq, Prod.mk.injEq, and_true]
  constructor
  · rintro ⟨h1, h2, h3, h5, h6, h7, h8, h9, ⟨h10, h11, h12, h13⟩, h4⟩
    exact ⟨h1, h2, h3, h4, h5, h6, h7, h8, h9, h10, h11, h12, h13⟩
  · rintro ⟨h1, h2, h3, h4, h5, h6, h7, h8, h9, h10, h11, h12, h13⟩
    exact ⟨h1, h2, h3, h5, h6, h7, h8, h9, ⟨h10, h11, h12, h13⟩, h4⟩
def rightC (c : Cmd) : Bool := plainC c && (bif c.1 == 0 || (c.1 == 7 || c.1 == 10) then true
  else bif c.1 == 1 then withinB c.2.1 0 1099511627776 && (withinB c.2.2.1 0 1099511627776 && ((decide (c.2.1 > 0) || c.2.2.1 == 0) && recsB c.2.2.2.1))
  else bif c.1 == 2 then withinB c.2.2.2.2.2.1 0 1125899906842624 && withinB c.2.2.2.2.2.2.1 1 100
  else bif c.1 == 3 then withinB c.2.2.2.2.2.1 0 1125899906842624 && validL c.2.2.2.2.1
  else bif c.1 == 4 then validL c.2.2.2.2.1
  else bif c.1 == 5 || c.1 == 9 then withinB c.2.2.2.2.2.2.2.1 (-1099511627776) 1099511627776
  else bif c.1 == 8 then withinB c.2.2.2.2.2.2.2.1 (-1099511627776) 1099511627776 && withinB c.2.2.2.2.2.1 0 1125899906842624
  else bif c.1 == 6 then confB c.2.2.2.2.2.2.2.2.2
  else bif c.1 == 11 then withinB c.2.2.2.2.2.1 0 1125899906842624 && (withinB c.2.2.1 0 1099511627776 && withinB c.2.2.2.2.2.2.1 0 1099511627776)
  else false)
def knownK (k : Int) : Bool := k == 0 || (k == 7 || k == 10) || k == 1 || k == 2 || k == 3 || k == 4 || (k == 5 || k == 9) || k == 6 || k == 8 || k == 11
theorem len_pos_nil {α : Type} (r : List α) : decide (((List.length r : Nat) : Int) > 0) = !decide (r = []) := by cases r <;> simp
theorem bare_plain (c : Cmd) : ((bareC c).2 && decide ((bareC c).1 = c)) = (knownK c.1 && plainC c) := by
  obtain ⟨k, p, s, r, g, o, m, n, u, c1, c2, c3, c4⟩ := c
  unfold bareC plainC knownK
  simp only [len_pos_nil]
  apply Bool.eq_iff_iff.2
  by_cases h0 : k = 0
  · subst h0; simp <;> grind
  · by_cases h7 : k = 7
    · subst h7; simp <;> grind
    · by_cases h10 : k = 10
      · subst h10; simp <;> grind
      · by_cases h1 : k = 1
        · subst h1; simp <;> grind
        · by_cases h2 : k = 2
          · subst h2; simp <;> grind
          · by_cases h3 : k = 3
            · subst h3; simp <;> grind
            · by_cases h4 : k = 4
              · subst h4; simp <;> grind
              · by_cases h5 : k = 5
                · subst h5; simp <;> grind
                · by_cases h9 : k = 9
                  · subst h9; simp <;> grind
                  · by_cases h6 : k = 6
                    · subst h6; simp <;> grind
                    · by_cases h8 : k = 8
                      · subst h8; simp <;> grind
                      · by_cases h11 : k = 11
                        · subst h11; simp <;> grind
                        · simp [beq_false_of_ne h0, beq_false_of_ne h7, beq_false_of_ne h10, beq_false_of_ne h1, beq_false_of_ne h2, beq_false_of_ne h3, beq_false_of_ne h4, beq_false_of_ne h5, beq_false_of_ne h9, beq_false_of_ne h6, beq_false_of_ne h8, beq_false_of_ne h11]
theorem right_bare (c : Cmd) (h : plainC c = true) : (c.1 = 0 ∨ c.1 = 7 ∨ c.1 = 10 → c.2.2.2.2.2.2.2.1 = 0 ∧ c.2.2.2.2.2.1 = 0) ∧ (c.1 = 5 ∨ c.1 = 9 → c.2.2.2.2.2.1 = 0) := by
  obtain ⟨k, p, s, r, g, o, m, n, u, c1, c2, c3, c4⟩ := c
  unfold plainC at h
  constructor
  · rintro (e | e | e) <;> simp only at e <;> subst e <;> simp at h ⊢ <;> grind
  · rintro (e | e) <;> simp only at e <;> subst e <;> simp at h ⊢ <;> grind
/-- What the program's Right comes to, behind its look at the bare command. -/
def tailC (c : Cmd) : Bool :=
  bif c.1 == 1 then withinB c.2.1 0 1099511627776 && (withinB c.2.2.1 0 1099511627776 && ((decide (c.2.1 > 0) || c.2.2.1 == 0) && recsB c.2.2.2.1))
  else bif c.1 == 2 then withinB c.2.2.2.2.2.1 0 1125899906842624 && withinB c.2.2.2.2.2.2.1 1 100
  else bif c.1 == 3 then withinB c.2.2.2.2.2.1 0 1125899906842624 && validL c.2.2.2.2.1
  else bif c.1 == 4 then validL c.2.2.2.2.1
  else bif c.1 == 6 then confB c.2.2.2.2.2.2.2.2.2
  else bif c.1 == 11 then withinB c.2.2.2.2.2.1 0 1125899906842624 && (withinB c.2.2.1 0 1099511627776 && withinB c.2.2.2.2.2.2.1 0 1099511627776)
  else withinB c.2.2.2.2.2.2.2.1 (-1099511627776) 1099511627776 && withinB c.2.2.2.2.2.1 0 1125899906842624
theorem prog_right (c : Cmd) : ((bareC c).2 && decide ((bareC c).1 = c) && tailC c) = rightC c := by
  rw [bare_plain]
  unfold rightC
  cases hp : plainC c with
  | false => simp
  | true =>
    obtain ⟨a1, a2⟩ := right_bare c hp
    simp only [Bool.and_true, Bool.true_and]
    unfold knownK tailC
    obtain ⟨k, p, s, r, g, o, m, n, u, c1, c2, c3, c4⟩ := c
    simp only at a1 a2 ⊢
    have w0 : withinB 0 (-1099511627776) 1099511627776 = true := by decide
    have w1 : withinB 0 0 1125899906842624 = true := by decide
    by_cases h0 : k = 0
    · subst h0; obtain ⟨e1, e2⟩ := a1 (by simp); subst e1; subst e2; simp [w0, w1]
    · by_cases h7 : k = 7
      · subst h7; obtain ⟨e1, e2⟩ := a1 (by simp); subst e1; subst e2; simp [w0, w1]
      · by_cases h10 : k = 10
        · subst h10; obtain ⟨e1, e2⟩ := a1 (by simp); subst e1; subst e2; simp [w0, w1]
        · by_cases h1 : k = 1
          · subst h1; simp
          · by_cases h2 : k = 2
            · subst h2; simp
            · by_cases h3 : k = 3
              · subst h3; simp
              · by_cases h4 : k = 4
                · subst h4; simp
                · by_cases h5 : k = 5
                  · subst h5; obtain e2 := a2 (by simp); subst e2; simp [w1]
                  · by_cases h9 : k = 9
                    · subst h9; obtain e2 := a2 (by simp); subst e2; simp [w1]
                    · by_cases h6 : k = 6
                      · subst h6; simp
                      · by_cases h8 : k = 8
                        · subst h8; simp
                        · by_cases h11 : k = 11
                          · subst h11; simp
                          · simp [beq_false_of_ne h0, beq_false_of_ne h7, beq_false_of_ne h10, beq_false_of_ne h1, beq_false_of_ne h2, beq_false_of_ne h3, beq_false_of_ne h4, beq_false_of_ne h5, beq_false_of_ne h9, beq_false_of_ne h6, beq_false_of_ne h8, beq_false_of_ne h11]
theorem within_pos {x m : Int} (h : withinB x 0 m = true) : decide (x > 0) = !(x == 0) := by
  unfold withinB at h
  simp only [Bool.and_eq_true, decide_eq_true_eq] at h
  apply Bool.eq_iff_iff.2
  simp; omega
def longC (c : Cmd) : Bool := bif c.1 == 2 then decide (c.2.2.2.2.2.2.1 > 100) else c.1 == 1 && (decide (((List.length c.2.2.2.1 : Nat) : Int) > 50) || List.any c.2.2.2.1 longR)
/-- Why a request is not right. -/
def checkC (c : Cmd) : Int := bif !withinB c.1 1 6 then 1 else bif (c.1 == 3 || c.1 == 4) && !validL c.2.2.2.2.1 then 6 else bif longC c then 3 else bif outC c then 11 else bif !rightC c then 1 else 0
theorem check_right (c : Cmd) : (checkC c == 0) = (withinB c.1 1 6 && rightC c) := by
  unfold checkC
  cases hw : withinB c.1 1 6 with
  | false => rfl
  | true =>
    cases hr : rightC c with
    | false =>
      cases (c.1 == 3 || c.1 == 4) && !validL c.2.2.2.2.1 <;> cases longC c <;> cases outC c <;> rfl
    | true =>
      have hr' := hr
      unfold rightC at hr'
      simp only [Bool.and_eq_true] at hr'
      obtain ⟨hp, hr'⟩ := hr'
      have a1 : ((c.1 == 3 || c.1 == 4) && !validL c.2.2.2.2.1) = false := by
        cases h3 : c.1 == 3 with
        | true => have := eq_of_beq h3; rw [this] at hr'; simp at hr'; simp [hr'.2]
        | false => cases h4 : c.1 == 4 with
          | true => have := eq_of_beq h4; rw [this] at hr'; simp at hr'; simp [hr']
          | false => rfl
      have a2 : longC c = false := by
        unfold longC
        cases h2 : c.1 == 2 with
        | true =>
          have := eq_of_beq h2; rw [this] at hr'; simp [withinB] at hr'; simp; omega
        | false => cases h1 : c.1 == 1 with
          | true =>
            have := eq_of_beq h1; rw [this] at hr'
            have hrec : recsB c.2.2.2.1 = true := by simp at hr'; exact hr'.2.2.2
            unfold recsB withinB at hrec
            simp only [Bool.and_eq_true, Bool.not_eq_true', decide_eq_true_eq] at hrec
            simp only [cond_false, Bool.true_and, Bool.or_eq_false_iff, decide_eq_false_iff_not, List.any_eq_false, Bool.not_eq_true]
            refine ⟨by omega, fun r hr => ?_⟩
            have := List.any_eq_false.1 hrec.2 r hr
            simp [badR1, recR] at this
            simp [longR]; omega
          | false => rfl
      have a3 : outC c = false := by
        unfold outC
        cases h2 : c.1 == 2 with
        | true =>
          have := eq_of_beq h2; rw [this] at hr'; simp [withinB] at hr'; simp; omega
        | false => cases h3 : c.1 == 3 with
          | true => have := eq_of_beq h3; rw [this] at hr'; simp [withinB] at hr'; simp; omega
          | false => rfl
      rw [a1, a2, a3]; rfl
end Go.Sim
namespace Go.Sim
set_option linter.unusedSimpArgs false
set_option linter.unusedVariables false
set_option maxRecDepth 10000
abbrev doneT : Ty := .pair (.int .i64) (.pair (.int .i64) cmdT)
abbrev Done := Int × Int × Cmd
theorem env_nil : ∀ x ∈ ([] : List (FuncId × Con)), HoldsC P0 x.1 x.2 := fun x h => by cases h
theorem equal_rd {R : Type} (a b : List Rec) (f : Bool) (n i : Int) (K : Ex → St → Option R) : roundK (env []) H.slices_Equal_api_Record_api_Record 0 (LPof []) V.slices_Equal_api_Record_api_Record_4 L.slices_Equal_api_Record_api_Record_4 ⟨[(0, .vl recT a), (1, .vl recT b), (4, .bool f), (12, .int .i64 n), (13, .int .i64 i)], [], 0⟩ K = bif decide (i < n) then bif decide ((0 : Int) ≤ i) && decide (i < (↑a.length : Int)) then bif decide ((0 : Int) ≤ i) && decide (i < (↑b.length : Int)) then bif !((a.getD i.toNat recTy.zero).fst == (b.getD i.toNat recTy.zero).fst && ((a.getD i.toNat recTy.zero).snd.fst == (b.getD i.toNat recTy.zero).snd.fst && ((a.getD i.toNat recTy.zero).snd.snd.fst == (b.getD i.toNat recTy.zero).snd.snd.fst && ((a.getD i.toNat recTy.zero).snd.snd.snd.fst == (b.getD i.toNat recTy.zero).snd.snd.snd.fst && ((a.getD i.toNat recTy.zero).snd.snd.snd.snd == (b.getD i.toNat recTy.zero).snd.snd.snd.snd && true))))) then K Ex.ret { slots := [(0, AV.vl recTy a), (1, AV.vl recTy b), (4, AV.bool false), (12, AV.int IntKind.i64 n), (13, AV.int IntKind.i64 i)], objs := [], nx := 0 } else K Ex.normal { slots := [(0, AV.vl recTy a), (1, AV.vl recTy b), (4, AV.bool f), (12, AV.int IntKind.i64 n), (13, AV.int IntKind.i64 (IntKind.i64.wrap (i + (1 : Int))))], objs := [], nx := 0 } else none else none else K (Ex.exit 0) { slots := [(0, AV.vl recTy a), (1, AV.vl recTy b), (4, AV.bool f), (12, AV.int IntKind.i64 n), (13, AV.int IntKind.i64 i)], objs := [], nx := 0 } := by kernel_rfl

theorem cc3_rd {R : Type} (a b : List (List Done)) (s n i : Int) (K : Ex → St → Option R) : roundK (env []) H.slices_Concat_api_Done_api_Done 0 (LPof []) V.slices_Concat_api_Done_api_Done_3 L.slices_Concat_api_Done_api_Done_3 ⟨[(0, .vl (.sl doneT) a), (3, .int .i64 s), (9, .vl (.sl doneT) b), (10, .int .i64 n), (11, .int .i64 i)], [], 0⟩ K = bif decide (i < n) then bif decide ((0 : Int) ≤ i) && decide (i < (↑b.length : Int)) then bif decide (IntKind.i64.wrap (s + (↑(List.length (b.getD i.toNat [])) : Int)) < (0 : Int)) then none else K Ex.normal { slots := [(0, AV.vl ((Ty.int IntKind.i64).pair ((Ty.int IntKind.i64).pair ((Ty.int IntKind.i64).pair ((Ty.int IntKind.i64).pair ((Ty.int IntKind.i64).pair (recTy.sl.pair (Ty.str.pair ((Ty.int IntKind.i64).pair ((Ty.int IntKind.i64).pair ((Ty.int IntKind.i64).pair ((Ty.int IntKind.u32).pair confTy))))))))))).sl a), (3, AV.int IntKind.i64 (IntKind.i64.wrap (s + (↑(List.length (b.getD i.toNat [])) : Int)))), (9, AV.vl ((Ty.int IntKind.i64).pair ((Ty.int IntKind.i64).pair ((Ty.int IntKind.i64).pair ((Ty.int IntKind.i64).pair ((Ty.int IntKind.i64).pair (recTy.sl.pair (Ty.str.pair ((Ty.int IntKind.i64).pair ((Ty.int IntKind.i64).pair ((Ty.int IntKind.i64).pair ((Ty.int IntKind.u32).pair confTy))))))))))).sl b), (10, AV.int IntKind.i64 n), (11, AV.int IntKind.i64 (IntKind.i64.wrap (i + (1 : Int))))], objs := [], nx := 0 } else none else K (Ex.exit 0) { slots := [(0, AV.vl ((Ty.int IntKind.i64).pair ((Ty.int IntKind.i64).pair ((Ty.int IntKind.i64).pair ((Ty.int IntKind.i64).pair ((Ty.int IntKind.i64).pair (recTy.sl.pair (Ty.str.pair ((Ty.int IntKind.i64).pair ((Ty.int IntKind.i64).pair ((Ty.int IntKind.i64).pair ((Ty.int IntKind.u32).pair confTy))))))))))).sl a), (3, AV.int IntKind.i64 s), (9, AV.vl ((Ty.int IntKind.i64).pair ((Ty.int IntKind.i64).pair ((Ty.int IntKind.i64).pair ((Ty.int IntKind.i64).pair ((Ty.int IntKind.i64).pair (recTy.sl.pair (Ty.str.pair ((Ty.int IntKind.i64).pair ((Ty.int IntKind.i64).pair ((Ty.int IntKind.i64).pair ((Ty.int IntKind.u32).pair confTy))))))))))).sl b), (10, AV.int IntKind.i64 n), (11, AV.int IntKind.i64 i)], objs := [], nx := 0 } := by kernel_rfl

theorem cc11a_rd {R : Type} (b : List (List Done)) (n i : Int) (xs : List Done) (K : Ex → St → Option R) : roundK (env []) H.slices_Concat_api_Done_api_Done 0 (LPof []) V.slices_Concat_api_Done_api_Done_11 L.slices_Concat_api_Done_api_Done_11 ⟨[(6, .hs 0 0 0), (25, .vl (.sl doneT) b), (26, .int .i64 n), (27, .int .i64 i)], [(0, .arr 15 doneT xs [])], 1⟩ K = bif decide (i < n) then bif decide ((0 : Int) ≤ i) && decide (i < (↑b.length : Int)) then bif decide ((List.take 0 xs ++ b.getD i.toNat []).length * 144 ≤ 140737488355328) then K Ex.normal { slots := [(6, AV.hw 0), (25, AV.vl ((Ty.int IntKind.i64).pair ((Ty.int IntKind.i64).pair ((Ty.int IntKind.i64).pair ((Ty.int IntKind.i64).pair ((Ty.int IntKind.i64).pair (recTy.sl.pair (Ty.str.pair ((Ty.int IntKind.i64).pair ((Ty.int IntKind.i64).pair ((Ty.int IntKind.i64).pair ((Ty.int IntKind.u32).pair confTy))))))))))).sl b), (26, AV.int IntKind.i64 n), (27, AV.int IntKind.i64 (IntKind.i64.wrap (i + (1 : Int))))], objs := [(0, AObj.arr 15 ((Ty.int IntKind.i64).pair ((Ty.int IntKind.i64).pair ((Ty.int IntKind.i64).pair ((Ty.int IntKind.i64).pair ((Ty.int IntKind.i64).pair (recTy.sl.pair (Ty.str.pair ((Ty.int IntKind.i64).pair ((Ty.int IntKind.i64).pair ((Ty.int IntKind.i64).pair ((Ty.int IntKind.u32).pair confTy))))))))))) (List.take 0 xs ++ b.getD i.toNat []) [])], nx := 1 } else none else none else K (Ex.exit 2) { slots := [(6, AV.hs 0 0 0), (25, AV.vl ((Ty.int IntKind.i64).pair ((Ty.int IntKind.i64).pair ((Ty.int IntKind.i64).pair ((Ty.int IntKind.i64).pair ((Ty.int IntKind.i64).pair (recTy.sl.pair (Ty.str.pair ((Ty.int IntKind.i64).pair ((Ty.int IntKind.i64).pair ((Ty.int IntKind.i64).pair ((Ty.int IntKind.u32).pair confTy))))))))))).sl b), (26, AV.int IntKind.i64 n), (27, AV.int IntKind.i64 i)], objs := [(0, AObj.arr 15 ((Ty.int IntKind.i64).pair ((Ty.int IntKind.i64).pair ((Ty.int IntKind.i64).pair ((Ty.int IntKind.i64).pair ((Ty.int IntKind.i64).pair (recTy.sl.pair (Ty.str.pair ((Ty.int IntKind.i64).pair ((Ty.int IntKind.i64).pair ((Ty.int IntKind.i64).pair ((Ty.int IntKind.u32).pair confTy))))))))))) xs [])], nx := 1 } := by kernel_rfl

theorem cc11b_rd {R : Type} (b : List (List Done)) (n i : Int) (xs : List Done) (K : Ex → St → Option R) : roundK (env []) H.slices_Concat_api_Done_api_Done 0 (LPof []) V.slices_Concat_api_Done_api_Done_11 L.slices_Concat_api_Done_api_Done_11 ⟨[(6, .hw 0), (25, .vl (.sl doneT) b), (26, .int .i64 n), (27, .int .i64 i)], [(0, .arr 15 doneT xs [])], 1⟩ K = bif decide (i < n) then bif decide ((0 : Int) ≤ i) && decide (i < (↑b.length : Int)) then bif decide ((xs ++ b.getD i.toNat []).length * 144 ≤ 140737488355328) then K Ex.normal { slots := [(6, AV.hw 0), (25, AV.vl ((Ty.int IntKind.i64).pair ((Ty.int IntKind.i64).pair ((Ty.int IntKind.i64).pair ((Ty.int IntKind.i64).pair ((Ty.int IntKind.i64).pair (recTy.sl.pair (Ty.str.pair ((Ty.int IntKind.i64).pair ((Ty.int IntKind.i64).pair ((Ty.int IntKind.i64).pair ((Ty.int IntKind.u32).pair confTy))))))))))).sl b), (26, AV.int IntKind.i64 n), (27, AV.int IntKind.i64 (IntKind.i64.wrap (i + (1 : Int))))], objs := [(0, AObj.arr 15 ((Ty.int IntKind.i64).pair ((Ty.int IntKind.i64).pair ((Ty.int IntKind.i64).pair ((Ty.int IntKind.i64).pair ((Ty.int IntKind.i64).pair (recTy.sl.pair (Ty.str.pair ((Ty.int IntKind.i64).pair ((Ty.int IntKind.i64).pair ((Ty.int IntKind.i64).pair ((Ty.int IntKind.u32).pair confTy))))))))))) (xs ++ b.getD i.toNat []) [])], nx := 1 } else none else none else K (Ex.exit 2) { slots := [(6, AV.hw 0), (25, AV.vl ((Ty.int IntKind.i64).pair ((Ty.int IntKind.i64).pair ((Ty.int IntKind.i64).pair ((Ty.int IntKind.i64).pair ((Ty.int IntKind.i64).pair (recTy.sl.pair (Ty.str.pair ((Ty.int IntKind.i64).pair ((Ty.int IntKind.i64).pair ((Ty.int IntKind.i64).pair ((Ty.int IntKind.u32).pair confTy))))))))))).sl b), (26, AV.int IntKind.i64 n), (27, AV.int IntKind.i64 i)], objs := [(0, AObj.arr 15 ((Ty.int IntKind.i64).pair ((Ty.int IntKind.i64).pair ((Ty.int IntKind.i64).pair ((Ty.int IntKind.i64).pair ((Ty.int IntKind.i64).pair (recTy.sl.pair (Ty.str.pair ((Ty.int IntKind.i64).pair ((Ty.int IntKind.i64).pair ((Ty.int IntKind.i64).pair ((Ty.int IntKind.u32).pair confTy))))))))))) xs [])], nx := 1 } := by kernel_rfl

theorem grow_ev (n : Int) : evFn (env []) H.slices_Grow_api_Done_api_Done (LPof []) F.slices_Grow_api_Done_api_Done [.nils, .int .i64 n] [] (finV (.hs 0) [.arr 15 doneT []] 0) = bif decide (n < (0 : Int)) then none else bif decide (IntKind.i64.wrap (n - (0 : Int)) > (0 : Int)) then bif decide ((0 : Int) < IntKind.i64.wrap (n - (0 : Int))) && decide ((IntKind.i64.wrap (n - (0 : Int))).toNat * 144 ≤ 140737488355328) then some ((0, 0), (List.replicate (IntKind.i64.wrap (n - (0 : Int))).toNat ((Ty.int IntKind.i64).pair ((Ty.int IntKind.i64).pair ((Ty.int IntKind.i64).pair ((Ty.int IntKind.i64).pair ((Ty.int IntKind.i64).pair (((Ty.int IntKind.i64).pair ((Ty.int IntKind.i64).pair (Ty.str.pair (Ty.str.pair Ty.bool)))).sl.pair (Ty.str.pair ((Ty.int IntKind.i64).pair ((Ty.int IntKind.i64).pair ((Ty.int IntKind.i64).pair ((Ty.int IntKind.u32).pair ((Ty.int IntKind.i64).pair ((Ty.int IntKind.i64).pair ((Ty.int IntKind.i64).pair (Ty.int IntKind.i64))))))))))))))).zero, ()), ()) else none else none := by kernel_rfl

theorem grow0_ev : evFn (env []) H.slices_Grow_api_Done_api_Done (LPof []) F.slices_Grow_api_Done_api_Done [.nils, .int .i64 0] [] (finV (.vl doneT) [] 0) = some ([], ()) := by kernel_rfl

def difB (a b : List Rec) (i : Nat) : Bool := !(recEqB (a.getD i recTy.zero) (b.getD i recTy.zero))
def equalSt (a b : List Rec) (f : Bool) (n : Int) (i : Nat) : St := ⟨[(0, .vl recT a), (1, .vl recT b), (4, .bool f), (12, .int .i64 n), (13, .int .i64 i)], [], 0⟩
abbrev equalLC : LoopC := LoopC.of ⟨[(0, .vl recT), (1, .vl recT), (4, .bool), (12, .int .i64), (13, .int .i64)], []⟩ (fun x => decide (List.length x.1.2.1 = List.length x.1.1) && decide (x.1.2.2.2.1 = (List.length x.1.1 : Int)) && decide (x.1.2.2.2.2.1 = (0 : Int)))
    fun x => [((firstFrom (difB x.1.1 x.1.2.1) 0 (List.length x.1.1)).isSome, .ret, equalSt x.1.1 x.1.2.1 false (List.length x.1.1) ((firstFrom (difB x.1.1 x.1.2.1) 0 (List.length x.1.1)).getD 0)), (true, .exit 0, equalSt x.1.1 x.1.2.1 x.1.2.2.1 (List.length x.1.1) (List.length x.1.1))]
theorem equal_lok : LoopOK P0 H.slices_Equal_api_Record_api_Record 0 L.slices_Equal_api_Record_api_Record_4 equalLC :=
  loop_ok_of (env_ok env_nil) glob0 mixed0 noLoops V.slices_Equal_api_Record_api_Record_4 (by decide) fun ⟨⟨a, b, f, n, i, _⟩, _⟩ h hw => by
    simp only [Bool.and_eq_true, decide_eq_true_eq] at h
    obtain ⟨⟨h1, h3⟩, h2⟩ := h
    subst h2; subst h3
    have hm : List.length a ≤ maxL := hw.1.1.1
    unfold maxL at hm
    refine ⟨_, Eq.trans (search_rounds (S := equalSt a b f (List.length a)) (T := equalSt a b false (List.length a)) (p := difB a b) (n := List.length a) (e1 := .ret) (e2 := .exit 0) (s2 := equalSt a b f (List.length a) (List.length a)) (by simp) (by simp) (fun i hi K => ?_) (fun K => ?_) _ (List.length a) 0 (by omega)) search_pick⟩
    · unfold equalSt
      rw [equal_rd, cond_pos (by omega), cond_pos2 (by omega) (by omega), cond_pos2 (by omega) (by omega), Int.toNat_natCast, wrap64 (by omega) (by omega)]
      rfl
    · unfold equalSt
      rw [equal_rd, cond_neg (by omega)]
theorem equal_ev (a b : List Rec) : evFn (env []) H.slices_Equal_api_Record_api_Record (LPof [(4, equalLC)]) F.slices_Equal_api_Record_api_Record [.vl recT a, .vl recT b] [] (finT [.bool]) = bif (↑a.length : Int) != (↑b.length : Int) then some (false, ()) else bif decide (b.length = a.length) && decide ((↑a.length : Int) = (↑a.length : Int)) && true && (firstFrom (difB a b) 0 a.length).isSome then some (false, ()) else bif decide (b.length = a.length) && decide ((↑a.length : Int) = (↑a.length : Int)) && true && true then some (true, ()) else none := by kernel_rfl

def caseEqual : PCase := ⟨[.ty (.sl recT), .ty (.sl recT)], [.bool], fun x => (fun (a b : List Rec) => [(true, (decide (a = b), ()))]) x.1 x.2.1⟩
theorem equal_val (a b : List Rec) : evFn (env []) H.slices_Equal_api_Record_api_Record (LPof [(4, equalLC)]) F.slices_Equal_api_Record_api_Record [.vl recT a, .vl recT b] [] (finT [.bool]) = some (decide (a = b), ()) := by
  rw [equal_ev]
  by_cases h : b.length = a.length
  · have h1 : ((a.length : Int) != (b.length : Int)) = false := by simp; omega
    have := firstFrom_eq recEqB_eq recTy.zero h
    unfold difB
    rw [h1, this, decide_eq_true h]
    cases decide (a = b) <;> simp
  · have h1 : ((a.length : Int) != (b.length : Int)) = true := by simp; omega
    have h2 : a ≠ b := fun e => h (by rw [e])
    rw [h1, decide_eq_false h2]; rfl
theorem equal_ok : caseEqual.ok P0 I.slices_Equal_api_Record_api_Record := case_ok2 (H := H.slices_Equal_api_Record_api_Record) (E := env []) (env_ok env_nil) glob0 mixed0 G.slices_Equal_api_Record_api_Record Bd.slices_Equal_api_Record_api_Record (by kernel_rfl) (loops_good (tab := [(4, equalLC)]) (by kernel_rfl) (fun x hx => by simp at hx; subst hx; exact equal_lok)) fun ⟨a, b, ()⟩ y h hw => by
  obtain ⟨hc, rfl⟩ := pick_pre h
  exact equal_val a b
noncomputable abbrev consA1 : List (FuncId × Con) := [(I.slices_Equal_api_Record_api_Record, .pure (pureOf [caseEqual]))]
theorem consA1_ok : ∀ x ∈ consA1, HoldsC P0 x.1 x.2 := by
  intro x hx
  simp at hx
  subst hx
  exact ⟨pureOf_holds (by simp; exact equal_ok), C.slices_Equal_api_Record_api_Record⟩
theorem csame_ev (a b : Cmd) : evFn (env consA1) H.command_Same (LPof []) F.command_Same [valOf cmdT a, valOf cmdT b] [] (finT [.bool]) = Option.bind (bif a.fst == b.fst then bif a.snd.fst == b.snd.fst then bif a.snd.snd.fst == b.snd.snd.fst then bif a.snd.snd.snd.snd.fst == b.snd.snd.snd.snd.fst then bif a.snd.snd.snd.snd.snd.fst == b.snd.snd.snd.snd.snd.fst then bif a.snd.snd.snd.snd.snd.snd.fst == b.snd.snd.snd.snd.snd.snd.fst then bif a.snd.snd.snd.snd.snd.snd.snd.fst == b.snd.snd.snd.snd.snd.snd.snd.fst then bif a.snd.snd.snd.snd.snd.snd.snd.snd.fst == b.snd.snd.snd.snd.snd.snd.snd.snd.fst then bif a.snd.snd.snd.snd.snd.snd.snd.snd.snd.fst == b.snd.snd.snd.snd.snd.snd.snd.snd.snd.fst && (a.snd.snd.snd.snd.snd.snd.snd.snd.snd.snd.fst == b.snd.snd.snd.snd.snd.snd.snd.snd.snd.snd.fst && (a.snd.snd.snd.snd.snd.snd.snd.snd.snd.snd.snd.fst == b.snd.snd.snd.snd.snd.snd.snd.snd.snd.snd.snd.fst && (a.snd.snd.snd.snd.snd.snd.snd.snd.snd.snd.snd.snd == b.snd.snd.snd.snd.snd.snd.snd.snd.snd.snd.snd.snd && true))) then some (decide (a.snd.snd.snd.fst = b.snd.snd.snd.fst)) else some false else some false else some false else some false else some false else some false else some false else some false else some false) fun v => some (v, ()) := by kernel_rfl

def caseCsame : PCase := ⟨[.ty cmdT, .ty cmdT], [.bool], fun x => (fun (a b : Cmd) => [(true, (decide (a = b), ()))]) x.1 x.2.1⟩
theorem csame_val (a b : Cmd) : evFn (env consA1) H.command_Same (LPof []) F.command_Same [valOf cmdT a, valOf cmdT b] [] (finT [.bool]) = some (decide (a = b), ()) := by
  rw [csame_ev]; simp only [and_bif, Option.bind_some]; rw [cmd_eq]
theorem csame_ok : caseCsame.ok P0 I.command_Same := case_ok2 (H := H.command_Same) (E := env consA1) (env_ok consA1_ok) glob0 mixed0 G.command_Same Bd.command_Same (by kernel_rfl) noLoops fun ⟨a, b, ()⟩ y h hw => by
  obtain ⟨hc, rfl⟩ := pick_pre h
  exact csame_val a b
def caseGrow : VCase := ⟨[.lit .nils, .int .i64], [], .hs 0, [.arr 15 doneT []], fun ⟨_, n, ()⟩ () => [(decide (0 < n) && decide (n ≤ 1000000), (((0 : Nat), (0 : Nat)), ((List.replicate n.toNat doneT.zero, ()), ())))]⟩
theorem grow_val (n : Int) (hc : (decide (0 < n) && decide (n ≤ 1000000)) = true) : evFn (env []) H.slices_Grow_api_Done_api_Done (LPof []) F.slices_Grow_api_Done_api_Done [.nils, .int .i64 n] [] (finV (.hs 0) [.arr 15 doneT []] 0) = some (((0 : Nat), (0 : Nat)), ((List.replicate n.toNat doneT.zero, ()), ())) := by
  simp only [Bool.and_eq_true, decide_eq_true_eq] at hc
  have e : IntKind.i64.wrap (n - (0 : Int)) = n := by rw [wrap64 (by omega) (by omega)]; omega
  rw [grow_ev, e, cond_neg (by omega), cond_pos (by omega), cond_pos2 (by omega) (by omega)]
theorem grow_ok : caseGrow.e.ok P0 I.slices_Grow_api_Done_api_Done := vcase_ok (c := caseGrow) (H := H.slices_Grow_api_Done_api_Done) (E := env []) (env_ok env_nil) glob0 mixed0 G.slices_Grow_api_Done_api_Done Bd.slices_Grow_api_Done_api_Done (by kernel_rfl) noLoops fun ⟨_, n, ()⟩ () r h hw1 hw2 => by
  obtain ⟨hc, rfl⟩ := pick_pre h
  exact grow_val n hc
def caseGrow0 : VCase := ⟨[.lit .nils, .lit (.int .i64 0)], [], .vl doneT, [], fun _ () => [(true, (([] : List Done), ()))]⟩
theorem grow0_val  : evFn (env []) H.slices_Grow_api_Done_api_Done (LPof []) F.slices_Grow_api_Done_api_Done [.nils, .int .i64 0] [] (finV (.vl doneT) [] 0) = some (([] : List Done), ()) := by
  exact grow0_ev
theorem grow0_ok : caseGrow0.e.ok P0 I.slices_Grow_api_Done_api_Done := vcase_ok (c := caseGrow0) (H := H.slices_Grow_api_Done_api_Done) (E := env []) (env_ok env_nil) glob0 mixed0 G.slices_Grow_api_Done_api_Done Bd.slices_Grow_api_Done_api_Done (by kernel_rfl) noLoops fun _ () r h hw1 hw2 => by
  obtain ⟨hc, rfl⟩ := pick_pre h
  exact grow0_val
noncomputable abbrev consA20 : List (FuncId × Con) := [(I.slices_Grow_api_Done_api_Done, .eff (effOf [caseGrow0.e]))]
theorem consA20_ok : ∀ x ∈ consA20, HoldsC P0 x.1 x.2 := by
  intro x hx
  simp at hx
  subst hx
  exact ⟨fun args objs r objs2 h _ => effOf_holds (by simp; exact grow0_ok) args objs r objs2 h, C.slices_Grow_api_Done_api_Done⟩
noncomputable abbrev consA2 : List (FuncId × Con) := [(I.slices_Grow_api_Done_api_Done, .eff (effOf [caseGrow.e]))]
theorem consA2_ok : ∀ x ∈ consA2, HoldsC P0 x.1 x.2 := by
  intro x hx
  simp at hx
  subst hx
  exact ⟨fun args objs r objs2 h _ => effOf_holds (by simp; exact grow_ok) args objs r objs2 h, C.slices_Grow_api_Done_api_Done⟩
def lenS (b : List (List Done)) (i : Nat) : Nat := ((b.take i).map List.length).sum
theorem lenS_succ {b : List (List Done)} {i : Nat} (h : i < b.length) : lenS b (i + 1) = lenS b i + (b.getD i []).length := by
  unfold lenS
  rw [List.getD_eq_getElem?_getD, List.getElem?_eq_getElem h, List.take_add_one, List.getElem?_eq_getElem h]
  simp only [Option.toList_some, List.map_append, List.sum_append_nat, Option.getD_some, List.map_cons, List.map_nil, List.sum_cons, List.sum_nil, Nat.add_zero]
theorem lenS_mono (b : List (List Done)) : ∀ (m i : Nat), i + m = b.length → lenS b i ≤ lenS b b.length
  | 0, i, h => by rw [show i = b.length by omega]; exact Nat.le_refl _
  | m + 1, i, h => by
    have := lenS_mono b m (i + 1) (by omega)
    rw [lenS_succ (by omega)] at this
    omega
theorem lenS_le {b : List (List Done)} {i : Nat} (h : i ≤ b.length) : lenS b i ≤ lenS b b.length := lenS_mono b (b.length - i) i (by omega)
theorem flat_len (b : List (List Done)) (i : Nat) : (b.take i).flatten.length = lenS b i := by unfold lenS; rw [List.length_flatten]
theorem flat_succ {b : List (List Done)} {i : Nat} (h : i < b.length) : (b.take (i + 1)).flatten = (b.take i).flatten ++ b.getD i [] := by
  rw [List.getD_eq_getElem?_getD, List.getElem?_eq_getElem h, List.take_add_one, List.getElem?_eq_getElem h]
  simp only [Option.toList_some, List.flatten_append, Option.getD_some, List.flatten_cons, List.flatten_nil, List.append_nil]
def c3St (b : List (List Done)) (i : Nat) : St := ⟨[(0, .vl (.sl doneT) b), (3, .int .i64 (lenS b i : Nat)), (9, .vl (.sl doneT) b), (10, .int .i64 b.length), (11, .int .i64 i)], [], 0⟩
theorem c3_rounds {R : Type} (b : List (List Done)) (hb : lenS b b.length ≤ 1000000) (hm : b.length ≤ maxL) (K : Ex → St → Option R) : ∀ (m i : Nat), i + m = b.length → rounds (env []) H.slices_Concat_api_Done_api_Done 0 (LPof []) V.slices_Concat_api_Done_api_Done_3 L.slices_Concat_api_Done_api_Done_3 (m + 1) (c3St b i) K = K (.exit 0) (c3St b b.length)
  | 0, i, h => by
    obtain rfl : i = b.length := by omega
    rw [rounds_succ']
    refine (cc3_rd _ _ _ _ _ _).trans ?_
    rw [cond_neg (by omega)]
    rfl
  | m + 1, i, h => by
    have ih := c3_rounds b hb hm K m (i + 1) (by omega)
    unfold maxL at hm
    have h1 := lenS_succ (b := b) (i := i) (by omega)
    have h2 := lenS_le (b := b) (i := i + 1) (by omega)
    have e1 : IntKind.i64.wrap ((lenS b i : Nat) + ((b.getD i []).length : Int)) = ((lenS b (i + 1) : Nat) : Int) := by rw [wrap64 (by omega) (by omega), h1]; omega
    have e3 : IntKind.i64.wrap ((i : Int) + 1) = ((i + 1 : Nat) : Int) := by rw [wrap64 (by omega) (by omega)]; omega
    rw [rounds_succ']
    refine (cc3_rd _ _ _ _ _ _).trans ?_
    rw [cond_pos (by omega), cond_pos2 (by omega) (by omega), Int.toNat_natCast, e1, cond_neg (by omega), e3]
    exact ih
abbrev c3LC : LoopC := LoopC.of ⟨[(0, .vl (.sl doneT)), (3, .int .i64), (9, .vl (.sl doneT)), (10, .int .i64), (11, .int .i64)], []⟩ (fun x => decide (x.1.2.2.2.2.1 = (0 : Int)) && decide (x.1.2.1 = (0 : Int)) && decide (x.1.2.2.1 = x.1.1) && decide (x.1.2.2.2.1 = (List.length x.1.1 : Int)) && decide (lenS x.1.1 (List.length x.1.1) ≤ 1000000))
  fun x => [(true, .exit 0, c3St x.1.1 (List.length x.1.1))]
theorem c3_lok : LoopOK P0 H.slices_Concat_api_Done_api_Done 0 L.slices_Concat_api_Done_api_Done_3 c3LC :=
  loop_ok_of (env_ok env_nil) glob0 mixed0 noLoops V.slices_Concat_api_Done_api_Done_3 (by decide) fun ⟨⟨a, s, b, n, i, _⟩, _⟩ h hw => by
    simp only [Bool.and_eq_true, decide_eq_true_eq] at h
    obtain ⟨⟨⟨⟨rfl, rfl⟩, rfl⟩, rfl⟩, h5⟩ := h
    exact ⟨_, c3_rounds b h5 hw.1.1.1 _ b.length 0 (Nat.zero_add _)⟩
def c11St (b : List (List Done)) (i : Nat) : St := ⟨[(6, .hw 0), (25, .vl (.sl doneT) b), (26, .int .i64 b.length), (27, .int .i64 i)], [(0, .arr 15 doneT (b.take i).flatten [])], 1⟩
theorem c11_rounds {R : Type} (b : List (List Done)) (hb : lenS b b.length ≤ 1000000) (hm : b.length ≤ maxL) (K : Ex → St → Option R) : ∀ (m i : Nat), i + m = b.length → rounds (env []) H.slices_Concat_api_Done_api_Done 0 (LPof []) V.slices_Concat_api_Done_api_Done_11 L.slices_Concat_api_Done_api_Done_11 (m + 1) (c11St b i) K = K (.exit 2) (c11St b b.length)
  | 0, i, h => by
    obtain rfl : i = b.length := by omega
    rw [rounds_succ']
    refine (cc11b_rd _ _ _ _ _).trans ?_
    rw [cond_neg (by omega)]
    rfl
  | m + 1, i, h => by
    have ih := c11_rounds b hb hm K m (i + 1) (by omega)
    unfold maxL at hm
    have h2 := lenS_le (b := b) (i := i + 1) (by omega)
    have e1 := flat_succ (b := b) (i := i) (by omega)
    have e2 := flat_len b (i + 1)
    have e3 : IntKind.i64.wrap ((i : Int) + 1) = ((i + 1 : Nat) : Int) := by rw [wrap64 (by omega) (by omega)]; omega
    rw [rounds_succ']
    refine (cc11b_rd _ _ _ _ _).trans ?_
    rw [cond_pos (by omega), cond_pos2 (by omega) (by omega), Int.toNat_natCast, ← e1, e2, cond_pos (by omega), e3]
    exact ih
theorem c11_go {R : Type} (b : List (List Done)) (xs : List Done) (h0 : 0 < b.length) (hb : lenS b b.length ≤ 1000000) (hm : b.length ≤ maxL) (K : Ex → St → Option R) : ∃ m, rounds (env []) H.slices_Concat_api_Done_api_Done 0 (LPof []) V.slices_Concat_api_Done_api_Done_11 L.slices_Concat_api_Done_api_Done_11 m ⟨[(6, .hs 0 0 0), (25, .vl (.sl doneT) b), (26, .int .i64 b.length), (27, .int .i64 0)], [(0, .arr 15 doneT xs [])], 1⟩ K = K (.exit 2) (c11St b b.length) := by
  refine ⟨b.length - 1 + 1 + 1, ?_⟩
  have ih := c11_rounds b hb hm K (b.length - 1) 1 (by omega)
  have h2 := lenS_le (b := b) (i := 1) (by omega)
  have e1 := flat_succ (b := b) (i := 0) h0
  have e2 := flat_len b 1
  have e0 : (0 : Int).toNat = 0 := rfl
  have e4 : List.take 0 xs ++ b.getD 0 [] = (b.take 1).flatten := by rw [e1]; simp
  rw [rounds_succ']
  refine (cc11a_rd _ _ _ _ _).trans ?_
  rw [cond_pos (by omega), cond_pos2 (by omega) (by omega), e0, e4, e2, cond_pos (by omega)]
  exact ih
abbrev c11LC : LoopC := LoopC.of ⟨[(6, .hs 0), (25, .vl (.sl doneT)), (26, .int .i64), (27, .int .i64)], [.arr 15 doneT []]⟩ (fun x => decide (x.1.1.1 = 0) && decide (x.1.1.2 = 0) && decide (x.1.2.2.2.1 = (0 : Int)) && decide (x.1.2.2.1 = (List.length x.1.2.1 : Int)) && decide (0 < List.length x.1.2.1) && decide (lenS x.1.2.1 (List.length x.1.2.1) ≤ 1000000))
  fun x => [(true, .exit 2, c11St x.1.2.1 (List.length x.1.2.1))]
theorem c11_lok : LoopOK P0 H.slices_Concat_api_Done_api_Done 0 L.slices_Concat_api_Done_api_Done_11 c11LC :=
  loop_ok_of (env_ok env_nil) glob0 mixed0 noLoops V.slices_Concat_api_Done_api_Done_11 (by decide) fun ⟨⟨⟨o, q⟩, b, n, i, _⟩, ⟨⟨xs, _⟩, _⟩⟩ h hw => by
    simp only [Bool.and_eq_true, decide_eq_true_eq] at h
    obtain ⟨⟨⟨⟨⟨rfl, rfl⟩, rfl⟩, rfl⟩, h3⟩, h4⟩ := h
    exact c11_go b xs h3 h4 hw.1.2.1.1 _
theorem concat_ev (b : List (List Done)) : evFn (env consA2) H.slices_Concat_api_Done_api_Done (LPof [(3, c3LC), (11, c11LC)]) F.slices_Concat_api_Done_api_Done [.vl (.sl doneT) b] [] (finT [.sl doneT]) = bif decide (b = b) && decide ((↑b.length : Int) = (↑b.length : Int)) && decide (lenS b b.length ≤ 1000000) && true then bif decide ((0 : (Pat.int IntKind.i64).den) < (↑(lenS b b.length) : Int)) && decide ((↑(lenS b b.length) : Int) ≤ (1000000 : (Pat.int IntKind.i64).den)) then bif decide ((↑b.length : Int) = (↑b.length : Int)) && decide (0 < b.length) && decide (lenS b b.length ≤ 1000000) && true then some ((List.take b.length b).flatten, ()) else none else none else none := by kernel_rfl

theorem concat0_ev : evFn (env consA20) H.slices_Concat_api_Done_api_Done (loopsF (env consA20) H.slices_Concat_api_Done_api_Done 0 B.slices_Concat_api_Done_api_Done 3) F.slices_Concat_api_Done_api_Done [.vl (.sl doneT) []] [] (finT [.sl doneT]) = some ([], ()) := by kernel_rfl

end Go.Sim
namespace Go.Sim
set_option linter.unusedSimpArgs false
set_option linter.unusedVariables false
set_option maxRecDepth 10000
def joinsB (b : List (List Done)) : Bool := List.isEmpty b || (decide (0 < lenS b b.length) && decide (lenS b b.length ≤ 1000000))
def caseConcat : PCase := ⟨[.ty (.sl (.sl doneT))], [.sl doneT], fun x => [(joinsB x.1, (List.flatten x.1, ()))]⟩
def caseConcatA : PCase := ⟨[.ty (.sl (.sl doneT))], [.sl doneT], fun x => [(decide (0 < lenS x.1 (List.length x.1)) && decide (lenS x.1 (List.length x.1) ≤ 1000000), (List.flatten x.1, ()))]⟩
def caseConcat0 : PCase := ⟨[.ty (.sl (.sl doneT))], [.sl doneT], fun x => [(List.isEmpty x.1, (List.flatten x.1, ()))]⟩
theorem concatA_ok : caseConcatA.ok P0 I.slices_Concat_api_Done_api_Done := case_ok2 (H := H.slices_Concat_api_Done_api_Done) (E := env consA2) (env_ok consA2_ok) glob0 mixed0 G.slices_Concat_api_Done_api_Done Bd.slices_Concat_api_Done_api_Done (by kernel_rfl) (loops_good (tab := [(3, c3LC), (11, c11LC)]) (by kernel_rfl) (fun x hx => by simp at hx; rcases hx with rfl | rfl; exact c3_lok; exact c11_lok)) fun ⟨b, ()⟩ y h hw => by
  obtain ⟨hc, rfl⟩ := pick_pre h
  simp only [Bool.and_eq_true, decide_eq_true_eq] at hc
  have h0 : 0 < b.length := by
    rcases Nat.eq_zero_or_pos b.length with h | h
    · have : lenS b b.length = 0 := by rw [h]; rfl
      omega
    · exact h
  refine (concat_ev b).trans ?_
  have e1 : decide ((0 : (Pat.int IntKind.i64).den) < ((lenS b b.length : Nat) : Int)) = true := decide_eq_true (show (0 : Int) < ((lenS b b.length : Nat) : Int) by omega)
  have e2 : decide (((lenS b b.length : Nat) : Int) ≤ (1000000 : (Pat.int IntKind.i64).den)) = true := decide_eq_true (show ((lenS b b.length : Nat) : Int) ≤ 1000000 by omega)
  simp only [e1, e2, hc.2, h0, decide_true, Bool.and_self, cond_true, List.take_length]
  rfl
theorem concat0_ok : caseConcat0.ok P0 I.slices_Concat_api_Done_api_Done := case_ok2 (H := H.slices_Concat_api_Done_api_Done) (E := env consA20) (env_ok consA20_ok) glob0 mixed0 G.slices_Concat_api_Done_api_Done Bd.slices_Concat_api_Done_api_Done (by kernel_rfl) (loopsF_good (env_ok consA20_ok) glob0 mixed0 (by kernel_rfl) 3) fun ⟨b, ()⟩ y h hw => by
  obtain ⟨hc, rfl⟩ := pick_pre h
  cases b with
  | nil => exact concat0_ev
  | cons x r => cases hc
theorem concat_ok : caseConcat.ok P0 I.slices_Concat_api_Done_api_Done := fun ⟨b, ()⟩ y h hw => by
  obtain ⟨hc, rfl⟩ := pick_pre h
  cases h0 : List.isEmpty b with
  | true =>
    have hp : pick (caseConcat0.f (b, ())) = some (List.flatten b, ()) := by show pick [(List.isEmpty b, _)] = _; rw [h0]; rfl
    exact concat0_ok (b, ()) _ hp hw
  | false =>
    have hc : joinsB b = true := hc
    unfold joinsB at hc
    rw [h0, Bool.false_or] at hc
    have hp : pick (caseConcatA.f (b, ())) = some (List.flatten b, ()) := by show pick [(decide (0 < lenS b b.length) && decide (lenS b b.length ≤ 1000000), _)] = _; rw [hc]; rfl
    exact concatA_ok (b, ()) _ hp hw
noncomputable abbrev consB1 : List (FuncId × Con) := [(I.command_Same, .pure (pureOf [caseCsame])), (I.slices_Concat_api_Done_api_Done, .pure (pureOf [caseConcat]))]
theorem consB1_ok : ∀ x ∈ consB1, HoldsC P0 x.1 x.2 := by
  intro x hx
  simp at hx
  rcases hx with rfl | rfl
  · exact ⟨pureOf_holds (by simp; exact csame_ok), C.command_Same⟩
  · exact ⟨pureOf_holds (by simp; exact concat_ok), C.slices_Concat_api_Done_api_Done⟩
theorem one_rd {R : Type} (ys : List Done) (f : Bool) (n i : Int) (es : List (Int × Done)) (K : Ex → St → Option R) : roundK (env consB1) H.trace_One 0 (LPof []) V.trace_One_3 L.trace_One_3 ⟨[(2, .bool f), (3, .mp 0), (10, .vl doneT ys), (11, .int .i64 n), (12, .int .i64 i)], [(0, .map (.int .i64) doneT es)], 1⟩ K = bif decide (i < n) then bif decide ((0 : Int) ≤ i) && decide (i < (↑ys.length : Int)) then Option.bind (bif ((mget (kt := Ty.int IntKind.i64) (vt := doneT)) (ys.getD i.toNat doneT.zero).fst es).isSome then bif (((mget (kt := Ty.int IntKind.i64) (vt := doneT)) (ys.getD i.toNat doneT.zero).fst es).getD doneT.zero).snd.fst != (ys.getD i.toNat doneT.zero).snd.fst then some true else some !decide ((((mget (kt := Ty.int IntKind.i64) (vt := doneT)) (ys.getD i.toNat doneT.zero).fst es).getD doneT.zero).snd.snd = (ys.getD i.toNat doneT.zero).snd.snd) else some false) fun v => bif v then K Ex.ret { slots := [(2, AV.bool false), (3, AV.mp 0), (10, AV.vl ((Ty.int IntKind.i64).pair ((Ty.int IntKind.i64).pair ((Ty.int IntKind.i64).pair ((Ty.int IntKind.i64).pair ((Ty.int IntKind.i64).pair (recTy.sl.pair (Ty.str.pair ((Ty.int IntKind.i64).pair ((Ty.int IntKind.i64).pair ((Ty.int IntKind.i64).pair ((Ty.int IntKind.u32).pair confTy))))))))))) ys), (11, AV.int IntKind.i64 n), (12, AV.int IntKind.i64 i)], objs := [(0, AObj.map (Ty.int IntKind.i64) ((Ty.int IntKind.i64).pair ((Ty.int IntKind.i64).pair ((Ty.int IntKind.i64).pair ((Ty.int IntKind.i64).pair ((Ty.int IntKind.i64).pair (recTy.sl.pair (Ty.str.pair ((Ty.int IntKind.i64).pair ((Ty.int IntKind.i64).pair ((Ty.int IntKind.i64).pair ((Ty.int IntKind.u32).pair confTy))))))))))) es)], nx := 1 } else bif decide (es.length < 9223372036854775807) then K Ex.normal { slots := [(2, AV.bool f), (3, AV.mp 0), (10, AV.vl ((Ty.int IntKind.i64).pair ((Ty.int IntKind.i64).pair ((Ty.int IntKind.i64).pair ((Ty.int IntKind.i64).pair ((Ty.int IntKind.i64).pair (recTy.sl.pair (Ty.str.pair ((Ty.int IntKind.i64).pair ((Ty.int IntKind.i64).pair ((Ty.int IntKind.i64).pair ((Ty.int IntKind.u32).pair confTy))))))))))) ys), (11, AV.int IntKind.i64 n), (12, AV.int IntKind.i64 (IntKind.i64.wrap (i + (1 : Int))))], objs := [(0, AObj.map (Ty.int IntKind.i64) ((Ty.int IntKind.i64).pair ((Ty.int IntKind.i64).pair ((Ty.int IntKind.i64).pair ((Ty.int IntKind.i64).pair ((Ty.int IntKind.i64).pair (recTy.sl.pair (Ty.str.pair ((Ty.int IntKind.i64).pair ((Ty.int IntKind.i64).pair ((Ty.int IntKind.i64).pair ((Ty.int IntKind.u32).pair confTy))))))))))) ((mset (kt := Ty.int IntKind.i64) (vt := doneT)) (ys.getD i.toNat doneT.zero).fst (ys.getD i.toNat doneT.zero) es))], nx := 1 } else none else none else K (Ex.exit 0) { slots := [(2, AV.bool f), (3, AV.mp 0), (10, AV.vl ((Ty.int IntKind.i64).pair ((Ty.int IntKind.i64).pair ((Ty.int IntKind.i64).pair ((Ty.int IntKind.i64).pair ((Ty.int IntKind.i64).pair (recTy.sl.pair (Ty.str.pair ((Ty.int IntKind.i64).pair ((Ty.int IntKind.i64).pair ((Ty.int IntKind.i64).pair ((Ty.int IntKind.u32).pair confTy))))))))))) ys), (11, AV.int IntKind.i64 n), (12, AV.int IntKind.i64 i)], objs := [(0, AObj.map (Ty.int IntKind.i64) ((Ty.int IntKind.i64).pair ((Ty.int IntKind.i64).pair ((Ty.int IntKind.i64).pair ((Ty.int IntKind.i64).pair ((Ty.int IntKind.i64).pair (recTy.sl.pair (Ty.str.pair ((Ty.int IntKind.i64).pair ((Ty.int IntKind.i64).pair ((Ty.int IntKind.i64).pair ((Ty.int IntKind.u32).pair confTy))))))))))) es)], nx := 1 } := by kernel_rfl

def mgD (k : Int) (es : List (Int × Done)) : Option Done := mget (kt := .int .i64) (vt := doneT) k es
def metD (ys : List Done) : Nat → List (Int × Done)
  | 0 => []
  | j + 1 => mset (kt := .int .i64) (vt := doneT) (ys.getD j doneT.zero).1 (ys.getD j doneT.zero) (metD ys j)
def badD (ys : List Done) (j : Nat) : Bool := bif (mgD (ys.getD j doneT.zero).1 (metD ys j)).isSome then bif ((mgD (ys.getD j doneT.zero).1 (metD ys j)).getD doneT.zero).2.1 != (ys.getD j doneT.zero).2.1 then true else !decide (((mgD (ys.getD j doneT.zero).1 (metD ys j)).getD doneT.zero).2.2 = (ys.getD j doneT.zero).2.2) else false
def oneB (ys : List Done) : Bool := (firstFrom (badD ys) 0 ys.length).isNone
theorem metD_len (ys : List Done) : ∀ j, (metD ys j).length ≤ j
  | 0 => Nat.le_refl _
  | j + 1 => by
    have h1 := mset_len (kt := .int .i64) (vt := doneT) (k := (ys.getD j doneT.zero).1) (v := ys.getD j doneT.zero) (metD ys j)
    have h2 := metD_len ys j
    show (mset _ _ _).length ≤ _
    omega
theorem mgD_set (k k' : Int) (v : Done) : ∀ es : List (Int × Done), mgD k (mset (kt := .int .i64) (vt := doneT) k' v es) = bif k == k' then some v else mgD k es
  | [] => by
    show (bif k == k' then some v else none) = _
    rfl
  | e :: es => by
    have ih := mgD_set k k' v es
    show mgD k (bif k' == e.1 then (k', v) :: es else e :: mset (kt := .int .i64) (vt := doneT) k' v es) = bif k == k' then some v else bif k == e.1 then some e.2 else mgD k es
    cases h1 : k' == e.1 with
    | true =>
      have h1 : k' = e.1 := eq_of_beq h1
      rw [cond_true]
      show (bif k == k' then some v else mgD k es) = _
      rw [← h1]
      cases k == k' <;> rfl
    | false =>
      rw [cond_false]
      show (bif k == e.1 then some e.2 else mgD k (mset (kt := .int .i64) (vt := doneT) k' v es)) = _
      rw [ih]
      cases h2 : k == e.1 with
      | false => rfl
      | true =>
        have h2 : k = e.1 := eq_of_beq h2
        have h3 : (k == k') = false := by
          cases h : k == k' with
          | false => rfl
          | true => have h := eq_of_beq h; rw [← h, h2] at h1; simp at h1
        rw [h3]
        rfl
theorem badD_false {ys : List Done} {j : Nat} (h : badD ys j = false) {x : Done} (hx : mgD (ys.getD j doneT.zero).1 (metD ys j) = some x) : x.2 = (ys.getD j doneT.zero).2 := by
  unfold badD at h
  rw [hx] at h
  simp only [Option.isSome_some, cond_true, Option.getD_some] at h
  cases h1 : x.2.1 != (ys.getD j doneT.zero).2.1 with
  | true => rw [h1] at h; cases h
  | false =>
    rw [h1, cond_false] at h
    have h2 : x.2.1 = (ys.getD j doneT.zero).2.1 := by simpa using h1
    have h3 : x.2.2 = (ys.getD j doneT.zero).2.2 := by simpa using h
    exact Prod.ext h2 h3
/-- As long as nothing parted, each index has what all that went by had. -/
theorem metD_has {ys : List Done} : ∀ {j : Nat}, (∀ k, k < j → badD ys k = false) → ∀ i, i < j → ∃ x, mgD (ys.getD i doneT.zero).1 (metD ys j) = some x ∧ x.2 = (ys.getD i doneT.zero).2
  | 0, _, i, hi => by omega
  | j + 1, h, i, hi => by
    have ih := metD_has (ys := ys) (j := j) (fun k hk => h k (by omega))
    have hb := h j (by omega)
    show ∃ x, mgD _ (mset (kt := .int .i64) (vt := doneT) _ _ _) = some x ∧ _
    rw [mgD_set]
    rcases Nat.lt_or_ge i j with hij | hij
    · obtain ⟨x, hx, h2⟩ := ih i hij
      cases he : (ys.getD i doneT.zero).1 == (ys.getD j doneT.zero).1 with
      | false => exact ⟨x, hx, h2⟩
      | true =>
        have he : (ys.getD i doneT.zero).1 = (ys.getD j doneT.zero).1 := eq_of_beq he
        rw [he] at hx
        have := badD_false hb hx
        exact ⟨_, rfl, by rw [← this, h2]⟩
    · have : i = j := by omega
      subst this
      rw [beq_self_eq_true]
      exact ⟨_, rfl, rfl⟩
/-- What the map tells went by. -/
theorem metD_of {ys : List Done} : ∀ {j : Nat} {k : Int} {x : Done}, mgD k (metD ys j) = some x → ∃ i, i < j ∧ (ys.getD i doneT.zero).1 = k ∧ x = ys.getD i doneT.zero
  | 0, k, x, h => by cases h
  | j + 1, k, x, h => by
    have h : mgD k (mset (kt := .int .i64) (vt := doneT) _ _ (metD ys j)) = some x := h
    rw [mgD_set] at h
    cases he : k == (ys.getD j doneT.zero).1 with
    | false =>
      rw [he] at h
      obtain ⟨i, h1, h2, h3⟩ := metD_of h
      exact ⟨i, by omega, h2, h3⟩
    | true =>
      rw [he] at h
      have he : k = (ys.getD j doneT.zero).1 := eq_of_beq he
      simp only [cond_true, Option.some.injEq] at h
      exact ⟨j, by omega, he.symm, h.symm⟩
theorem one_true {ys : List Done} (h : ∀ i j, i < ys.length → j < ys.length → (ys.getD i doneT.zero).1 = (ys.getD j doneT.zero).1 → (ys.getD i doneT.zero).2 = (ys.getD j doneT.zero).2) : oneB ys = true := by
  unfold oneB
  cases hf : firstFrom (badD ys) 0 ys.length with
  | none => rfl
  | some j =>
    obtain ⟨_, h2, h3, _⟩ := firstFrom_spec hf
    exfalso
    unfold badD at h3
    cases hm : mgD (ys.getD j doneT.zero).1 (metD ys j) with
    | none => rw [hm] at h3; cases h3
    | some x =>
      obtain ⟨i, hi, e1, rfl⟩ := metD_of hm
      have e2 := h i j (by omega) (by omega) e1
      rw [hm] at h3
      simp only [Option.isSome_some, cond_true, Option.getD_some, e2, bne_self_eq_false, cond_false, decide_true, Bool.not_true] at h3
      cases h3
theorem one_false {ys : List Done} {i j : Nat} (hij : i < j) (hj : j < ys.length) (h1 : (ys.getD i doneT.zero).1 = (ys.getD j doneT.zero).1) (h2 : (ys.getD i doneT.zero).2 ≠ (ys.getD j doneT.zero).2) : oneB ys = false := by
  unfold oneB
  cases hf : firstFrom (badD ys) 0 ys.length with
  | some j => rfl
  | none =>
    have hn := firstFrom_none hf
    obtain ⟨x, hx, h3⟩ := metD_has (j := j) (fun k hk => hn k (Nat.zero_le _) (by omega)) i hij
    rw [h1] at hx
    have := badD_false (hn j (Nat.zero_le _) (by omega)) hx
    exact absurd (h3.symm.trans this) h2
def oSt (ys : List Done) (f : Bool) (j : Nat) : St := ⟨[(2, .bool f), (3, .mp 0), (10, .vl doneT ys), (11, .int .i64 ys.length), (12, .int .i64 j)], [(0, .map (.int .i64) doneT (metD ys j))], 1⟩
abbrev oneLC : LoopC := LoopC.of ⟨[(2, .bool), (3, .lit (.mp 0)), (10, .vl doneT), (11, .int .i64), (12, .int .i64)], [.map (.int .i64) doneT]⟩ (fun x => decide (x.1.2.2.2.2.1 = (0 : Int)) && decide (x.1.2.2.2.1 = (List.length x.1.2.2.1 : Int)) && List.isEmpty x.2.1)
  fun x => [((firstFrom (badD x.1.2.2.1) 0 (List.length x.1.2.2.1)).isSome, .ret, oSt x.1.2.2.1 false ((firstFrom (badD x.1.2.2.1) 0 (List.length x.1.2.2.1)).getD 0)), (true, .exit 0, oSt x.1.2.2.1 x.1.1 (List.length x.1.2.2.1))]
theorem one_lok : LoopOK P0 H.trace_One 0 L.trace_One_3 oneLC :=
  loop_ok_of (env_ok consB1_ok) glob0 mixed0 noLoops V.trace_One_3 (by decide) fun ⟨⟨f, _, ys, n, i, _⟩, ⟨es, _⟩⟩ h hw => by
    simp only [Bool.and_eq_true, decide_eq_true_eq] at h
    obtain ⟨⟨rfl, rfl⟩, h3⟩ := h
    obtain rfl : es = [] := List.isEmpty_iff.1 h3
    have hm : List.length ys ≤ maxL := hw.1.2.2.1.1
    unfold maxL at hm
    refine ⟨_, Eq.trans (search_rounds (S := oSt ys f) (T := oSt ys false) (p := badD ys) (n := List.length ys) (e1 := .ret) (e2 := .exit 0) (s2 := oSt ys f (List.length ys)) (by simp) (by simp) (fun i hi K => ?_) (fun K => ?_) _ (List.length ys) 0 (by omega)) search_pick⟩
    · have hl := metD_len ys i
      refine (one_rd _ _ _ _ _ _).trans ?_
      rw [cond_pos (by omega), cond_pos2 (by omega) (by omega), Int.toNat_natCast, wrap64 (by omega) (by omega), cond_pos (p := (metD ys i).length < 9223372036854775807) (by omega)]
      have e : (bif (mget (kt := .int .i64) (vt := doneT) (ys.getD i doneT.zero).1 (metD ys i)).isSome then bif ((mget (kt := .int .i64) (vt := doneT) (ys.getD i doneT.zero).1 (metD ys i)).getD doneT.zero).2.1 != (ys.getD i doneT.zero).2.1 then some true else some !decide (((mget (kt := .int .i64) (vt := doneT) (ys.getD i doneT.zero).1 (metD ys i)).getD doneT.zero).2.2 = (ys.getD i doneT.zero).2.2) else some false) = some (badD ys i) := by
        unfold badD mgD
        cases (mget (kt := .int .i64) (vt := doneT) (ys.getD i doneT.zero).1 (metD ys i)).isSome with
        | false => rfl
        | true => exact some_bif
      refine (congrArg (fun o => Option.bind o _) e).trans ?_
      rfl
    · refine (one_rd _ _ _ _ _ _).trans ?_
      rw [cond_neg (by omega)]
      rfl
theorem one_ev (b : List (List Done)) : evFn (env consB1) H.trace_One (LPof [(3, oneLC)]) F.trace_One [.vl (.sl doneT) b] [] (finT [.bool]) = bif joinsB b then bif decide ((↑b.flatten.length : Int) = (↑b.flatten.length : Int)) && true && (firstFrom (badD b.flatten) 0 b.flatten.length).isSome then some (false, ()) else bif decide ((↑b.flatten.length : Int) = (↑b.flatten.length : Int)) && true && true then some (true, ()) else none else none := by kernel_rfl

def caseOne : PCase := ⟨[.ty (.sl (.sl doneT))], [.bool], fun x => (fun (b : List (List Done)) => [(joinsB b, (oneB b.flatten, ()))]) x.1⟩
theorem one_val (b : List (List Done)) (hc : (joinsB b) = true) : evFn (env consB1) H.trace_One (LPof [(3, oneLC)]) F.trace_One [.vl (.sl doneT) b] [] (finT [.bool]) = some (oneB b.flatten, ()) := by
  rw [one_ev, hc]
  unfold oneB
  cases firstFrom (badD b.flatten) 0 b.flatten.length <;> simp
theorem one_ok : caseOne.ok P0 I.trace_One := case_ok2 (H := H.trace_One) (E := env consB1) (env_ok consB1_ok) glob0 mixed0 G.trace_One Bd.trace_One (by kernel_rfl) (loops_good (tab := [(3, oneLC)]) (by kernel_rfl) (fun x hx => by simp at hx; subst hx; exact one_lok)) fun ⟨b, ()⟩ y h hw => by
  obtain ⟨hc, rfl⟩ := pick_pre h
  exact one_val b hc
noncomputable abbrev consC1 : List (FuncId × Con) := [(I.trace_One, .eff (brwOf caseOne))]
theorem consC1_ok : ∀ x ∈ consC1, HoldsC P0 x.1 x.2 := by
  intro x hx
  simp at hx
  subst hx
  exact brw_holds one_ok rfl C.trace_One
def H.alive26 : Hint := { H.cooperagelaw26_alive with vs := [] }
theorem alive26_ev : evFn (env consC1) H.alive26 (LPof []) F.cooperagelaw26_alive [] [] (finT [.bool]) = some (true, ()) := by kernel_rfl

def H.parts2 : Hint := { H.cooperagelaw26_TraceParts with vs := [] }
theorem parts_rd {R : Type} (n a : Int) (t : Bool) (i : Int) (xs ys : List Done) (K : Ex → St → Option R) : roundK (env consC1) H.parts2 0 (LPof []) V.cooperagelaw26_TraceParts_7 L.cooperagelaw26_TraceParts_7 ⟨[(0, .int .i64 n), (1, .int .i64 a), (2, .bool t), (8, .hw 0), (9, .hw 1), (10, .int .i64 i)], [(0, .arr 15 doneT xs []), (1, .arr 15 doneT ys [])], 2⟩ K = bif decide (i ≤ n) then bif decide ((xs ++ [(i, (1 : Int), (7 : Int), (0 : Int), (0 : Int), [], [], (0 : Int), (0 : Int), (0 : Int), (0 : Int), (0 : Int), (0 : Int), (0 : Int), (0 : Int))]).length * 144 ≤ 140737488355328) then K Ex.normal { slots := [(0, AV.int IntKind.i64 n), (1, AV.int IntKind.i64 a), (2, AV.bool t), (8, AV.hw 0), (9, AV.hw 1), (10, AV.int IntKind.i64 (IntKind.i64.wrap (i + (1 : Int))))], objs := [(0, AObj.arr 15 ((Ty.int IntKind.i64).pair ((Ty.int IntKind.i64).pair ((Ty.int IntKind.i64).pair ((Ty.int IntKind.i64).pair ((Ty.int IntKind.i64).pair (recTy.sl.pair (Ty.str.pair ((Ty.int IntKind.i64).pair ((Ty.int IntKind.i64).pair ((Ty.int IntKind.i64).pair ((Ty.int IntKind.u32).pair confTy))))))))))) (xs ++ [(i, (1 : Int), (7 : Int), (0 : Int), (0 : Int), [], [], (0 : Int), (0 : Int), (0 : Int), (0 : Int), (0 : Int), (0 : Int), (0 : Int), (0 : Int))]) []), (1, AObj.arr 15 ((Ty.int IntKind.i64).pair ((Ty.int IntKind.i64).pair ((Ty.int IntKind.i64).pair ((Ty.int IntKind.i64).pair ((Ty.int IntKind.i64).pair (recTy.sl.pair (Ty.str.pair ((Ty.int IntKind.i64).pair ((Ty.int IntKind.i64).pair ((Ty.int IntKind.i64).pair ((Ty.int IntKind.u32).pair confTy))))))))))) ys [])], nx := 2 } else none else K (Ex.exit 0) { slots := [(0, AV.int IntKind.i64 n), (1, AV.int IntKind.i64 a), (2, AV.bool t), (8, AV.hw 0), (9, AV.hw 1), (10, AV.int IntKind.i64 i)], objs := [(0, AObj.arr 15 ((Ty.int IntKind.i64).pair ((Ty.int IntKind.i64).pair ((Ty.int IntKind.i64).pair ((Ty.int IntKind.i64).pair ((Ty.int IntKind.i64).pair (recTy.sl.pair (Ty.str.pair ((Ty.int IntKind.i64).pair ((Ty.int IntKind.i64).pair ((Ty.int IntKind.i64).pair ((Ty.int IntKind.u32).pair confTy))))))))))) xs []), (1, AObj.arr 15 ((Ty.int IntKind.i64).pair ((Ty.int IntKind.i64).pair ((Ty.int IntKind.i64).pair ((Ty.int IntKind.i64).pair ((Ty.int IntKind.i64).pair (recTy.sl.pair (Ty.str.pair ((Ty.int IntKind.i64).pair ((Ty.int IntKind.i64).pair ((Ty.int IntKind.i64).pair ((Ty.int IntKind.u32).pair confTy))))))))))) ys [])], nx := 2 } := by kernel_rfl

def caseAlive26 : PCase := ⟨[], [.bool], fun _ => [(true, (true, ()))]⟩
theorem alive26_ok : caseAlive26.ok P0 I.cooperagelaw26_alive := case_ok2 (H := H.alive26) (E := env consC1) (env_ok consC1_ok) glob0 mixed0 G.cooperagelaw26_alive Bd.cooperagelaw26_alive (by kernel_rfl) noLoops fun x y h hw => by
  obtain ⟨hc, rfl⟩ := pick_pre h
  exact alive26_ev
def aD (i : Nat) : Done := ((i : Int) + 1, 1, 7, 0, 0, [], [], 0, 0, 0, 0, 0, 0, 0, 0)
def aL (k : Nat) : List Done := (List.range k).map aD
theorem aL_succ (k : Nat) : aL (k + 1) = aL k ++ [aD k] := by unfold aL; rw [List.range_succ, List.map_append]; rfl
theorem aL_len (k : Nat) : (aL k).length = k := by simp [aL]
theorem aL_at {k i : Nat} (h : i < k) : (aL k).getD i doneT.zero = aD i := by
  unfold aL
  rw [List.getD_eq_getElem?_getD, List.getElem?_map, List.getElem?_range h]
  rfl
def paSt (n a : Int) (t : Bool) (xs ys : List Done) (i : Int) : St := ⟨[(0, .int .i64 n), (1, .int .i64 a), (2, .bool t), (8, .hw 0), (9, .hw 1), (10, .int .i64 i)], [(0, .arr 15 doneT xs []), (1, .arr 15 doneT ys [])], 2⟩
theorem pa_rounds {R : Type} (n : Nat) (hn : n ≤ 30) (a : Int) (t : Bool) (ys : List Done) (K : Ex → St → Option R) : ∀ (m k : Nat), k + m = n → rounds (env consC1) H.parts2 0 (LPof []) V.cooperagelaw26_TraceParts_7 L.cooperagelaw26_TraceParts_7 (m + 1) (paSt n a t (aL k) ys ((k : Int) + 1)) K = K (.exit 0) (paSt n a t (aL n) ys ((n : Int) + 1))
  | 0, k, h => by
    obtain rfl : k = n := by omega
    rw [rounds_succ']
    refine (parts_rd _ _ _ _ _ _ _).trans ?_
    rw [cond_neg (by omega)]
    rfl
  | m + 1, k, h => by
    have ih := pa_rounds n hn a t ys K m (k + 1) (by omega)
    have e1 := aL_succ k
    unfold aD at e1
    have e2 := aL_len (k + 1)
    have e3 : IntKind.i64.wrap ((k : Int) + 1 + 1) = ((k + 1 : Nat) : Int) + 1 := by rw [wrap64 (by omega) (by omega)]; omega
    rw [rounds_succ']
    refine (parts_rd _ _ _ _ _ _ _).trans ?_
    rw [cond_pos (by omega), ← e1, e2, cond_pos (by omega), e3]
    exact ih
abbrev paLC : LoopC := LoopC.of ⟨[(0, .int .i64), (1, .int .i64), (2, .bool), (8, .lit (.hw 0)), (9, .lit (.hw 1)), (10, .int .i64)], [.arr 15 doneT [], .arr 15 doneT []]⟩ (fun x => decide (x.1.2.2.2.2.2.1 = (1 : Int)) && decide (0 ≤ x.1.1) && decide (x.1.1 ≤ 30) && List.isEmpty x.2.1.1)
  fun x => [(true, .exit 0, paSt x.1.1 x.1.2.1 x.1.2.2.1 (aL x.1.1.toNat) x.2.2.1.1 (x.1.1 + 1))]
theorem pa_go {R : Type} (n a : Int) (t : Bool) (ys : List Done) (h0 : 0 ≤ n) (h1 : n ≤ 30) (K : Ex → St → Option R) : ∃ m, rounds (env consC1) H.parts2 0 (LPof []) V.cooperagelaw26_TraceParts_7 L.cooperagelaw26_TraceParts_7 m (paSt n a t [] ys 1) K = K (.exit 0) (paSt n a t (aL n.toNat) ys (n + 1)) := by
  obtain ⟨k, rfl⟩ := Int.eq_ofNat_of_zero_le h0
  rw [Int.toNat_natCast]
  exact ⟨_, pa_rounds k (by omega) a t ys K k 0 (Nat.zero_add _)⟩
theorem pa_lok : LoopOK P0 H.parts2 0 L.cooperagelaw26_TraceParts_7 paLC :=
  loop_ok_of (env_ok consC1_ok) glob0 mixed0 noLoops V.cooperagelaw26_TraceParts_7 (by decide) fun ⟨⟨n, a, t, _, _, i, _⟩, ⟨⟨xs, _⟩, ⟨ys, _⟩, _⟩⟩ h hw => by
    simp only [Bool.and_eq_true, decide_eq_true_eq] at h
    obtain ⟨⟨⟨rfl, h2⟩, h3⟩, h4⟩ := h
    obtain rfl : xs = [] := List.isEmpty_iff.1 h4
    exact pa_go n a t ys h2 h3 _
noncomputable abbrev consD1 : List (FuncId × Con) := [(I.cooperagelaw26_alive, .pure (pureOf [caseAlive26]))] ++ consC1
theorem consD1_ok : ∀ x ∈ consD1, HoldsC P0 x.1 x.2 := by
  intro x hx
  rcases List.mem_append.1 hx with hx | hx
  · simp at hx
    subst hx
    exact ⟨pureOf_holds (by simp; exact alive26_ok), C.cooperagelaw26_alive⟩
  · exact consC1_ok x hx
theorem parts_ev (n a : Int) (t : Bool) : evFn (env consD1) H.parts2 (LPof [(7, paLC)]) F.cooperagelaw26_TraceParts [.int .i64 n, .int .i64 a, .bool t] [] (finT [.bool]) = Option.bind (bif decide (n < (1 : Int)) then some true else bif decide (n > (30 : Int)) then some true else some (decide (a < (0 : Int)))) fun v => bif v then some (true, ()) else bif decide ((0 : (Pat.int IntKind.i64).den) ≤ n) && decide (n ≤ (30 : (Pat.int IntKind.i64).den)) && true && true then bif decide (([] ++ aL n.toNat).length * 144 ≤ 140737488355328) then bif decide (n = (0 : Int)) then none else bif decide ((0 : Int) ≤ a.tmod n) && decide (a.tmod n ≤ (↑(aL n.toNat).length : Int)) then bif joinsB ([] ++ [aL n.toNat ++ [], [] ++ aL n.toNat ++ [], List.take (a.tmod n).toNat (aL n.toNat ++ [])]) then bif !oneB ([] ++ [aL n.toNat ++ [], [] ++ aL n.toNat ++ [], List.take (a.tmod n).toNat (aL n.toNat ++ [])]).flatten then some (false, ()) else bif t then bif decide (n = (0 : Int)) then none else bif decide ((0 : Int) ≤ a.tmod n) && decide (a.tmod n < (↑([] ++ aL n.toNat).length : Int)) then bif joinsB ([] ++ [aL n.toNat ++ [], ([] ++ aL n.toNat).set (a.tmod n).toNat ((([] ++ aL n.toNat).getD (a.tmod n).toNat ((Ty.int IntKind.i64).pair ((Ty.int IntKind.i64).pair ((Ty.int IntKind.i64).pair ((Ty.int IntKind.i64).pair ((Ty.int IntKind.i64).pair (((Ty.int IntKind.i64).pair ((Ty.int IntKind.i64).pair (Ty.str.pair (Ty.str.pair Ty.bool)))).sl.pair (Ty.str.pair ((Ty.int IntKind.i64).pair ((Ty.int IntKind.i64).pair ((Ty.int IntKind.i64).pair ((Ty.int IntKind.u32).pair ((Ty.int IntKind.i64).pair ((Ty.int IntKind.i64).pair ((Ty.int IntKind.i64).pair (Ty.int IntKind.i64))))))))))))))).zero).fst, (2 : Int), (([] ++ aL n.toNat).getD (a.tmod n).toNat ((Ty.int IntKind.i64).pair ((Ty.int IntKind.i64).pair ((Ty.int IntKind.i64).pair ((Ty.int IntKind.i64).pair ((Ty.int IntKind.i64).pair (((Ty.int IntKind.i64).pair ((Ty.int IntKind.i64).pair (Ty.str.pair (Ty.str.pair Ty.bool)))).sl.pair (Ty.str.pair ((Ty.int IntKind.i64).pair ((Ty.int IntKind.i64).pair ((Ty.int IntKind.i64).pair ((Ty.int IntKind.u32).pair ((Ty.int IntKind.i64).pair ((Ty.int IntKind.i64).pair ((Ty.int IntKind.i64).pair (Ty.int IntKind.i64))))))))))))))).zero).snd.snd) ++ []]) then bif !oneB ([] ++ [aL n.toNat ++ [], ([] ++ aL n.toNat).set (a.tmod n).toNat ((([] ++ aL n.toNat).getD (a.tmod n).toNat ((Ty.int IntKind.i64).pair ((Ty.int IntKind.i64).pair ((Ty.int IntKind.i64).pair ((Ty.int IntKind.i64).pair ((Ty.int IntKind.i64).pair (((Ty.int IntKind.i64).pair ((Ty.int IntKind.i64).pair (Ty.str.pair (Ty.str.pair Ty.bool)))).sl.pair (Ty.str.pair ((Ty.int IntKind.i64).pair ((Ty.int IntKind.i64).pair ((Ty.int IntKind.i64).pair ((Ty.int IntKind.u32).pair ((Ty.int IntKind.i64).pair ((Ty.int IntKind.i64).pair ((Ty.int IntKind.i64).pair (Ty.int IntKind.i64))))))))))))))).zero).fst, (2 : Int), (([] ++ aL n.toNat).getD (a.tmod n).toNat ((Ty.int IntKind.i64).pair ((Ty.int IntKind.i64).pair ((Ty.int IntKind.i64).pair ((Ty.int IntKind.i64).pair ((Ty.int IntKind.i64).pair (((Ty.int IntKind.i64).pair ((Ty.int IntKind.i64).pair (Ty.str.pair (Ty.str.pair Ty.bool)))).sl.pair (Ty.str.pair ((Ty.int IntKind.i64).pair ((Ty.int IntKind.i64).pair ((Ty.int IntKind.i64).pair ((Ty.int IntKind.u32).pair ((Ty.int IntKind.i64).pair ((Ty.int IntKind.i64).pair ((Ty.int IntKind.i64).pair (Ty.int IntKind.i64))))))))))))))).zero).snd.snd) ++ []]).flatten then bif joinsB ([] ++ [aL n.toNat ++ []]) then bif oneB ([] ++ [aL n.toNat ++ []]).flatten then bif joinsB ([] ++ [([] ++ aL n.toNat).set (a.tmod n).toNat ((([] ++ aL n.toNat).getD (a.tmod n).toNat ((Ty.int IntKind.i64).pair ((Ty.int IntKind.i64).pair ((Ty.int IntKind.i64).pair ((Ty.int IntKind.i64).pair ((Ty.int IntKind.i64).pair (((Ty.int IntKind.i64).pair ((Ty.int IntKind.i64).pair (Ty.str.pair (Ty.str.pair Ty.bool)))).sl.pair (Ty.str.pair ((Ty.int IntKind.i64).pair ((Ty.int IntKind.i64).pair ((Ty.int IntKind.i64).pair ((Ty.int IntKind.u32).pair ((Ty.int IntKind.i64).pair ((Ty.int IntKind.i64).pair ((Ty.int IntKind.i64).pair (Ty.int IntKind.i64))))))))))))))).zero).fst, (2 : Int), (([] ++ aL n.toNat).getD (a.tmod n).toNat ((Ty.int IntKind.i64).pair ((Ty.int IntKind.i64).pair ((Ty.int IntKind.i64).pair ((Ty.int IntKind.i64).pair ((Ty.int IntKind.i64).pair (((Ty.int IntKind.i64).pair ((Ty.int IntKind.i64).pair (Ty.str.pair (Ty.str.pair Ty.bool)))).sl.pair (Ty.str.pair ((Ty.int IntKind.i64).pair ((Ty.int IntKind.i64).pair ((Ty.int IntKind.i64).pair ((Ty.int IntKind.u32).pair ((Ty.int IntKind.i64).pair ((Ty.int IntKind.i64).pair ((Ty.int IntKind.i64).pair (Ty.int IntKind.i64))))))))))))))).zero).snd.snd) ++ []]) then some (oneB ([] ++ [([] ++ aL n.toNat).set (a.tmod n).toNat ((([] ++ aL n.toNat).getD (a.tmod n).toNat ((Ty.int IntKind.i64).pair ((Ty.int IntKind.i64).pair ((Ty.int IntKind.i64).pair ((Ty.int IntKind.i64).pair ((Ty.int IntKind.i64).pair (((Ty.int IntKind.i64).pair ((Ty.int IntKind.i64).pair (Ty.str.pair (Ty.str.pair Ty.bool)))).sl.pair (Ty.str.pair ((Ty.int IntKind.i64).pair ((Ty.int IntKind.i64).pair ((Ty.int IntKind.i64).pair ((Ty.int IntKind.u32).pair ((Ty.int IntKind.i64).pair ((Ty.int IntKind.i64).pair ((Ty.int IntKind.i64).pair (Ty.int IntKind.i64))))))))))))))).zero).fst, (2 : Int), (([] ++ aL n.toNat).getD (a.tmod n).toNat ((Ty.int IntKind.i64).pair ((Ty.int IntKind.i64).pair ((Ty.int IntKind.i64).pair ((Ty.int IntKind.i64).pair ((Ty.int IntKind.i64).pair (((Ty.int IntKind.i64).pair ((Ty.int IntKind.i64).pair (Ty.str.pair (Ty.str.pair Ty.bool)))).sl.pair (Ty.str.pair ((Ty.int IntKind.i64).pair ((Ty.int IntKind.i64).pair ((Ty.int IntKind.i64).pair ((Ty.int IntKind.u32).pair ((Ty.int IntKind.i64).pair ((Ty.int IntKind.i64).pair ((Ty.int IntKind.i64).pair (Ty.int IntKind.i64))))))))))))))).zero).snd.snd) ++ []]).flatten, ()) else none else some (false, ()) else none else some (false, ()) else none else none else bif decide (n = (0 : Int)) then none else bif decide ((0 : Int) ≤ a.tmod n) && decide (a.tmod n < (↑([] ++ aL n.toNat).length : Int)) then bif joinsB ([] ++ [aL n.toNat ++ [], ([] ++ aL n.toNat).set (a.tmod n).toNat ((([] ++ aL n.toNat).getD (a.tmod n).toNat ((Ty.int IntKind.i64).pair ((Ty.int IntKind.i64).pair ((Ty.int IntKind.i64).pair ((Ty.int IntKind.i64).pair ((Ty.int IntKind.i64).pair (((Ty.int IntKind.i64).pair ((Ty.int IntKind.i64).pair (Ty.str.pair (Ty.str.pair Ty.bool)))).sl.pair (Ty.str.pair ((Ty.int IntKind.i64).pair ((Ty.int IntKind.i64).pair ((Ty.int IntKind.i64).pair ((Ty.int IntKind.u32).pair ((Ty.int IntKind.i64).pair ((Ty.int IntKind.i64).pair ((Ty.int IntKind.i64).pair (Ty.int IntKind.i64))))))))))))))).zero).fst, (([] ++ aL n.toNat).getD (a.tmod n).toNat ((Ty.int IntKind.i64).pair ((Ty.int IntKind.i64).pair ((Ty.int IntKind.i64).pair ((Ty.int IntKind.i64).pair ((Ty.int IntKind.i64).pair (((Ty.int IntKind.i64).pair ((Ty.int IntKind.i64).pair (Ty.str.pair (Ty.str.pair Ty.bool)))).sl.pair (Ty.str.pair ((Ty.int IntKind.i64).pair ((Ty.int IntKind.i64).pair ((Ty.int IntKind.i64).pair ((Ty.int IntKind.u32).pair ((Ty.int IntKind.i64).pair ((Ty.int IntKind.i64).pair ((Ty.int IntKind.i64).pair (Ty.int IntKind.i64))))))))))))))).zero).snd.fst, (10 : Int), (([] ++ aL n.toNat).getD (a.tmod n).toNat ((Ty.int IntKind.i64).pair ((Ty.int IntKind.i64).pair ((Ty.int IntKind.i64).pair ((Ty.int IntKind.i64).pair ((Ty.int IntKind.i64).pair (((Ty.int IntKind.i64).pair ((Ty.int IntKind.i64).pair (Ty.str.pair (Ty.str.pair Ty.bool)))).sl.pair (Ty.str.pair ((Ty.int IntKind.i64).pair ((Ty.int IntKind.i64).pair ((Ty.int IntKind.i64).pair ((Ty.int IntKind.u32).pair ((Ty.int IntKind.i64).pair ((Ty.int IntKind.i64).pair ((Ty.int IntKind.i64).pair (Ty.int IntKind.i64))))))))))))))).zero).snd.snd.snd) ++ []]) then bif !oneB ([] ++ [aL n.toNat ++ [], ([] ++ aL n.toNat).set (a.tmod n).toNat ((([] ++ aL n.toNat).getD (a.tmod n).toNat ((Ty.int IntKind.i64).pair ((Ty.int IntKind.i64).pair ((Ty.int IntKind.i64).pair ((Ty.int IntKind.i64).pair ((Ty.int IntKind.i64).pair (((Ty.int IntKind.i64).pair ((Ty.int IntKind.i64).pair (Ty.str.pair (Ty.str.pair Ty.bool)))).sl.pair (Ty.str.pair ((Ty.int IntKind.i64).pair ((Ty.int IntKind.i64).pair ((Ty.int IntKind.i64).pair ((Ty.int IntKind.u32).pair ((Ty.int IntKind.i64).pair ((Ty.int IntKind.i64).pair ((Ty.int IntKind.i64).pair (Ty.int IntKind.i64))))))))))))))).zero).fst, (([] ++ aL n.toNat).getD (a.tmod n).toNat ((Ty.int IntKind.i64).pair ((Ty.int IntKind.i64).pair ((Ty.int IntKind.i64).pair ((Ty.int IntKind.i64).pair ((Ty.int IntKind.i64).pair (((Ty.int IntKind.i64).pair ((Ty.int IntKind.i64).pair (Ty.str.pair (Ty.str.pair Ty.bool)))).sl.pair (Ty.str.pair ((Ty.int IntKind.i64).pair ((Ty.int IntKind.i64).pair ((Ty.int IntKind.i64).pair ((Ty.int IntKind.u32).pair ((Ty.int IntKind.i64).pair ((Ty.int IntKind.i64).pair ((Ty.int IntKind.i64).pair (Ty.int IntKind.i64))))))))))))))).zero).snd.fst, (10 : Int), (([] ++ aL n.toNat).getD (a.tmod n).toNat ((Ty.int IntKind.i64).pair ((Ty.int IntKind.i64).pair ((Ty.int IntKind.i64).pair ((Ty.int IntKind.i64).pair ((Ty.int IntKind.i64).pair (((Ty.int IntKind.i64).pair ((Ty.int IntKind.i64).pair (Ty.str.pair (Ty.str.pair Ty.bool)))).sl.pair (Ty.str.pair ((Ty.int IntKind.i64).pair ((Ty.int IntKind.i64).pair ((Ty.int IntKind.i64).pair ((Ty.int IntKind.u32).pair ((Ty.int IntKind.i64).pair ((Ty.int IntKind.i64).pair ((Ty.int IntKind.i64).pair (Ty.int IntKind.i64))))))))))))))).zero).snd.snd.snd) ++ []]).flatten then bif joinsB ([] ++ [aL n.toNat ++ []]) then bif oneB ([] ++ [aL n.toNat ++ []]).flatten then bif joinsB ([] ++ [([] ++ aL n.toNat).set (a.tmod n).toNat ((([] ++ aL n.toNat).getD (a.tmod n).toNat ((Ty.int IntKind.i64).pair ((Ty.int IntKind.i64).pair ((Ty.int IntKind.i64).pair ((Ty.int IntKind.i64).pair ((Ty.int IntKind.i64).pair (((Ty.int IntKind.i64).pair ((Ty.int IntKind.i64).pair (Ty.str.pair (Ty.str.pair Ty.bool)))).sl.pair (Ty.str.pair ((Ty.int IntKind.i64).pair ((Ty.int IntKind.i64).pair ((Ty.int IntKind.i64).pair ((Ty.int IntKind.u32).pair ((Ty.int IntKind.i64).pair ((Ty.int IntKind.i64).pair ((Ty.int IntKind.i64).pair (Ty.int IntKind.i64))))))))))))))).zero).fst, (([] ++ aL n.toNat).getD (a.tmod n).toNat ((Ty.int IntKind.i64).pair ((Ty.int IntKind.i64).pair ((Ty.int IntKind.i64).pair ((Ty.int IntKind.i64).pair ((Ty.int IntKind.i64).pair (((Ty.int IntKind.i64).pair ((Ty.int IntKind.i64).pair (Ty.str.pair (Ty.str.pair Ty.bool)))).sl.pair (Ty.str.pair ((Ty.int IntKind.i64).pair ((Ty.int IntKind.i64).pair ((Ty.int IntKind.i64).pair ((Ty.int IntKind.u32).pair ((Ty.int IntKind.i64).pair ((Ty.int IntKind.i64).pair ((Ty.int IntKind.i64).pair (Ty.int IntKind.i64))))))))))))))).zero).snd.fst, (10 : Int), (([] ++ aL n.toNat).getD (a.tmod n).toNat ((Ty.int IntKind.i64).pair ((Ty.int IntKind.i64).pair ((Ty.int IntKind.i64).pair ((Ty.int IntKind.i64).pair ((Ty.int IntKind.i64).pair (((Ty.int IntKind.i64).pair ((Ty.int IntKind.i64).pair (Ty.str.pair (Ty.str.pair Ty.bool)))).sl.pair (Ty.str.pair ((Ty.int IntKind.i64).pair ((Ty.int IntKind.i64).pair ((Ty.int IntKind.i64).pair ((Ty.int IntKind.u32).pair ((Ty.int IntKind.i64).pair ((Ty.int IntKind.i64).pair ((Ty.int IntKind.i64).pair (Ty.int IntKind.i64))))))))))))))).zero).snd.snd.snd) ++ []]) then some (oneB ([] ++ [([] ++ aL n.toNat).set (a.tmod n).toNat ((([] ++ aL n.toNat).getD (a.tmod n).toNat ((Ty.int IntKind.i64).pair ((Ty.int IntKind.i64).pair ((Ty.int IntKind.i64).pair ((Ty.int IntKind.i64).pair ((Ty.int IntKind.i64).pair (((Ty.int IntKind.i64).pair ((Ty.int IntKind.i64).pair (Ty.str.pair (Ty.str.pair Ty.bool)))).sl.pair (Ty.str.pair ((Ty.int IntKind.i64).pair ((Ty.int IntKind.i64).pair ((Ty.int IntKind.i64).pair ((Ty.int IntKind.u32).pair ((Ty.int IntKind.i64).pair ((Ty.int IntKind.i64).pair ((Ty.int IntKind.i64).pair (Ty.int IntKind.i64))))))))))))))).zero).fst, (([] ++ aL n.toNat).getD (a.tmod n).toNat ((Ty.int IntKind.i64).pair ((Ty.int IntKind.i64).pair ((Ty.int IntKind.i64).pair ((Ty.int IntKind.i64).pair ((Ty.int IntKind.i64).pair (((Ty.int IntKind.i64).pair ((Ty.int IntKind.i64).pair (Ty.str.pair (Ty.str.pair Ty.bool)))).sl.pair (Ty.str.pair ((Ty.int IntKind.i64).pair ((Ty.int IntKind.i64).pair ((Ty.int IntKind.i64).pair ((Ty.int IntKind.u32).pair ((Ty.int IntKind.i64).pair ((Ty.int IntKind.i64).pair ((Ty.int IntKind.i64).pair (Ty.int IntKind.i64))))))))))))))).zero).snd.fst, (10 : Int), (([] ++ aL n.toNat).getD (a.tmod n).toNat ((Ty.int IntKind.i64).pair ((Ty.int IntKind.i64).pair ((Ty.int IntKind.i64).pair ((Ty.int IntKind.i64).pair ((Ty.int IntKind.i64).pair (((Ty.int IntKind.i64).pair ((Ty.int IntKind.i64).pair (Ty.str.pair (Ty.str.pair Ty.bool)))).sl.pair (Ty.str.pair ((Ty.int IntKind.i64).pair ((Ty.int IntKind.i64).pair ((Ty.int IntKind.i64).pair ((Ty.int IntKind.u32).pair ((Ty.int IntKind.i64).pair ((Ty.int IntKind.i64).pair ((Ty.int IntKind.i64).pair (Ty.int IntKind.i64))))))))))))))).zero).snd.snd.snd) ++ []]).flatten, ()) else none else some (false, ()) else none else some (false, ()) else none else none else none else none else none else none := by kernel_rfl

theorem aL_mem {N : Nat} {y : Done} (h : y ∈ aL N) : y.2 = (aD 0).2 := by
  unfold aL at h
  obtain ⟨i, _, rfl⟩ := List.mem_map.1 h
  rfl
theorem getD_mem {ys : List Done} {i : Nat} (h : i < ys.length) : ys.getD i doneT.zero ∈ ys := by
  rw [List.getD_eq_getElem?_getD, List.getElem?_eq_getElem h]
  exact List.getElem_mem h
theorem one_same {ys : List Done} {c : Int × Cmd} (h : ∀ y ∈ ys, y.2 = c) : oneB ys = true := one_true fun i j hi hj _ => by rw [h _ (getD_mem hi), h _ (getD_mem hj)]
theorem set_at {N k i : Nat} {r : Done} (hi : i < N) : ((aL N).set k r).getD i doneT.zero = if k = i then r else aD i := by
  rw [List.getD_eq_getElem?_getD, List.getElem?_set]
  by_cases h : k = i
  · subst h
    simp [aL_len, hi]
  · have := aL_at hi
    rw [List.getD_eq_getElem?_getD] at this
    simp only [h, if_false]
    exact this
theorem one_set {N k : Nat} {r : Done} (hr : r.1 = (k : Int) + 1) : oneB ((aL N).set k r) = true := one_true fun i j hi hj h => by
  simp only [List.length_set, aL_len] at hi hj
  rw [set_at hi, set_at hj] at *
  have key : ∀ i : Nat, (if k = i then r else aD i).1 = (i : Int) + 1 := fun i => by
    by_cases h : k = i
    · simp only [h, if_true]; rw [hr, h]
    · simp only [h, if_false]; rfl
  rw [key, key] at h
  have : i = j := by omega
  subst this
  rfl
theorem getD_left {a b : List Done} {i : Nat} (h : i < a.length) : (a ++ b).getD i doneT.zero = a.getD i doneT.zero := by
  rw [List.getD_eq_getElem?_getD, List.getElem?_append_left h, List.getD_eq_getElem?_getD]
theorem getD_right {a b : List Done} {i : Nat} (h : a.length ≤ i) : (a ++ b).getD i doneT.zero = b.getD (i - a.length) doneT.zero := by
  rw [List.getD_eq_getElem?_getD, List.getElem?_append_right h, List.getD_eq_getElem?_getD]
theorem one_parts {N k : Nat} {r : Done} (hk : k < N) (hr : r.1 = (k : Int) + 1) (h2 : r.2 ≠ (aD 0).2) : oneB (aL N ++ (aL N).set k r) = false := by
  have hl : (aL N).length = N := aL_len N
  refine one_false (i := k) (j := N + k) (by omega) (by simp [hl]; omega) ?_ ?_
  · rw [getD_left (by omega), getD_right (by omega), hl, Nat.add_sub_cancel_left, aL_at hk, set_at hk]
    simp only [if_true]
    exact hr.symm
  · rw [getD_left (by omega), getD_right (by omega), hl, Nat.add_sub_cancel_left, aL_at hk, set_at hk]
    simp only [if_true]
    exact fun h => h2 h.symm
theorem joins1 {x : List Done} (h0 : 0 < x.length) (h1 : x.length ≤ 1000000) : joinsB [x] = true := by simp [joinsB, lenS, h0, h1]
theorem joins2 {x y : List Done} (h0 : 0 < x.length) (h1 : x.length + y.length ≤ 1000000) : joinsB [x, y] = true := by simp [joinsB, lenS, h1]; omega
theorem joins3 {x y z : List Done} (h0 : 0 < x.length) (h1 : x.length + (y.length + z.length) ≤ 1000000) : joinsB [x, y, z] = true := by simp [joinsB, lenS, h1]; omega
theorem parts_fin (N k : Nat) (hk : k < N) (hN : N ≤ 30) (r : Done) (hr : r.1 = (k : Int) + 1) (h2 : r.2 ≠ (aD 0).2) :
    (bif joinsB [aL N, (aL N).set k r] then bif !oneB [aL N, (aL N).set k r].flatten then bif joinsB [aL N] then bif oneB [aL N].flatten then bif joinsB [(aL N).set k r] then some (oneB [(aL N).set k r].flatten, ()) else none else some (false, ()) else none else some (false, ()) else none) = some (true, ()) := by
  have hl := aL_len N
  rw [joins2 (by omega) (by rw [List.length_set]; omega), joins1 (by omega) (by omega), joins1 (x := (aL N).set k r) (by rw [List.length_set]; omega) (by rw [List.length_set]; omega)]
  simp only [List.flatten_cons, List.flatten_nil, List.append_nil]
  rw [one_parts hk hr h2, one_same (fun y hy => aL_mem hy), one_set hr]
  rfl
theorem parts_val (n a : Int) (t : Bool) : evFn (env consD1) H.parts2 (LPof [(7, paLC)]) F.cooperagelaw26_TraceParts [.int .i64 n, .int .i64 a, .bool t] [] (finT [.bool]) = some (true, ()) := by
  rw [parts_ev]
  by_cases h1 : n < 1
  · rw [cond_pos h1]; rfl
  by_cases h2 : n > 30
  · rw [cond_neg h1, cond_pos h2]; rfl
  by_cases h3 : a < 0
  · rw [cond_neg h1, cond_neg h2, decide_eq_true h3]; rfl
  rw [cond_neg h1, cond_neg h2, decide_eq_false h3, Option.bind_some, cond_false]
  obtain ⟨N, rfl⟩ := Int.eq_ofNat_of_zero_le (show 0 ≤ n by omega)
  have hm1 := Int.tmod_nonneg (N : Int) (show 0 ≤ a by omega)
  have hm2 := Int.tmod_lt_of_pos a (show (0 : Int) < (N : Int) by omega)
  obtain ⟨k, hk⟩ := Int.eq_ofNat_of_zero_le hm1
  have hl := aL_len N
  have e1 : decide ((0 : (Pat.int IntKind.i64).den) ≤ (N : Int)) = true := decide_eq_true (show (0 : Int) ≤ (N : Int) by omega)
  have e2 : decide ((N : Int) ≤ (30 : (Pat.int IntKind.i64).den)) = true := decide_eq_true (show (N : Int) ≤ 30 by omega)
  have hkN : k < N := by omega
  have eg : (aL N).getD k doneT.zero = aD k := aL_at hkN
  have g1 : joinsB [aL N, aL N, List.take k (aL N)] = true := joins3 (by omega) (by rw [List.length_take]; omega)
  have g2 : oneB [aL N, aL N, List.take k (aL N)].flatten = true := by
    simp only [List.flatten_cons, List.flatten_nil, List.append_nil]
    exact one_same (c := (aD 0).2) fun y hy => by
      rcases List.mem_append.1 hy with h | h
      · exact aL_mem h
      · rcases List.mem_append.1 h with h | h
        · exact aL_mem h
        · exact aL_mem (List.mem_of_mem_take h)
  have b1 : decide (N * 144 ≤ 140737488355328) = true := decide_eq_true (by omega)
  have b2 : decide ((N : Int) = 0) = false := decide_eq_false (by omega)
  have b3 : decide ((0 : Int) ≤ (k : Int)) = true := decide_eq_true (by omega)
  have b4 : decide ((k : Int) ≤ (N : Int)) = true := decide_eq_true (by omega)
  have b5 : decide ((k : Int) < (N : Int)) = true := decide_eq_true (by omega)
  simp only [e1, e2, hk, hl, Int.toNat_natCast, List.nil_append, List.append_nil, List.cons_append, b1, b2, b3, b4, b5, g1, g2, eg, Bool.and_self, cond_true, cond_false, Bool.not_true]
  cases t with
  | true => exact parts_fin N k hkN (by omega) ((aD k).1, 2, (aD k).2.2) rfl (by unfold aD; simp)
  | false => exact parts_fin N k hkN (by omega) ((aD k).1, (aD k).2.1, 10, (aD k).2.2.2) rfl (by unfold aD; simp)
def caseParts : PCase := ⟨[.ty (.int .i64), .ty (.int .i64), .ty .bool], [.bool], fun x => [(true, (true, ()))]⟩
theorem parts_ok : caseParts.ok P0 I.cooperagelaw26_TraceParts := case_ok2 (H := H.parts2) (E := env consD1) (env_ok consD1_ok) glob0 mixed0 G.cooperagelaw26_TraceParts Bd.cooperagelaw26_TraceParts (by kernel_rfl) (loops_good (tab := [(7, paLC)]) (by kernel_rfl) (fun x hx => by simp at hx; subst hx; exact pa_lok)) fun ⟨n, a, t, ()⟩ y h hw => by
  obtain ⟨hc, rfl⟩ := pick_pre h
  exact parts_val n a t
theorem parts_good (x : tysDen [.int .i64, .int .i64, .bool]) (hw : tysWf [.int .i64, .int .i64, .bool] x) : ∃ o, EffGood P0 I.cooperagelaw26_TraceParts (valsOf [.int .i64, .int .i64, .bool] x) [] (.bool true) o := parts_ok x (true, ()) rfl hw
end Go.Sim
