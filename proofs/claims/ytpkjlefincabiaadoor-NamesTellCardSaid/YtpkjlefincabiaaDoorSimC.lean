/-
  SimC: what an abstract value says of a value in a world: 'V'; of an object: 'ObjRel'; of a world: 'WInv'. Small laws.
-/
import Derived.Test.YtpkjlefincabiaaDoorSimB
import Derived.Laws.Closers25b
namespace Go.Sim
set_option linter.unusedSectionVars false

structure Place where
  block : Nat
  off : Nat
  sz : Nat
  nty : Nat
  len : Nat
/-- where each object lies; 'some none': an object of no elements that has no memory yet. -/
abbrev Beta := Nat → Option (Option Place)

/-- A number of a kind. -/
def In (k : IntKind) (n : Int) : Prop := k.min ≤ n ∧ n ≤ k.max
def maxL : Nat := 9223372036854775807
theorem In.wrap (k : IntKind) (n : Int) : In k (k.wrap n) := wrap_within k n
theorem In.nat {n : Nat} (h : n ≤ maxL) : In .i64 (n : Int) := by
  have e1 : IntKind.i64.min = -9223372036854775808 := by decide
  have e2 : IntKind.i64.max = 9223372036854775807 := by decide
  unfold maxL at h
  unfold In
  rw [e1, e2]; omega
theorem In.u8 (b : UInt8) : In .u8 (b.toNat : Int) := by
  have e1 : IntKind.u8.min = 0 := by decide
  have e2 : IntKind.u8.max = 255 := by decide
  have := b.toNat_lt
  unfold In
  rw [e1, e2]; omega
theorem In.zero (k : IntKind) : In k 0 := by unfold In; cases k <;> decide

/-- Cells in a row, settled: they never change again. -/
def RowAt (φ : Nat → Nat) (w : World) (b o : Nat) (cs : List Value) : Prop :=
  ∀ i v, cs[i]? = some v → w.cell? ⟨b, o + i, none⟩ = some v ∧ o + i < φ b

def Vt (φ : Nat → Nat) (w : World) : (t : Ty) → t.den → List Value → Prop
  | .bool, b, cs => cs = [.bool b]
  | .int k, n, cs => cs = [.int k n] ∧ In k n
  | .str, s, cs => cs = [.string ⟨s.toArray⟩] ∧ s.length ≤ maxL
  | .sl e, xs, cs => xs.length ≤ maxL ∧ ∃ A cap, cs = [.slice A xs.length cap] ∧ xs.length ≤ cap ∧
      ∀ i x, xs[i]? = some x → ∃ a ds, A = some a ∧ a.spot = none ∧ Vt φ w e x ds ∧ RowAt φ w a.block (a.off + i * e.sz) ds
  | .pair a b, x, cs => ∃ c1 c2, cs = c1 ++ c2 ∧ Vt φ w a x.1 c1 ∧ Vt φ w b x.2 c2

def Elt.num (nty : Nat) : Elt → Nat
  | .ty i => i
  | .tl p => nty + p

/-- There is room for so many cells in a block. -/
def Room (w : World) (b n : Nat) : Prop := ∃ c t fr, w.heap[b]? = some (.cells c t fr) ∧ n ≤ c.size

mutual
def V (φ : Nat → Nat) (β : Beta) (w : World) : AV → Value → Prop
  | .bool b, v => v = .bool b
  | .int k n, v => v = .int k n ∧ In k n
  | .str s, v => v = .string ⟨s.toArray⟩ ∧ s.length ≤ maxL
  | .nilp, v => v = .pointer none
  | .ptr l e j, v => ∃ p, β l = some (some p) ∧ v = .pointer (some ⟨p.block, p.off + e.num p.nty * p.sz + j, none⟩) ∧ e.num p.nty < p.len ∧ (∀ i, e = .ty i → i < p.nty)
  | .eptr cs, v => ∃ a vs, v = .pointer (some a) ∧ a.spot = none ∧ VL φ β w cs vs ∧ RowAt φ w a.block a.off vs
  | .vl t xs, v => Vt φ w (.sl t) xs [v]
  | .ap t xs, v => ∃ a cap, v = .pointer (some a) ∧ a.spot = none ∧ Vt φ w (.sl t) xs [.slice (some a) xs.length cap]
  | .nils, v => ∃ A, v = .slice A 0 0
  | .hw l, v => match β l with
    | some (some p) => ∃ cap, v = .slice (some ⟨p.block, p.off, none⟩) p.len cap ∧ p.len ≤ cap ∧ Room w p.block (p.off + cap * p.sz)
    | some none => ∃ A, v = .slice A 0 0
    | none => False
  | .hs l o n, v => n ≤ maxL ∧ match β l with
    | some (some p) => ∃ A cap, v = .slice A n cap ∧ n ≤ cap ∧ (n ≠ 0 → A = some ⟨p.block, p.off + o * p.sz, none⟩ ∧ o + n ≤ p.len)
    | some none => n = 0 ∧ ∃ A, v = .slice A 0 0
    | none => False
  | .agg cs, v => ∃ vs, v = .agg vs.toArray ∧ VL φ β w cs vs
  | .tup cs, v => ∃ vs, v = .tuple vs.toArray ∧ VL φ β w cs vs
  | .iface t c, v => ∃ u, v = .iface t u ∧ V φ β w c u
  | .nilif, v => v = .nilIface
  | .fn f first cap, v => ∃ us vs, v = .func f us.toArray vs.toArray ∧ VL φ β w first us ∧ VL φ β w cap vs
  | .mp l, v => ∃ p, β l = some (some p) ∧ v = .map (some p.block)
  | .it l, v => ∃ p, β l = some (some p) ∧ v = .pointer (some ⟨p.block, 0, none⟩)
  | .undef, _ => True
def VL (φ : Nat → Nat) (β : Beta) (w : World) : List AV → List Value → Prop
  | [], vs => vs = []
  | c :: cs, vs => ∃ u us, vs = u :: us ∧ V φ β w c u ∧ VL φ β w cs us
end

/-- The later world keeps what is settled, and how large each block is. -/
structure Keeps (φ : Nat → Nat) (w : World) (φ' : Nat → Nat) (w' : World) : Prop where
  le : ∀ b, φ b ≤ φ' b
  cell : ∀ b o v, o < φ b → w.cell? ⟨b, o, none⟩ = some v → w'.cell? ⟨b, o, none⟩ = some v
  room : ∀ b n, Room w b n → Room w' b n
  out : w'.os = w.os ∧ w'.output = w.output

theorem Keeps.refl (φ : Nat → Nat) (w : World) : Keeps φ w φ w := ⟨fun _ => Nat.le_refl _, fun _ _ _ _ h => h, fun _ _ h => h, rfl, rfl⟩
theorem Keeps.trans {φ φ' φ'' : Nat → Nat} {w w' w'' : World} (h : Keeps φ w φ' w') (h' : Keeps φ' w' φ'' w'') : Keeps φ w φ'' w'' :=
  ⟨fun b => Nat.le_trans (h.le b) (h'.le b), fun b o v ho hv => h'.cell b o v (Nat.lt_of_lt_of_le ho (h.le b)) (h.cell b o v ho hv), fun b n hr => h'.room b n (h.room b n hr), h'.out.1.trans h.out.1, h'.out.2.trans h.out.2⟩

theorem RowAt.keep {φ φ' : Nat → Nat} {w w' : World} (h : Keeps φ w φ' w') {b o : Nat} {cs : List Value} (hr : RowAt φ w b o cs) : RowAt φ' w' b o cs :=
  fun i v hv => let ⟨h1, h2⟩ := hr i v hv; ⟨h.cell b _ v h2 h1, Nat.lt_of_lt_of_le h2 (h.le b)⟩

theorem Vt.keep {φ φ' : Nat → Nat} {w w' : World} (h : Keeps φ w φ' w') : ∀ (t : Ty) (x : t.den) (cs : List Value), Vt φ w t x cs → Vt φ' w' t x cs
  | .bool, _, _, hv => hv
  | .int _, _, _, hv => hv
  | .str, _, _, hv => hv
  | .sl e, xs, cs, hv => by
    obtain ⟨hm, A, cap, h1, h2, h3⟩ := hv
    refine ⟨hm, A, cap, h1, h2, fun i x hx => ?_⟩
    obtain ⟨a, ds, ha, hs, hd, hr⟩ := h3 i x hx
    exact ⟨a, ds, ha, hs, Vt.keep h e x ds hd, hr.keep h⟩
  | .pair a b, x, cs, hv => by
    obtain ⟨c1, c2, h1, h2, h3⟩ := hv
    exact ⟨c1, c2, h1, Vt.keep h a _ _ h2, Vt.keep h b _ _ h3⟩

/-- The later numbering knows all that the elder one knew. -/
def Ext (β β' : Beta) : Prop := ∀ l x, β l = some x → β' l = some x
theorem Ext.refl (β : Beta) : Ext β β := fun _ _ h => h
theorem Ext.trans {β β' β'' : Beta} (h : Ext β β') (h' : Ext β' β'') : Ext β β'' := fun l x hx => h' l x (h l x hx)

mutual
theorem V.keep {φ φ' : Nat → Nat} {β β' : Beta} {w w' : World} (h : Keeps φ w φ' w') (ha : Ext β β') : ∀ (c : AV) (v : Value), V φ β w c v → V φ' β' w' c v
  | .bool _, _, hv => hv
  | .int _ _, _, hv => hv
  | .str _, _, hv => hv
  | .nilp, _, hv => hv
  | .ptr l e j, v, hv => by
    simp only [V] at hv ⊢
    obtain ⟨p, h1, h2⟩ := hv
    exact ⟨p, ha _ _ h1, h2⟩
  | .eptr cs, v, hv => by
    simp only [V] at hv ⊢
    obtain ⟨a, vs, h1, h2, h3, h4⟩ := hv
    exact ⟨a, vs, h1, h2, VL.keep h ha cs vs h3, h4.keep h⟩
  | .vl t xs, v, hv => by
    simp only [V] at hv ⊢
    exact Vt.keep h (.sl t) xs _ hv
  | .ap t xs, v, hv => by
    simp only [V] at hv ⊢
    obtain ⟨a, cap, h1, h2, h3⟩ := hv
    exact ⟨a, cap, h1, h2, Vt.keep h (.sl t) xs _ h3⟩
  | .nils, _, hv => hv
  | .hw l, v, hv => by
    simp only [V] at hv ⊢
    rcases hb : β l with _ | (_ | p)
    · simp only [hb] at hv
    · simp only [hb] at hv
      rw [ha _ _ hb]
      exact hv
    · simp only [hb] at hv
      rw [ha _ _ hb]
      obtain ⟨cap, h1, h2, h3⟩ := hv
      exact ⟨cap, h1, h2, h.room _ _ h3⟩
  | .hs l o n, v, hv => by
    simp only [V] at hv ⊢
    obtain ⟨hm, hv⟩ := hv
    refine ⟨hm, ?_⟩
    rcases hb : β l with _ | (_ | p)
    · simp only [hb] at hv
    · simp only [hb] at hv
      rw [ha _ _ hb]
      exact hv
    · simp only [hb] at hv
      rw [ha _ _ hb]
      exact hv
  | .agg cs, v, hv => by
    simp only [V] at hv ⊢
    obtain ⟨vs, h1, h2⟩ := hv
    exact ⟨vs, h1, VL.keep h ha cs vs h2⟩
  | .tup cs, v, hv => by
    simp only [V] at hv ⊢
    obtain ⟨vs, h1, h2⟩ := hv
    exact ⟨vs, h1, VL.keep h ha cs vs h2⟩
  | .iface t c, v, hv => by
    simp only [V] at hv ⊢
    obtain ⟨u, h1, h2⟩ := hv
    exact ⟨u, h1, V.keep h ha c u h2⟩
  | .nilif, _, hv => hv
  | .fn f first cap, v, hv => by
    simp only [V] at hv ⊢
    obtain ⟨us, vs, h1, h2, h3⟩ := hv
    exact ⟨us, vs, h1, VL.keep h ha first us h2, VL.keep h ha cap vs h3⟩
  | .mp l, v, hv => by
    simp only [V] at hv ⊢
    obtain ⟨p, h1, h2⟩ := hv
    exact ⟨p, ha _ _ h1, h2⟩
  | .it l, v, hv => by
    simp only [V] at hv ⊢
    obtain ⟨p, h1, h2⟩ := hv
    exact ⟨p, ha _ _ h1, h2⟩
  | .undef, _, _ => by simp [V]
theorem VL.keep {φ φ' : Nat → Nat} {β β' : Beta} {w w' : World} (h : Keeps φ w φ' w') (ha : Ext β β') : ∀ (cs : List AV) (vs : List Value), VL φ β w cs vs → VL φ' β' w' cs vs
  | [], _, hv => hv
  | c :: cs, vs, hv => by
    simp only [VL] at hv ⊢
    obtain ⟨u, us, h1, h2, h3⟩ := hv
    exact ⟨u, us, h1, V.keep h ha c u h2, VL.keep h ha cs us h3⟩
end

/-! ### The laws of typed cells -/
theorem VL.nil {φ : Nat → Nat} {β : Beta} {w : World} : VL φ β w [] [] := rfl
theorem VL.cons {φ : Nat → Nat} {β : Beta} {w : World} {c : AV} {cs : List AV} {u : Value} {us : List Value} (h : V φ β w c u) (h' : VL φ β w cs us) : VL φ β w (c :: cs) (u :: us) := by
  simp only [VL]; exact ⟨u, us, rfl, h, h'⟩
theorem VL.append {φ : Nat → Nat} {β : Beta} {w : World} : ∀ {cs ds : List AV} {us vs : List Value}, VL φ β w cs us → VL φ β w ds vs → VL φ β w (cs ++ ds) (us ++ vs)
  | [], _, _, _, h, h' => by simp only [VL] at h; subst h; simpa using h'
  | c :: cs, ds, us, vs, h, h' => by
    simp only [VL] at h
    obtain ⟨u, us', rfl, h1, h2⟩ := h
    simpa using VL.cons h1 (VL.append h2 h')
theorem VL.length {φ : Nat → Nat} {β : Beta} {w : World} : ∀ {cs : List AV} {us : List Value}, VL φ β w cs us → us.length = cs.length
  | [], _, h => by simp only [VL] at h; simp [h]
  | c :: cs, us, h => by
    simp only [VL] at h
    obtain ⟨u, us', rfl, _, h2⟩ := h
    simp [VL.length h2]
theorem VL.get {φ : Nat → Nat} {β : Beta} {w : World} : ∀ {cs : List AV} {us : List Value} {i : Nat} {c : AV}, VL φ β w cs us → cs[i]? = some c → ∃ u, us[i]? = some u ∧ V φ β w c u
  | [], _, _, _, _, hc => by simp at hc
  | d :: cs, us, i, c, h, hc => by
    simp only [VL] at h
    obtain ⟨u, us', rfl, h1, h2⟩ := h
    cases i with
    | zero => simp at hc; subst hc; exact ⟨u, rfl, h1⟩
    | succ i => simpa using VL.get h2 (by simpa using hc)
theorem VL.take {φ : Nat → Nat} {β : Beta} {w : World} : ∀ {cs : List AV} {us : List Value} (n : Nat), VL φ β w cs us → VL φ β w (cs.take n) (us.take n)
  | _, _, 0, _ => by simp [VL]
  | [], us, n + 1, h => by simp only [VL] at h; simp [h, VL]
  | c :: cs, us, n + 1, h => by
    simp only [VL] at h
    obtain ⟨u, us', rfl, h1, h2⟩ := h
    simpa using VL.cons h1 (VL.take n h2)
theorem VL.drop {φ : Nat → Nat} {β : Beta} {w : World} : ∀ {cs : List AV} {us : List Value} (n : Nat), VL φ β w cs us → VL φ β w (cs.drop n) (us.drop n)
  | _, _, 0, h => by simpa using h
  | [], us, n + 1, h => by simp only [VL] at h; simp [h, VL]
  | c :: cs, us, n + 1, h => by
    simp only [VL] at h
    obtain ⟨u, us', rfl, h1, h2⟩ := h
    simpa using VL.drop n h2
theorem VL.of_take_drop {φ : Nat → Nat} {β : Beta} {w : World} {cs : List AV} {us : List Value} (n : Nat) (h1 : VL φ β w (cs.take n) (us.take n)) (h2 : VL φ β w (cs.drop n) (us.drop n)) : VL φ β w cs us := by
  have := VL.append h1 h2
  simpa using this

theorem enc_length : ∀ (t : Ty) (x : t.den), (enc t x).length = t.sz
  | .bool, _ => rfl
  | .int _, _ => rfl
  | .str, _ => rfl
  | .sl _, _ => rfl
  | .pair a b, x => by simp [enc, Ty.sz, enc_length a, enc_length b]
theorem Vt.length {φ : Nat → Nat} {w : World} : ∀ (t : Ty) (x : t.den) (cs : List Value), Vt φ w t x cs → cs.length = t.sz
  | .bool, _, _, h => by simp only [Vt] at h; simp [h, Ty.sz]
  | .int _, _, _, h => by simp only [Vt] at h; simp [h.1, Ty.sz]
  | .str, _, _, h => by simp only [Vt] at h; simp [h.1, Ty.sz]
  | .sl _, _, _, h => by simp only [Vt] at h; obtain ⟨_, A, cap, h1, _⟩ := h; simp [h1, Ty.sz]
  | .pair a b, x, cs, h => by
    simp only [Vt] at h
    obtain ⟨c1, c2, h1, h2, h3⟩ := h
    simp [h1, Ty.sz, Vt.length a _ _ h2, Vt.length b _ _ h3]
theorem Vt.enc {φ : Nat → Nat} {β : Beta} {w : World} : ∀ (t : Ty) (x : t.den) (cs : List Value), Vt φ w t x cs → VL φ β w (enc t x) cs
  | .bool, _, _, h => by simp only [Vt] at h; subst h; exact VL.cons rfl rfl
  | .int _, _, _, h => by simp only [Vt] at h; obtain ⟨rfl, h2⟩ := h; exact VL.cons ⟨rfl, h2⟩ rfl
  | .str, _, _, h => by simp only [Vt] at h; obtain ⟨rfl, h2⟩ := h; exact VL.cons ⟨rfl, h2⟩ rfl
  | .sl e, xs, cs, h => by
    have h' := h
    simp only [Vt] at h
    obtain ⟨_, A, cap, h1, _⟩ := h
    subst h1
    exact VL.cons (by simp only [V]; exact h') rfl
  | .pair a b, x, cs, h => by
    simp only [Vt] at h
    obtain ⟨c1, c2, h1, h2, h3⟩ := h
    subst h1
    exact VL.append (Vt.enc a _ _ h2) (Vt.enc b _ _ h3)

theorem Vt.nilSl {φ : Nat → Nat} {w : World} (e : Ty) (A : Option Addr) : Vt φ w (.sl e) [] [.slice A 0 0] :=
  ⟨Nat.zero_le _, A, 0, rfl, Nat.le_refl _, fun i x hx => by simp at hx⟩
theorem asVl_sound {φ : Nat → Nat} {β : Beta} {w : World} {t : Ty} {c : AV} {xs : List t.den} {v : Value} (hc : asVl t c = some xs) (h : V φ β w c v) : Vt φ w (.sl t) xs [v] := by
  cases c with
  | vl t' ys =>
    simp only [asVl] at hc
    split at hc
    · rename_i he
      subst he
      simp at hc
      subst hc
      simpa only [V] using h
    · simp at hc
  | nils =>
    simp [asVl] at hc
    subst hc
    simp only [V] at h
    obtain ⟨A, rfl⟩ := h
    exact Vt.nilSl _ _
  | _ => simp [asVl] at hc
theorem dec_sound {φ : Nat → Nat} {β : Beta} {w : World} : ∀ (t : Ty) (cs : List AV) (x : t.den) (vs : List Value), dec t cs = some x → VL φ β w cs vs → Vt φ w t x vs := by
  intro t
  induction t with
  | bool =>
    intro cs x vs hd hv
    match cs, hd with
    | [.bool b], hd =>
      simp [dec] at hd
      subst hd
      simp only [VL, V] at hv
      obtain ⟨u, us, rfl, rfl, rfl⟩ := hv
      simp [Vt]
  | int k =>
    intro cs x vs hd hv
    match cs, hd with
    | [.int k' b], hd =>
      simp [dec] at hd
      obtain ⟨rfl, rfl⟩ := hd
      simp only [VL, V] at hv
      obtain ⟨u, us, rfl, ⟨rfl, h2⟩, rfl⟩ := hv
      exact ⟨rfl, h2⟩
  | str =>
    intro cs x vs hd hv
    match cs, hd with
    | [.str b], hd =>
      simp [dec] at hd
      subst hd
      simp only [VL, V] at hv
      obtain ⟨u, us, rfl, ⟨rfl, h2⟩, rfl⟩ := hv
      exact ⟨rfl, h2⟩
  | sl e _ =>
    intro cs x vs hd hv
    match cs, hd with
    | [c], hd =>
      simp only [dec] at hd
      simp only [VL] at hv
      obtain ⟨u, us, rfl, hu, rfl⟩ := hv
      exact asVl_sound hd hu
  | pair a b iha ihb =>
    intro cs x vs hd hv
    simp only [dec] at hd
    obtain ⟨x1, h1, hd⟩ := Option.bind_eq_some_iff.1 hd
    obtain ⟨x2, h2, hd⟩ := Option.bind_eq_some_iff.1 hd
    simp at hd
    subst hd
    exact ⟨vs.take a.sz, vs.drop a.sz, by simp, iha _ _ _ h1 (hv.take _), ihb _ _ _ h2 (hv.drop _)⟩
end Go.Sim
