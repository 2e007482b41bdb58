/-
  SimH: parts of rows and strings, lengths, maps that are read, assertions.
-/
import Derived.Test.YtpkjlefincabiaaDoorSimG
namespace Go.Sim
set_option linter.unusedSectionVars false
set_option linter.unusedSimpArgs false
set_option linter.unusedVariables false
section
variable {P : Program} [Tabs P] {o : Oper} {get : Nat → AObj} {nx : Nat} {ρ : Operand → AV}

/-- A bound, as it is known. -/
def Bnd : Option AV → Option Nat → Prop
  | none, none => True
  | some (.int _ z), some a => 0 ≤ z ∧ a = z.toNat
  | _, _ => False

theorem lowHigh_sound {R : Type} {n : Nat} {lo hi : Option AV} {K : Option Nat → Option Nat → Option R} {r : R} (h : lowHigh n lo hi K = some r) :
    ∃ a b, K a b = some r ∧ Bnd lo a ∧ Bnd hi b ∧ a.getD 0 ≤ b.getD n ∧ b.getD n ≤ n := by
  unfold lowHigh at h
  split at h
  · exact ⟨none, none, h, trivial, trivial, by simp, by simp⟩
  · rename_i k a
    by_cases hc : 0 ≤ a ∧ a ≤ (n : Int)
    · simp [hc.1, hc.2] at h
      exact ⟨_, _, h, ⟨hc.1, rfl⟩, trivial, by simp; omega, by simp⟩
    · have : (decide (0 ≤ a) && decide (a ≤ (n : Int))) = false := by simp; omega
      simp [this] at h
  · rename_i k b
    by_cases hc : 0 ≤ b ∧ b ≤ (n : Int)
    · simp [hc.1, hc.2] at h
      exact ⟨_, _, h, trivial, ⟨hc.1, rfl⟩, by simp, by simp; omega⟩
    · have : (decide (0 ≤ b) && decide (b ≤ (n : Int))) = false := by simp; omega
      simp [this] at h
  · rename_i k1 a k2 b
    by_cases hc : 0 ≤ b ∧ b ≤ (n : Int)
    · simp [hc.1, hc.2] at h
      by_cases hd : 0 ≤ a ∧ a ≤ b
      · simp [hd.1, hd.2] at h
        exact ⟨_, _, h, ⟨hd.1, rfl⟩, ⟨hc.1, rfl⟩, by simp; omega, by simp; omega⟩
      · have : (decide (0 ≤ a) && decide (a ≤ b)) = false := by simp; omega
        simp [this] at h
    · have : (decide (0 ≤ b) && decide (b ≤ (n : Int))) = false := by simp; omega
      simp [this] at h
  · cases h

theorem run_sliceBounds_known (w : World) {φ : Nat → Nat} {β : Beta} {isS : Bool} {len cap : Nat} {lo hi : Option AV} {lov hiv : Option Value} {a b : Option Nat} (hlo : ∀ x, lo = some x → ∃ v, lov = some v ∧ V φ β w x v) (hlo' : lo = none → lov = none)
    (hhi : ∀ x, hi = some x → ∃ v, hiv = some v ∧ V φ β w x v) (hhi' : hi = none → hiv = none) (ha : Bnd lo a) (hb : Bnd hi b) (h1 : a.getD 0 ≤ b.getD len) (h2 : b.getD len ≤ cap) :
    (Instr.sliceBounds isS len cap lov hiv none).run P w = .ok (a.getD 0, b.getD len, cap) w := by
  have hL : (lo = none ∧ a = none ∧ lov = none) ∨ ∃ k z, a = some z.toNat ∧ 0 ≤ z ∧ lov = some (.int k z) := by
    cases lo with
    | none => cases a with
      | none => exact .inl ⟨rfl, rfl, hlo' rfl⟩
      | some a => exact ha.elim
    | some x =>
      obtain ⟨v, hv, hV⟩ := hlo x rfl
      cases x <;> cases a <;> simp only [Bnd] at ha
      rename_i k z a
      exact .inr ⟨k, z, by rw [ha.2], ha.1, by rw [hv, hV.int_inv]⟩
  have hH : (hi = none ∧ b = none ∧ hiv = none) ∨ ∃ k z, b = some z.toNat ∧ 0 ≤ z ∧ hiv = some (.int k z) := by
    cases hi with
    | none => cases b with
      | none => exact .inl ⟨rfl, rfl, hhi' rfl⟩
      | some a => exact hb.elim
    | some x =>
      obtain ⟨v, hv, hV⟩ := hhi x rfl
      cases x <;> cases b <;> simp only [Bnd] at hb
      rename_i k z a
      exact .inr ⟨k, z, by rw [hb.2], hb.1, by rw [hv, hV.int_inv]⟩
  rcases hL with ⟨_, rfl, rfl⟩ | ⟨k, z, rfl, h0, rfl⟩ <;> rcases hH with ⟨_, rfl, rfl⟩ | ⟨k', z', rfl, h0', rfl⟩
  · simp [Instr.sliceBounds]
  · simp at h2
    have : z' ≤ (cap : Int) := by omega
    simp [Instr.sliceBounds, run_sliceBound, h0', this]
  · simp at h1 h2
    have : z ≤ (len : Int) := by omega
    simp [Instr.sliceBounds, run_sliceBound, h0, this]
  · simp at h1 h2
    have e1 : z' ≤ (cap : Int) := by omega
    have e2 : z ≤ z' := by omega
    simp [Instr.sliceBounds, run_sliceBound, h0, h0', e1, e2, Int.toNat_of_nonneg h0']

theorem cutL_get {α : Type} (xs : List α) (a b : Option Nat) (h : a.getD 0 ≤ b.getD xs.length) (h' : b.getD xs.length ≤ xs.length) :
    (cutL xs a b).length = b.getD xs.length - a.getD 0 ∧ ∀ i x, (cutL xs a b)[i]? = some x → xs[a.getD 0 + i]? = some x := by
  cases a <;> cases b <;> simp [cutL] at *
  · exact ⟨by omega, fun i x hx => by
      rw [List.getElem?_take] at hx
      split at hx
      · exact hx
      · cases hx⟩
  · refine ⟨by omega, fun i x hx => ?_⟩
    rw [List.getElem?_take] at hx
    split at hx
    · exact hx
    · cases hx

theorem Vt_slice {φ : Nat → Nat} {w : World} {t : Ty} {xs ys : List t.den} {A : Option Addr} {cap l n : Nat} (h : Vt φ w (.sl t) xs [.slice A xs.length cap]) (hl : l + n ≤ xs.length) (hn : ys.length = n)
    (hy : ∀ i x, ys[i]? = some x → xs[l + i]? = some x) : Vt φ w (.sl t) ys [.slice (if cap = l then A else A.map (·.add (l * t.sz))) n (cap - l)] := by
  simp only [Vt] at h ⊢
  obtain ⟨hm, A', cap', h1, h2, h3⟩ := h
  simp at h1
  obtain ⟨rfl, rfl⟩ := h1
  refine ⟨by omega, _, _, by rw [hn], by omega, fun i x hx => ?_⟩
  have hi : i < ys.length := by
    by_cases hi : i < ys.length
    · exact hi
    · rw [List.getElem?_eq_none (by omega)] at hx; cases hx
  obtain ⟨a, ds, ha, hs, hd, hr⟩ := h3 (l + i) x (hy i x hx)
  subst ha
  rw [if_neg (by omega)]
  exact ⟨_, ds, rfl, by simp [addr_add' hs, hs], hd, by simpa [addr_add' hs, Nat.add_mul, Nat.add_assoc] using hr⟩

theorem opt_map_V {φ : Nat → Nat} {β : Beta} {w : World} {ρv : Operand → Value} {l : List Operand} (hv : ∀ x, x ∈ l → V φ β w (ρ x) (ρv x)) {lo : Option Operand} (hm : ∀ x, lo = some x → x ∈ l) :
    (∀ x, lo.map ρ = some x → ∃ v, lo.map ρv = some v ∧ V φ β w x v) ∧ (lo.map ρ = none → lo.map ρv = none) := by
  cases lo with
  | none => simp
  | some y => simp; exact hv y (hm y rfl)

theorem good_slice_str {E : Env} (hE : EnvOK P E) {t : TypeId} {x : Operand} {lo hi : Option Operand} {rw_ : TRow} (ho : o.op = .slice t x lo hi none) (hr : E.row t = some rw_) (hk : rw_.kind = .str) {s : List UInt8} (hx : ρ x = .str s)
    {a b : Option Nat} (ha : Bnd (lo.map ρ) a) (hb : Bnd (hi.map ρ) b) (h1 : a.getD 0 ≤ b.getD s.length) (h2 : b.getD s.length ≤ s.length) : OpGood P o get nx ρ (.str (cutL s a b)) [] [] nx :=
  .pure fun own get' φ β w ρv _ hvs _ => by
    have hX := hvs x (by simp [ho, Op.operands])
    rw [hx] at hX
    have hXl := hX.2
    have hX := hX.str_inv
    have hu := (hE.row t rw_ hr).str_kind hk
    obtain ⟨l1, l2⟩ := opt_map_V hvs (lo := lo) (by intro y hy; simp [ho, Op.operands, hy])
    obtain ⟨l3, l4⟩ := opt_map_V hvs (lo := hi) (by intro y hy; simp [ho, Op.operands, hy])
    have hb' := run_sliceBounds_known (P := P) w (isS := false) (len := s.length) (cap := s.length) l1 l2 l3 l4 ha hb h1 h2
    have hsz : (⟨s.toArray⟩ : ByteArray).size = s.length := by simp [ByteArray.size]
    have hcl := (cutL_get s a b h1 h2).1
    refine ⟨.string ⟨(cutL s a b).toArray⟩, ?_, rfl, by omega⟩
    have hc : (⟨s.toArray⟩ : ByteArray).extract (a.getD 0) (b.getD s.length) = ⟨(cutL s a b).toArray⟩ := by
      apply ByteArray.ext
      rw [ByteArray.data_extract]
      apply Array.ext'
      cases a <;> cases b <;> simp [cutL] at * <;> simp [List.take_of_length_le, List.extract_eq_take_drop, List.drop_take]
    simp [execOp, ho, hX, Instr.sliceAt, Instr.slice, run_underlying hu, hsz, hb', hc]

theorem good_slice_vl {E : Env} (hE : EnvOK P E) {t e : TypeId} {x : Operand} {lo hi : Option Operand} {rw_ re : TRow} (ho : o.op = .slice t x lo hi none) (hr : E.row t = some rw_) (hk : rw_.kind = .slice e) (hre : E.row e = some re) {y : Ty} {xs : List y.den} (hx : ρ x = .vl y xs)
    (hsz : y.sz = re.size) {a b : Option Nat} (ha : Bnd (lo.map ρ) a) (hb : Bnd (hi.map ρ) b) (h1 : a.getD 0 ≤ b.getD xs.length) (h2 : b.getD xs.length ≤ xs.length) : OpGood P o get nx ρ (.vl y (cutL xs a b)) [] [] nx :=
  .pure fun own get' φ β w ρv _ hvs _ => by
    have hX := hvs x (by simp [ho, Op.operands])
    rw [hx] at hX
    simp only [V] at hX
    have hX' := hX
    simp only [Vt] at hX'
    obtain ⟨_, A, cap, hv1, hcap, _⟩ := hX'
    simp at hv1
    have hu := (hE.row t rw_ hr).slice_kind hk
    obtain ⟨l1, l2⟩ := opt_map_V hvs (lo := lo) (by intro y hy; simp [ho, Op.operands, hy])
    obtain ⟨l3, l4⟩ := opt_map_V hvs (lo := hi) (by intro y hy; simp [ho, Op.operands, hy])
    have hb' := run_sliceBounds_known (P := P) w (isS := true) (len := xs.length) (cap := cap) l1 l2 l3 l4 ha hb h1 (by omega)
    obtain ⟨c1, c2⟩ := cutL_get xs a b h1 h2
    rw [hv1] at hX
    refine ⟨_, ?_, by simp only [V]; exact Vt_slice hX (l := a.getD 0) (n := b.getD xs.length - a.getD 0) (by omega) c1 c2⟩
    simp [execOp, ho, hv1, Instr.sliceAt, Instr.slice, run_underlying hu, hb', (hE.row e re hre).size, hsz]

theorem good_slice_nils {E : Env} (hE : EnvOK P E) {t e : TypeId} {x : Operand} {lo hi : Option Operand} {rw_ re : TRow} (ho : o.op = .slice t x lo hi none) (hr : E.row t = some rw_) (hk : rw_.kind = .slice e) (hre : E.row e = some re) (hx : ρ x = .nils)
    {a b : Option Nat} (ha : Bnd (lo.map ρ) a) (hb : Bnd (hi.map ρ) b) (h1 : a.getD 0 ≤ b.getD 0) (h2 : b.getD 0 ≤ 0) : OpGood P o get nx ρ .nils [] [] nx :=
  .pure fun own get' φ β w ρv _ hvs _ => by
    have hX := hvs x (by simp [ho, Op.operands])
    rw [hx] at hX
    simp only [V] at hX
    obtain ⟨A, hv1⟩ := hX
    have hu := (hE.row t rw_ hr).slice_kind hk
    obtain ⟨l1, l2⟩ := opt_map_V hvs (lo := lo) (by intro y hy; simp [ho, Op.operands, hy])
    obtain ⟨l3, l4⟩ := opt_map_V hvs (lo := hi) (by intro y hy; simp [ho, Op.operands, hy])
    have hb' := run_sliceBounds_known (P := P) w (isS := true) (len := 0) (cap := 0) l1 l2 l3 l4 ha hb h1 (by omega)
    have ea : a.getD 0 = 0 := by omega
    have eb : b.getD 0 = 0 := by omega
    refine ⟨.slice A 0 0, ?_, by simp only [V]; exact ⟨_, rfl⟩⟩
    simp [execOp, ho, hv1, Instr.sliceAt, Instr.slice, run_underlying hu, hb', (hE.row e re hre).size, ea, eb]

/-- A part of an object's row. -/
theorem good_slice_obj {E : Env} (hE : EnvOK P E) {t e : TypeId} {x : Operand} {lo hi : Option Operand} {rw_ re : TRow} (ho : o.op = .slice t x lo hi none) (hr : E.row t = some rw_) (hk : rw_.kind = .slice e) (hre : E.row e = some re)
    {l sz : Nat} {y : Ty} {xs : List y.den} {tail : List (List AV)} (hg : get l = .arr sz y xs tail) (hsz : sz = re.size) {off n : Nat} (hx : (ρ x = .hw l ∧ off = 0 ∧ n = xs.length + tail.length) ∨ ρ x = .hs l off n)
    {a b : Option Nat} (ha : Bnd (lo.map ρ) a) (hb : Bnd (hi.map ρ) b) (h1 : a.getD 0 ≤ b.getD n) (h2 : b.getD n ≤ n) : OpGood P o get nx ρ (.hs l (off + a.getD 0) (b.getD n - a.getD 0)) [] [l] nx :=
  .pure fun own get' φ β w ρv hget hvs hW => by
    have hX := hvs x (by simp [ho, Op.operands])
    have hrel := hW.rel l
    rw [hget l (by simp), hg] at hrel
    have hu := (hE.row t rw_ hr).slice_kind hk
    obtain ⟨l1, l2⟩ := opt_map_V hvs (lo := lo) (by intro y hy; simp [ho, Op.operands, hy])
    obtain ⟨l3, l4⟩ := opt_map_V hvs (lo := hi) (by intro y hy; simp [ho, Op.operands, hy])
    have key : ∃ A cap, ρv x = .slice A n cap ∧ n ≤ cap ∧ (match β l with | some (some p) => p.sz = sz ∧ (n ≠ 0 → A = some ⟨p.block, p.off + off * p.sz, none⟩ ∧ off + n ≤ p.len) | some none => n = 0 ∧ cap = 0 | none => False) := by
      rcases hb : β l with _ | (_ | p)
      · simp only [ObjRel, hb] at hrel
      · simp only [ObjRel, hb] at hrel
        obtain ⟨rfl, rfl⟩ := hrel
        rcases hx with ⟨hx, rfl, rfl⟩ | hx
        · rw [hx] at hX; simp only [V, hb] at hX
          obtain ⟨A, hA⟩ := hX
          exact ⟨A, 0, by simpa using hA, by simp, by simp⟩
        · rw [hx] at hX; simp only [V, hb] at hX
          obtain ⟨_, rfl, A, hA⟩ := hX
          exact ⟨A, 0, hA, by simp, rfl, rfl⟩
      · simp only [ObjRel, hb] at hrel
        obtain ⟨g1, g2, g3, _⟩ := hrel
        rcases hx with ⟨hx, rfl, rfl⟩ | hx
        · rw [hx] at hX; simp only [V, hb] at hX
          obtain ⟨cap, hv1, hc, _⟩ := hX
          exact ⟨_, cap, by rw [hv1, g3], by omega, g1, fun _ => ⟨by simp, by omega⟩⟩
        · rw [hx] at hX; simp only [V, hb] at hX
          obtain ⟨_, A, cap, hv1, hc, hA⟩ := hX
          exact ⟨A, cap, hv1, hc, g1, hA⟩
    have hnM : n ≤ maxL := by
      rcases hx with ⟨hx, rfl, rfl⟩ | hx
      · rcases hb : β l with _ | (_ | p)
        · simp only [ObjRel, hb] at hrel
        · simp only [ObjRel, hb] at hrel
          obtain ⟨rfl, rfl⟩ := hrel
          exact Nat.zero_le _
        · simp only [ObjRel, hb] at hrel
          obtain ⟨g1, g2, g3, g4, _⟩ := hrel
          omega
      · rw [hx] at hX; simp only [V] at hX; exact hX.1
    obtain ⟨A, cap, hv1, hcap, hA⟩ := key
    have hb' := run_sliceBounds_known (P := P) w (isS := true) (len := n) (cap := cap) l1 l2 l3 l4 ha hb h1 (by omega)
    refine ⟨.slice (if cap = a.getD 0 then A else A.map (·.add (a.getD 0 * re.size))) (b.getD n - a.getD 0) (cap - a.getD 0), ?_, ?_⟩
    · simp [execOp, ho, hv1, Instr.sliceAt, Instr.slice, run_underlying hu, hb', (hE.row e re hre).size]
    · simp only [V]
      refine ⟨by omega, ?_⟩
      rcases hβ : β l with _ | (_ | p)
      · simp only [hβ] at hA
      · simp only [hβ] at hA
        obtain ⟨rfl, rfl⟩ := hA
        have e0 : a.getD 0 = 0 := by omega
        have e1 : b.getD 0 = 0 := by omega
        exact ⟨by omega, A, by simp [e0, e1]⟩
      · simp only [hβ] at hA
        refine ⟨_, _, rfl, by omega, fun hne => ?_⟩
        obtain ⟨rfl, hle⟩ := hA.2 (by omega)
        rw [if_neg (by omega)]
        refine ⟨?_, by omega⟩
        simp [addr_add, hA.1, hsz, Nat.add_mul, Nat.add_assoc]
end
end Go.Sim
