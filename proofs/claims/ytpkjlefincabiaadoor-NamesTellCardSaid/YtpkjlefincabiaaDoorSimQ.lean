/-
  SimQ: the evaluation of operations is sound.
-/
import Derived.Test.YtpkjlefincabiaaDoorSimPb
namespace Go.Sim
set_option linter.unusedSectionVars false
set_option linter.unusedSimpArgs false
set_option linter.unusedVariables false
section
variable {P : Program} [Tabs P] {o : Oper} {get : Nat → AObj} {nx : Nat} {ρ : Operand → AV}
variable {R : Type}

theorem placeK_sound' {l : Nat} {t : Ty} {xs : List t.den} {tail : List (List AV)} {m : Nat} {K : AV → Option R} {r : R} (h : placeK l xs tail m K = some r) :
    ∃ e : Elt, K (.ptr l e 0) = some r ∧ (m < xs.length + tail.length → e.num xs.length = m ∧ (∀ i, e = .ty i → i < xs.length)) := by
  by_cases hm : m < xs.length + tail.length
  · obtain ⟨e, h1, h2⟩ := placeK_sound h hm
    exact ⟨e, h1, fun _ => h2⟩
  · unfold placeK at h
    split at h
    · exact ⟨_, h, fun h => absurd h hm⟩
    · split at h
      · obtain ⟨q, _, _, _, h4⟩ := tlK_sound h
        exact ⟨_, h4, fun h => absurd h hm⟩
      · cases hc : decide (m < xs.length) with
        | true => rw [hc] at h; exact ⟨_, h, fun h => absurd h hm⟩
        | false => rw [hc] at h; obtain ⟨q, _, _, _, h4⟩ := tlK_sound h; exact ⟨_, h4, fun h => absurd h hm⟩

/-- What is asked of an operation's evaluation. -/
def Sound (P : Program) [Tabs P] (o : Oper) (get : Nat → AObj) (nx : Nat) (ρ : Operand → AV) (K : Kont R) (r : R) : Prop :=
  ∃ v pat rd nx', K v pat rd nx' = some r ∧ OpGood P o get nx ρ v pat rd nx'

theorem ev_load {E : Env} (hE : EnvOK P E) {K : Kont R} {r : R} {t : TypeId} {x : Operand} (ho : o.op = .load t x) (h : evalOp E get nx ρ o K = some r) : Sound P o get nx ρ K r := by
  unfold evalOp at h
  rw [ho] at h
  simp only at h
  obtain ⟨rw_, hr, h⟩ := bind_some h
  split at h
  · rename_i l e j hx
    split at h
    · rename_i sz ty xs tail hg
      obtain ⟨h1, h2⟩ := cond_none h
      obtain ⟨v, hv, h3⟩ := bind_some h2
      exact ⟨_, _, _, _, h3, good_load_ptr hE ho hr hx hg (Nat.eq_of_beq_eq_true h1) hv⟩
    · cases h
  · rename_i cs hx
    obtain ⟨h1, h2⟩ := cond_none h
    obtain ⟨v, hv, h3⟩ := bind_some h2
    exact ⟨_, _, _, _, h3, good_load_eptr hE ho hr hx (Nat.eq_of_beq_eq_true h1) hv⟩
  · cases h

theorem ev_store {E : Env} (hE : EnvOK P E) {K : Kont R} {r : R} {t : TypeId} {x y : Operand} (ho : o.op = .store t x y) (h : evalOp E get nx ρ o K = some r) : Sound P o get nx ρ K r := by
  unfold evalOp at h
  rw [ho] at h
  simp only at h
  obtain ⟨rw_, hr, h⟩ := bind_some h
  obtain ⟨hc, h⟩ := cond_none h
  simp only [Bool.and_eq_true, Nat.blt_eq] at hc
  obtain ⟨⟨h0, hlen⟩, hsol⟩ := hc
  have hlen := Nat.eq_of_beq_eq_true hlen
  split at h
  · rename_i l e j hx
    split at h
    · rename_i sz ty xs tail hg
      split at h
      · rename_i p
        obtain ⟨h1, h2⟩ := cond_none h
        exact ⟨_, _, _, _, h2, good_store hE ho hr hlen hsol hx hg (by simpa [eltCells] using Nat.le_of_ble_eq_true h1) (by rfl) (by omega)⟩
      · rename_i i
        obtain ⟨h1, h2⟩ := cond_none h
        obtain ⟨v, hv, h3⟩ := bind_some h2
        exact ⟨_, _, _, _, h3, good_store hE ho hr hlen hsol hx hg (by simpa [eltCells] using Nat.le_of_ble_eq_true h1) ⟨v, hv, rfl⟩ (by omega)⟩
    · cases h
  · cases h

theorem ev_binOp {E : Env} (hE : EnvOK P E) {K : Kont R} {r : R} {op : BinOp} {t t' : TypeId} {x y : Operand} (ho : o.op = .binOp op t x y t') (h : evalOp E get nx ρ o K = some r) : Sound P o get nx ρ K r := by
  have hbin : ∀ a, ρ x = a → (binK op a (ρ y) fun v => K v [] [] nx) = some r → Sound P o get nx ρ K r := by
    intro a ha hb
    obtain ⟨v, hv, hs⟩ := binK_sound (P := P) hb
    exact ⟨_, _, _, _, hv, good_binOp ho (by rw [ha]; exact hs)⟩
  unfold evalOp at h
  rw [ho] at h
  simp only at h
  split at h
  · rename_i cs hx
    obtain ⟨rw_, hr, h⟩ := bind_some h
    split at h
    · rename_i fs k ks hk
      split at h
      · rename_i ds hy _
        obtain ⟨q, hq, h⟩ := bind_some h
        refine ⟨_, _, _, _, h, good_binOp_at ho fun φ β w u1 u2 h1 h2 => ?_⟩
        rw [hx] at h1; rw [hy] at h2
        simpa using eq_agg hE hr hk hq (.inl rfl) h1 h2
      · rename_i ds hy _
        obtain ⟨q, hq, h⟩ := bind_some h
        refine ⟨_, _, _, _, h, good_binOp_at ho fun φ β w u1 u2 h1 h2 => ?_⟩
        rw [hx] at h1; rw [hy] at h2
        simpa using eq_agg hE hr hk hq (.inr rfl) h1 h2
      · cases h
    · cases h
  · rename_i a hx
    obtain ⟨rw_, hr, h⟩ := bind_some h
    split at h
    · rename_i b hk hy _
      refine ⟨_, _, _, _, h, good_binOp_at ho fun φ β w u1 u2 h1 h2 => ?_⟩
      rw [hx] at h1; rw [hy] at h2
      simpa using eq_bool hE hr hk (.inl rfl) h1 h2
    · rename_i b hk hy _
      refine ⟨_, _, _, _, h, good_binOp_at ho fun φ β w u1 u2 h1 h2 => ?_⟩
      rw [hx] at h1; rw [hy] at h2
      simpa using eq_bool hE hr hk (.inr rfl) h1 h2
    · cases h
  · rename_i hx
    obtain ⟨rw_, hr, h⟩ := bind_some h
    split at h
    all_goals first | cases h; done | skip
    all_goals refine ⟨_, _, _, _, h, good_binOp_at ho fun φ β w u1 u2 h1 h2 => ?_⟩
    · rename_i e hk hy _
      rw [hx] at h1; rw [hy] at h2
      simp only [V] at h1 h2
      subst h1; subst h2
      exact ⟨_, eq_ptr hE hr hk (.inl rfl) (.inl rfl), by simp [V]⟩
    · rename_i e hk hy _
      rw [hx] at h1; rw [hy] at h2
      simp only [V] at h1 h2
      subst h1; subst h2
      exact ⟨_, eq_ptr hE hr hk (.inl rfl) (.inr rfl), by simp [V]⟩
    · rename_i e a1 a2 a3 hk hy _
      rw [hx] at h1; rw [hy] at h2
      simp only [V] at h1 h2
      obtain ⟨p, _, rfl, _⟩ := h2
      subst h1
      exact ⟨_, eq_ptr hE hr hk (.inl rfl) (.inl rfl), by simp [V]⟩
    · rename_i e a1 a2 a3 hk hy _
      rw [hx] at h1; rw [hy] at h2
      simp only [V] at h1 h2
      obtain ⟨p, _, rfl, _⟩ := h2
      subst h1
      exact ⟨_, eq_ptr hE hr hk (.inl rfl) (.inr rfl), by simp [V]⟩
  · rename_i hx
    obtain ⟨rw_, hr, h⟩ := bind_some h
    split at h
    all_goals first | cases h; done | skip
    all_goals refine ⟨_, _, _, _, h, good_binOp_at ho fun φ β w u1 u2 h1 h2 => ?_⟩
    · rename_i e hk hy _
      rw [hx] at h1; rw [hy] at h2
      simp only [V] at h1 h2
      obtain ⟨p, _, rfl, _⟩ := h1
      subst h2
      exact ⟨_, eq_ptr hE hr hk (.inr rfl) (.inl rfl), by simp [V]⟩
    · rename_i e hk hy _
      rw [hx] at h1; rw [hy] at h2
      simp only [V] at h1 h2
      obtain ⟨p, _, rfl, _⟩ := h1
      subst h2
      exact ⟨_, eq_ptr hE hr hk (.inr rfl) (.inr rfl), by simp [V]⟩
  · exact hbin _ rfl h

theorem ev_convert {E : Env} (hE : EnvOK P E) {K : Kont R} {r : R} {s d : TypeId} {x : Operand} (ho : o.op = .convert s d x) (h : evalOp E get nx ρ o K = some r) : Sound P o get nx ρ K r := by
  unfold evalOp at h
  rw [ho] at h
  simp only at h
  obtain ⟨rs, hs, h⟩ := bind_some h
  obtain ⟨rd, hd, h⟩ := bind_some h
  split at h
  · rename_i hks hkd hx
    exact ⟨_, _, _, _, h, good_conv_int hE ho hs hd hks hkd hx⟩
  · rename_i hks hkd hx
    exact ⟨_, _, _, _, h, good_conv_str hE ho hs hd hks hkd hx⟩
  · rename_i hks hkd hx
    obtain ⟨re, hre, h⟩ := bind_some h
    split at h
    · rename_i hke
      exact ⟨_, _, _, _, h, good_conv_tobytes hE ho hs hd hks hkd hre hke hx⟩
    · cases h
  · rename_i hks hkd
    obtain ⟨re, hre, h⟩ := bind_some h
    split at h
    · cases h
    · rename_i hke hns
      obtain ⟨⟨xs, rdl⟩, he, h⟩ := bind_some h
      exact ⟨_, _, _, _, h, good_conv_bytes hE ho hs hd hks hkd hre hke he (fun s e => hns s e)⟩
    · cases h
  · rename_i hks hkd hx
    obtain ⟨hc, h⟩ := cond_none h
    exact ⟨_, _, _, _, h, good_conv_rune hE ho hs hd hks hkd hx (Nat.le_of_ble_eq_true hc)⟩
  · cases h

theorem ev_makeSlice {E : Env} (hE : EnvOK P E) {K : Kont R} {r : R} {t : TypeId} {x y : Operand} (ho : o.op = .makeSlice t x y) (h : evalOp E get nx ρ o K = some r) : Sound P o get nx ρ K r := by
  unfold evalOp at h
  rw [ho] at h
  simp only at h
  obtain ⟨rw_, hr, h⟩ := bind_some h
  split at h
  · rename_i e hk
    obtain ⟨re, hre, h⟩ := bind_some h
    obtain ⟨te, hte, h⟩ := bind_some h
    split at h
    · rename_i n m hx hy
      obtain ⟨hc, h⟩ := cond_none h
      simp only [Bool.and_eq_true, decide_eq_true_eq] at hc
      obtain ⟨⟨⟨h0, hnm⟩, hb⟩, h63⟩ := hc
      exact ⟨_, _, _, _, h, good_makeSlice hE ho hr hk hre hte hx (by rw [hnm]; exact hy) h0 hb h63⟩
    · cases h
  · cases h

/-- s[:]. -/
theorem good_slice_all {E : Env} (hE : EnvOK P E) {t e : TypeId} {x : Operand} {lo hi : Option Operand} {rw_ re : TRow} (ho : o.op = .slice t x lo hi none) (hr : E.row t = some rw_) (hk : rw_.kind = .slice e) (hre : E.row e = some re)
    {l : Nat} (hx : ρ x = .hw l) (ha : Bnd (lo.map ρ) none) (hb : Bnd (hi.map ρ) none) : OpGood P o get nx ρ (.hw l) [] [l] nx :=
  .pure fun own get' φ β w ρv hget hvs hW => by
    have hX := hvs x (by simp [ho, Op.operands])
    rw [hx] at hX
    have hu := (hE.row t rw_ hr).slice_kind hk
    obtain ⟨l1, l2⟩ := opt_map_V hvs (lo := lo) (by intro y hy; simp [ho, Op.operands, hy])
    obtain ⟨l3, l4⟩ := opt_map_V hvs (lo := hi) (by intro y hy; simp [ho, Op.operands, hy])
    rcases hβ : β l with _ | (_ | p)
    · simp only [V, hβ] at hX
    · have hX' := hX
      simp only [V, hβ] at hX'
      obtain ⟨A, hv1⟩ := hX'
      have hb' := run_sliceBounds_known (P := P) w (isS := true) (len := 0) (cap := 0) l1 l2 l3 l4 ha hb (by simp) (by simp)
      refine ⟨.slice A 0 0, ?_, by rw [hv1] at hX; exact hX⟩
      simp [execOp, ho, hv1, Instr.sliceAt, Instr.slice, run_underlying hu, hb', (hE.row e re hre).size]
    · have hX' := hX
      simp only [V, hβ] at hX'
      obtain ⟨cap, hv1, hc, _⟩ := hX'
      have hb' := run_sliceBounds_known (P := P) w (isS := true) (len := p.len) (cap := cap) l1 l2 l3 l4 ha hb (by simp) (by simpa using hc)
      refine ⟨.slice (some ⟨p.block, p.off, none⟩) p.len cap, ?_, by rw [hv1] at hX; exact hX⟩
      simp [execOp, ho, hv1, Instr.sliceAt, Instr.slice, run_underlying hu, hb', (hE.row e re hre).size, addr_add]

theorem map_some_none {α β : Type} {f : α → β} {x : Option α} (h : x.map f = none) : x = none := by cases x with
  | none => rfl
  | some a => cases h

theorem sliceK_sound {E : Env} (hE : EnvOK P E) {K : Kont R} {r : R} {t e : TypeId} {x : Operand} {lo hi mx : Option Operand} {rw_ re : TRow} (ho : o.op = .slice t x lo hi mx) (hr : E.row t = some rw_) (hk : rw_.kind = .slice e) (hre : E.row e = some re)
    (h : (sliceK get re.size (ρ x) (lo.map ρ) (hi.map ρ) (mx.map ρ) fun v rd => K v [] rd nx) = some r) : Sound P o get nx ρ K r := by
  unfold sliceK at h
  split at h
  · rename_i m hm
    split at h
    · rename_i h1 h2 h3
      rw [map_some_none h1] at ho
      exact ⟨_, _, _, _, h, good_slice3_zero hE ho hr hk hre h2 hm (.inl ⟨_, _, h3⟩)⟩
    · rename_i h1 h2 h3
      rw [map_some_none h1] at ho
      exact ⟨_, _, _, _, h, good_slice3_zero hE ho hr hk hre h2 hm (.inr (.inl ⟨_, h3⟩))⟩
    · rename_i h1 h2 h3
      rw [map_some_none h1] at ho
      exact ⟨_, _, _, _, h, good_slice3_zero hE ho hr hk hre h2 hm (.inr (.inr (.inl ⟨_, _, _, h3⟩)))⟩
    · rename_i h1 h2 h3
      rw [map_some_none h1] at ho
      exact ⟨_, _, _, _, h, good_slice3_zero hE ho hr hk hre h2 hm (.inr (.inr (.inr h3)))⟩
    · rename_i h1 h2 h3
      rw [map_some_none h1] at ho
      obtain ⟨hc, h⟩ := cond_none h
      simp only [Bool.and_eq_true, decide_eq_true_eq] at hc
      obtain ⟨⟨⟨c1, c2⟩, c3⟩, c4⟩ := hc
      exact ⟨_, _, _, _, h, good_slice3_vl hE ho hr hk hre h2 (by rw [c3]; exact hm) h3 (Nat.eq_of_beq_eq_true c1) c2 (by rw [c3]; exact c4)⟩
    · cases h
  · rename_i hm
    rw [map_some_none hm] at ho
    split at h
    · rename_i y xs hx
      obtain ⟨hc, h⟩ := cond_none h
      obtain ⟨a, b, h, ha, hb, h1, h2⟩ := lowHigh_sound h
      exact ⟨_, _, _, _, h, good_slice_vl hE ho hr hk hre hx (Nat.eq_of_beq_eq_true hc) ha hb h1 h2⟩
    · rename_i hx
      obtain ⟨a, b, h, ha, hb, h1, h2⟩ := lowHigh_sound h
      exact ⟨_, _, _, _, h, good_slice_nils hE ho hr hk hre hx ha hb h1 h2⟩
    · rename_i l hx
      split at h
      · rename_i sz ty xs tail hg
        obtain ⟨hc, h⟩ := cond_none h
        rw [alen_eq] at h
        obtain ⟨a, b, h, ha, hb, h1, h2⟩ := lowHigh_sound h
        have hall := good_slice_obj (P := P) (nx := nx) hE ho hr hk hre hg (Nat.eq_of_beq_eq_true hc) (.inl ⟨hx, rfl, rfl⟩) ha hb h1 h2
        have hcut : ∀ a b, cutLen (xs.length + tail.length) a b = b.getD (xs.length + tail.length) - a.getD 0 := by intro a b; cases a <;> cases b <;> simp [cutLen]
        have hoff : ∀ a, cutOff 0 a = 0 + a.getD 0 := by intro a; cases a <;> simp [cutOff, offAdd]
        refine ⟨_, _, _, _, h, ?_⟩
        cases a with
        | none =>
          cases b with
          | none => exact good_slice_all hE ho hr hk hre hx ha hb
          | some b => simp only; rw [hcut, hoff]; exact hall
        | some a => cases b with
          | none => simp only; rw [hcut, hoff]; exact hall
          | some b => simp only; rw [hcut, hoff]; exact hall
      · cases h
    · rename_i l off n hx
      split at h
      · rename_i sz ty xs tail hg
        obtain ⟨hc, h⟩ := cond_none h
        obtain ⟨a, b, h, ha, hb, h1, h2⟩ := lowHigh_sound h
        have hall := good_slice_obj (P := P) (nx := nx) hE ho hr hk hre hg (Nat.eq_of_beq_eq_true hc) (.inr hx) ha hb h1 h2
        have hcut : ∀ a b, cutLen n a b = b.getD n - a.getD 0 := by intro a b; cases a <;> cases b <;> simp [cutLen]
        have hoff : ∀ a, cutOff off a = off + a.getD 0 := by intro a; cases a <;> simp [cutOff, offAdd_eq]
        refine ⟨_, _, _, _, h, ?_⟩
        rw [hcut, hoff]
        exact hall
      · cases h
    · cases h

theorem ev_slice {E : Env} (hE : EnvOK P E) {K : Kont R} {r : R} {t : TypeId} {x : Operand} {lo hi mx : Option Operand} (ho : o.op = .slice t x lo hi mx) (h : evalOp E get nx ρ o K = some r) : Sound P o get nx ρ K r := by
  unfold evalOp at h
  rw [ho] at h
  simp only at h
  obtain ⟨rw_, hr, h⟩ := bind_some h
  split at h
  · rename_i hk
    split at h
    · rename_i s hx _
      obtain ⟨a, b, h, ha, hb, h1, h2⟩ := lowHigh_sound h
      exact ⟨_, _, _, _, h, good_slice_str hE ho hr hk hx ha hb h1 h2⟩
    · cases h
  · rename_i e hk
    obtain ⟨re, hre, h⟩ := bind_some h
    obtain ⟨v, pat, rd, nx', h', hg⟩ := sliceK_sound hE ho hr hk hre h
    exact ⟨_, _, _, _, h', hg⟩
  · cases h

end
end Go.Sim
