/-
  SimR: the evaluation of operations is sound (the rest).
-/
import Derived.Test.YtpkjlefincabiaaDoorSimQ
namespace Go.Sim
set_option linter.unusedSectionVars false
set_option linter.unusedSimpArgs false
set_option linter.unusedVariables false
section
variable {P : Program} [Tabs P] {o : Oper} {get : Nat → AObj} {nx : Nat} {ρ : Operand → AV}
variable {R : Type}

theorem ev_build {E : Env} (hE : EnvOK P E) {K : Kont R} {r : R} {t : TypeId} {parts : Array (Nat × Operand)} (ho : o.op = .build t parts) (h : evalOp E get nx ρ o K = some r) : Sound P o get nx ρ K r := by
  unfold evalOp at h
  rw [ho] at h
  simp only at h
  obtain ⟨rw_, hr, h⟩ := bind_some h
  split at h
  · rename_i fs eq hk
    obtain ⟨cs, hc, h⟩ := bind_some h
    exact ⟨_, _, _, _, h, good_build hE ho hr hk hc⟩
  · cases h

theorem ev_buildSlice {E : Env} (hE : EnvOK P E) {K : Kont R} {r : R} {t : TypeId} {len : Nat} {parts : Array (Nat × Operand)} (ho : o.op = .buildSlice t len parts) (h : evalOp E get nx ρ o K = some r) : Sound P o get nx ρ K r := by
  unfold evalOp at h
  rw [ho] at h
  simp only at h
  obtain ⟨rw_, hr, h⟩ := bind_some h
  split at h
  · rename_i e hk
    obtain ⟨re, hre, h⟩ := bind_some h
    obtain ⟨hc, h⟩ := cond_none h
    obtain ⟨cs, hcs, h⟩ := bind_some h
    simp only [Bool.and_eq_true] at hc
    exact ⟨_, _, _, _, h, good_buildSlice hE ho hr hk hre hcs (Nat.le_of_ble_eq_true hc.1) (Nat.le_of_ble_eq_true hc.2)⟩
  · cases h

theorem ev_fieldAddr {E : Env} (hE : EnvOK P E) {K : Kont R} {r : R} {t : TypeId} {x : Operand} {f : Nat} (ho : o.op = .fieldAddr t x f) (h : evalOp E get nx ρ o K = some r) : Sound P o get nx ρ K r := by
  unfold evalOp at h
  rw [ho] at h
  simp only at h
  obtain ⟨rw_, hr, h⟩ := bind_some h
  split at h
  · rename_i fs eq hk
    obtain ⟨p, hp, h⟩ := bind_some h
    split at h
    · rename_i l e j hx
      exact ⟨_, _, _, _, h, good_fieldAddr_ptr hE ho hr hk hp hx⟩
    · rename_i cs hx
      exact ⟨_, _, _, _, h, good_fieldAddr_eptr hE ho hr hk hp hx⟩
    · cases h
  · cases h

theorem ev_field {E : Env} (hE : EnvOK P E) {K : Kont R} {r : R} {t : TypeId} {x : Operand} {f : Nat} (ho : o.op = .field t x f) (h : evalOp E get nx ρ o K = some r) : Sound P o get nx ρ K r := by
  unfold evalOp at h
  rw [ho] at h
  simp only at h
  obtain ⟨rw_, hr, h⟩ := bind_some h
  split at h
  · rename_i fs eq hk
    obtain ⟨p, hp, h⟩ := bind_some h
    split at h
    · rename_i cs hx
      obtain ⟨hc, h⟩ := cond_none h
      have hle := Nat.le_of_ble_eq_true hc
      split at h
      · rename_i hp2
        split at h
        · rename_i c rest hd
          refine ⟨_, _, _, _, h, good_field hE ho hr hk hp hx hle ?_⟩
          rw [if_pos hp2]
          have := congrArg (·[0]?) hd
          simpa using this
        · cases h
      · rename_i n hp2
        refine ⟨_, _, _, _, h, good_field hE ho hr hk hp hx hle ?_⟩
        rw [if_neg hp2]
    · cases h
  · cases h

theorem ev_indexAddr {E : Env} (hE : EnvOK P E) {K : Kont R} {r : R} {t : TypeId} {x i : Operand} (ho : o.op = .indexAddr t x i) (h : evalOp E get nx ρ o K = some r) : Sound P o get nx ρ K r := by
  unfold evalOp at h
  rw [ho] at h
  simp only at h
  obtain ⟨rw_, hr, h⟩ := bind_some h
  split at h
  · rename_i e hk
    obtain ⟨re, hre, h⟩ := bind_some h
    split at h
    · rename_i k n hi
      split at h
      · rename_i y xs hx
        obtain ⟨hc, h⟩ := cond_none h
        obtain ⟨hb, h⟩ := cond_none h
        simp only [Bool.and_eq_true, decide_eq_true_eq] at hb
        exact ⟨_, _, _, _, h, good_indexAddr_vl hE ho hr hk hre hi hx (Nat.eq_of_beq_eq_true hc) hb.1 hb.2⟩
      · rename_i l hx
        split at h
        · rename_i sz y xs tail hg
          obtain ⟨hc, h⟩ := cond_none h
          obtain ⟨hb, h⟩ := cond_none h
          simp only [Bool.and_eq_true, decide_eq_true_eq, alen_eq] at hb
          obtain ⟨el, h, hel⟩ := placeK_sound' h
          exact ⟨_, _, _, _, h, good_indexAddr_obj (off := 0) hE ho hr hk hre hi hg (Nat.eq_of_beq_eq_true hc) hb.1 (.inl ⟨hx, rfl, hb.2⟩) (by simpa using hel)⟩
        · cases h
      · rename_i l off m hx
        split at h
        · rename_i sz y xs tail hg
          obtain ⟨hc, h⟩ := cond_none h
          obtain ⟨hb, h⟩ := cond_none h
          simp only [Bool.and_eq_true, decide_eq_true_eq] at hb
          rw [offAdd_eq] at h
          obtain ⟨el, h, hel⟩ := placeK_sound' h
          exact ⟨_, _, _, _, h, good_indexAddr_obj (off := off) hE ho hr hk hre hi hg (Nat.eq_of_beq_eq_true hc) hb.1 (.inr ⟨m, hx, hb.2⟩) hel⟩
        · cases h
      · cases h
    · cases h
  · rename_i m e hk
    obtain ⟨re, hre, h⟩ := bind_some h
    split at h
    · rename_i k n hi
      split at h
      · rename_i y xs hx
        obtain ⟨hc, h⟩ := cond_none h
        obtain ⟨hb, h⟩ := cond_none h
        simp only [Bool.and_eq_true, decide_eq_true_eq] at hb hc
        exact ⟨_, _, _, _, h, good_indexAddr_ap hE ho hr hk hre hi hx (Nat.eq_of_beq_eq_true hc.1) (Nat.eq_of_beq_eq_true hc.2) hb.1 hb.2⟩
      · cases h
    · cases h
  · cases h

theorem ev_index {E : Env} (hE : EnvOK P E) {K : Kont R} {r : R} {t : TypeId} {x i : Operand} (ho : o.op = .index t x i) (h : evalOp E get nx ρ o K = some r) : Sound P o get nx ρ K r := by
  unfold evalOp at h
  rw [ho] at h
  simp only at h
  obtain ⟨rw_, hr, h⟩ := bind_some h
  split at h
  · rename_i hk hi hx
    obtain ⟨hb, h⟩ := cond_none h
    simp only [Bool.and_eq_true, decide_eq_true_eq] at hb
    exact ⟨_, _, _, _, h, good_index_str hE ho hr hk hi hx hb.1 hb.2⟩
  · rename_i hk hi hx
    obtain ⟨re, hre, h⟩ := bind_some h
    obtain ⟨hb, h⟩ := cond_none h
    simp only [Bool.and_eq_true, decide_eq_true_eq] at hb
    split at h
    · obtain ⟨hc, h⟩ := cond_none h
      obtain ⟨v, hv, h⟩ := bind_some h
      exact ⟨_, _, _, _, h, good_index_arr hE ho hr hk hre hi hx hb.2 (Nat.eq_of_beq_eq_true hc) hv⟩
    · cases h
  · cases h

theorem ev_lookup {E : Env} (hE : EnvOK P E) {K : Kont R} {r : R} {t : TypeId} {x k : Operand} {ok : Bool} (ho : o.op = .lookup t x k ok) (h : evalOp E get nx ρ o K = some r) : Sound P o get nx ρ K r := by
  unfold evalOp at h
  rw [ho] at h
  simp only at h
  obtain ⟨rw_, hr, h⟩ := bind_some h
  split at h
  · rename_i kt0 vt0 hk
    split at h
    · rename_i l hx
      split at h
      · rename_i kt vt es hg
        obtain ⟨hc, h⟩ := cond_none h
        simp only [Bool.and_eq_true] at hc
        obtain ⟨key, hd, h⟩ := bind_some h
        obtain ⟨v, hv, h⟩ := bind_some h
        exact ⟨_, _, _, _, h, good_lookup hE ho hr hk hx hg hc.1 hc.2 hd hv⟩
      · cases h
    · cases h
  · cases h

theorem ev_mapUpdate {E : Env} (hE : EnvOK P E) {K : Kont R} {r : R} {t : TypeId} {x k y : Operand} (ho : o.op = .mapUpdate t x k y) (h : evalOp E get nx ρ o K = some r) : Sound P o get nx ρ K r := by
  unfold evalOp at h
  rw [ho] at h
  simp only at h
  obtain ⟨rw_, hr, h⟩ := bind_some h
  split at h
  · rename_i kt0 vt0 hk
    split at h
    · rename_i l hx
      split at h
      · rename_i kt vt es hg
        obtain ⟨hc, h⟩ := cond_none h
        simp only [Bool.and_eq_true] at hc
        obtain ⟨key, hd, h⟩ := bind_some h
        obtain ⟨ha, h⟩ := cond_none h
        obtain ⟨val, hv, h⟩ := bind_some h
        exact ⟨_, _, _, _, h, good_mapUpdate hE ho hr hk hx hg hc.1.1 hd hv ha (by simpa using hc.2)⟩
      · cases h
    · cases h
  · cases h

theorem ev_typeAssert {E : Env} (hE : EnvOK P E) {K : Kont R} {r : R} {t t' : TypeId} {x : Operand} {ok : Bool} (ho : o.op = .typeAssert x t' t ok) (h : evalOp E get nx ρ o K = some r) : Sound P o get nx ρ K r := by
  unfold evalOp at h
  rw [ho] at h
  simp only at h
  obtain ⟨rw_, hr, h⟩ := bind_some h
  split at h
  · cases h
  · rename_i hk
    split at h
    · rename_i u v hx
      cases hu : Nat.beq u t with
      | true =>
        rw [hu] at h
        have hut := Nat.eq_of_beq_eq_true hu
        rw [hut] at hx
        exact ⟨_, _, _, _, h, good_assert_yes hE ho hr hk hx⟩
      | false =>
        rw [hu] at h
        simp only [cond_false] at h
        obtain ⟨hok, h⟩ := cond_none h
        subst hok
        obtain ⟨z, hz, h⟩ := bind_some h
        exact ⟨_, _, _, _, h, good_assert_no hE ho hr hk (.inr ⟨u, v, Nat.ne_of_beq_eq_false hu, hx⟩) hz⟩
    · rename_i hx
      obtain ⟨hok, h⟩ := cond_none h
      subst hok
      obtain ⟨z, hz, h⟩ := bind_some h
      exact ⟨_, _, _, _, h, good_assert_no hE ho hr hk (.inl hx) hz⟩
    · cases h

theorem ev_append {E : Env} (hE : EnvOK P E) {K : Kont R} {r : R} {c : Call} {t u e : TypeId} {b s : AV} {rt ru : TRow} (ho : o.op = .call c) (hc : c.callee = .builtin .append) (hat : c.argTypes.toList = [t, u]) (hargs : c.args.toList.map ρ = [b, s])
    (hrt : E.row t = some rt) (hru : E.row u = some ru) (hkt : rt.kind = .slice e) (hku : (∃ e', ru.kind = .slice e') ∨ ru.kind = .str) (h : appendK E get nx e b s K = some r) : Sound P o get nx ρ K r := by
  unfold appendK at h
  split at h
  · rename_i re y hre hty
    obtain ⟨hb0, h⟩ := cond_none h
    have hb0 : re.bytes ≠ 0 := by simp only [Nat.blt_eq] at hb0; omega
    split at h
    · obtain ⟨⟨ys, rd⟩, he, h⟩ := bind_some h
      simp only at h
      split at h
      · have := good_append_nil (nx := nx) hE ho hc hat hrt hkt hru hku hre hty hb0 hargs he (by simp)
        rw [if_pos rfl] at this
        exact ⟨_, _, _, _, h, this⟩
      · rename_i hne
        obtain ⟨hl, h⟩ := cond_none h
        have := good_append_nil (nx := nx) hE ho hc hat hrt hkt hru hku hre hty hb0 hargs he (by simpa using hl)
        rw [if_neg (by intro e; exact hne e)] at this
        exact ⟨_, _, _, _, h, this⟩
    · rename_i l
      obtain ⟨⟨xs, rd'⟩, hx, h⟩ := bind_some h
      simp only at h
      obtain ⟨⟨ys, rd⟩, he, h⟩ := bind_some h
      simp only at h
      obtain ⟨hl, h⟩ := cond_none h
      exact ⟨_, _, _, _, h, good_append_own hE ho hc hat hrt hkt hru hku hre hty hb0 hargs hx he (by simpa using hl)⟩
    · cases h
  · cases h

theorem ev_call {E : Env} (hE : EnvOK P E) {K : Kont R} {r : R} {c : Call} (ho : o.op = .call c) (h : evalOp E get nx ρ o K = some r) : Sound P o get nx ρ K r := by
  unfold evalOp at h
  rw [ho] at h
  simp only at h
  split at h
  · rename_i hc
    obtain ⟨t, ht, h⟩ := bind_some h
    obtain ⟨rw_, hr, h⟩ := bind_some h
    split at h
    · rename_i hk hx
      exact ⟨_, _, _, _, h, good_len hE ho hc ht hr hx (.inl ⟨_, hk, rfl, rfl⟩)⟩
    · rename_i hk hx
      exact ⟨_, _, _, _, h, good_len hE ho hc ht hr hx (.inr (.inl ⟨⟨_, hk⟩, .inl ⟨_, _, rfl, rfl⟩⟩))⟩
    · rename_i hk hx
      exact ⟨_, _, _, _, h, good_len (n := 0) hE ho hc ht hr hx (.inr (.inl ⟨⟨_, hk⟩, .inr (.inl ⟨rfl, rfl⟩)⟩))⟩
    · rename_i hk hx
      exact ⟨_, _, _, _, h, good_len hE ho hc ht hr hx (.inr (.inl ⟨⟨_, hk⟩, .inr (.inr (.inl ⟨_, _, rfl⟩))⟩))⟩
    · rename_i hk hx
      split at h
      · rename_i hg
        rw [alen_eq] at h
        exact ⟨_, _, _, _, h, good_len hE ho hc ht hr hx (.inr (.inl ⟨⟨_, hk⟩, .inr (.inr (.inr ⟨_, _, _, _, _, rfl, by simp, hg, rfl⟩))⟩))⟩
      · cases h
    · rename_i hk hx
      split at h
      · rename_i hg
        exact ⟨_, _, _, _, h, good_len hE ho hc ht hr hx (.inr (.inr ⟨⟨_, _, hk⟩, _, _, _, _, rfl, by simp, hg, rfl⟩))⟩
      · cases h
    · cases h
  · rename_i hc
    split at h
    · rename_i hat hargs
      obtain ⟨rt, hrt, h⟩ := bind_some h
      obtain ⟨ru, hru, h⟩ := bind_some h
      split at h
      · rename_i hkt hku
        exact ev_append hE ho hc hat hargs hrt hru hkt (.inl ⟨_, hku⟩) h
      · rename_i hkt hku
        exact ev_append hE ho hc hat hargs hrt hru hkt (.inr hku) h
      · cases h
    · cases h
  · rename_i hc
    split at h
    · rename_i hx
      obtain ⟨hkk, h⟩ := cond_none h
      exact ⟨_, _, _, _, h, good_min ho hc (by simpa using hkk) hx⟩
    · cases h
  · rename_i hc
    split at h
    · rename_i hx
      obtain ⟨hkk, h⟩ := cond_none h
      exact ⟨_, _, _, _, h, good_max ho hc (by simpa using hkk) hx⟩
    · cases h
  · rename_i hc
    obtain ⟨t, ht, h⟩ := bind_some h
    obtain ⟨rw_, hr, h⟩ := bind_some h
    split at h
    · rename_i hk
      split at h
      · rename_i hx
        split at h
        · rename_i hg
          obtain ⟨h1, h⟩ := cond_none h
          obtain ⟨key, hd, h⟩ := bind_some h
          exact ⟨_, _, _, _, h, good_delete hE ho hc ht hr hk hx hg h1 hd⟩
        · cases h
      · cases h
    · cases h
  · rename_i f hc
    split at h
    · rename_i n first cap hf
      unfold callK at h
      split at h
      · rename_i G hcon
        obtain ⟨hcl, h⟩ := cond_none h
        obtain ⟨v, hv, h⟩ := pickK_sound h
        obtain ⟨hrc, h⟩ := cond_none h
        exact ⟨_, _, _, _, h, good_call hE ho hc hf hcon hv hcl hrc⟩
      · rename_i F hcon
        obtain ⟨hcl, h⟩ := cond_none h
        simp only [Bool.and_eq_true] at hcl
        obtain ⟨⟨v, objs'⟩, hv, h⟩ := pickK_sound h
        obtain ⟨hlen, h⟩ := cond_none h
        exact ⟨_, _, _, _, h, good_call_eff hE ho hc hf hcon hcl.1 hcl.2 hv (Nat.le_of_ble_eq_true hlen)⟩
      · cases h
    · cases h
  · cases h

theorem evalOp_sound {E : Env} (hE : EnvOK P E) {K : Kont R} {r : R} (h : evalOp E get nx ρ o K = some r) : Sound P o get nx ρ K r := by
  have h0 := h
  unfold evalOp at h
  cases ho : o.op with
  | move x => rw [ho] at h; exact ⟨_, _, _, _, h, good_move (.inl ho)⟩
  | assign x => rw [ho] at h; exact ⟨_, _, _, _, h, good_move (.inr ho)⟩
  | pick c a b =>
    rw [ho] at h
    simp only at h
    split at h
    · rename_i q hc
      have := good_pick (P := P) (get := get) (nx := nx) ho hc
      cases q <;> exact ⟨_, _, _, _, h, this⟩
    · cases h
  | alloc t =>
    rw [ho] at h
    simp only at h
    obtain ⟨rw_, hr, h⟩ := bind_some h
    exact ⟨_, _, _, _, h, good_alloc hE ho hr⟩
  | box t x =>
    rw [ho] at h
    simp only at h
    obtain ⟨rw_, hr, h⟩ := bind_some h
    obtain ⟨hc, h⟩ := cond_none h
    simp only [Bool.and_eq_true, Nat.blt_eq] at hc
    exact ⟨_, _, _, _, h, good_box ho (Nat.eq_of_beq_eq_true hc.2) (by omega)⟩
  | build t parts => exact ev_build hE ho h0
  | buildSlice t len parts => exact ev_buildSlice hE ho h0
  | load t x => exact ev_load hE ho h0
  | store t x y => exact ev_store hE ho h0
  | nilCheck x =>
    rw [ho] at h
    simp only at h
    split at h
    · rename_i hx
      exact ⟨_, _, _, _, h, hx ▸ good_nilCheck ho (.inl ⟨_, _, _, hx⟩)⟩
    · rename_i hx
      exact ⟨_, _, _, _, h, hx ▸ good_nilCheck ho (.inr ⟨_, hx⟩)⟩
    · cases h
  | binOp op t x y t' => exact ev_binOp hE ho h0
  | unOp op t x =>
    rw [ho] at h
    simp only at h
    obtain ⟨v, hv, hs⟩ := unK_sound (P := P) h
    exact ⟨_, _, _, _, hv, good_unOp ho hs⟩
  | convert s d x => exact ev_convert hE ho h0
  | makeInterface t x =>
    rw [ho] at h
    simp only at h
    obtain ⟨rw_, hr, h⟩ := bind_some h
    split at h
    · cases h
    · rename_i hk
      exact ⟨_, _, _, _, h, good_makeInterface hE ho hr hk⟩
  | makeFunc f first cap => rw [ho] at h; exact ⟨_, _, _, _, h, good_makeFunc ho⟩
  | makeMap t r0 =>
    cases r0 with
    | some _ => rw [ho] at h; cases h
    | none =>
      rw [ho] at h
      simp only at h
      obtain ⟨rw_, hr, h⟩ := bind_some h
      split at h
      · obtain ⟨kt, hkt, h⟩ := bind_some h
        obtain ⟨vt, hvt, h⟩ := bind_some h
        obtain ⟨hc, h⟩ := cond_none h
        exact ⟨_, _, _, _, h, good_makeMap (k := 0) (v := 0) (rw_ := rw_) hE ho hc⟩
      · cases h
  | makeSlice t x y => exact ev_makeSlice hE ho h0
  | slice t x lo hi mx => exact ev_slice hE ho h0
  | fieldAddr t x f => exact ev_fieldAddr hE ho h0
  | field t x f => exact ev_field hE ho h0
  | indexAddr t x i => exact ev_indexAddr hE ho h0
  | index t x i => exact ev_index hE ho h0
  | lookup t x k ok => exact ev_lookup hE ho h0
  | mapUpdate t x k y => exact ev_mapUpdate hE ho h0
  | range t x =>
    rw [ho] at h
    simp only at h
    obtain ⟨rw_, hr, h⟩ := bind_some h
    split at h
    · rename_i hk hx
      exact ⟨_, _, _, _, h, good_range hE ho hr hk hx⟩
    · cases h
  | next x q =>
    cases q with
    | false => rw [ho] at h; cases h
    | true =>
      rw [ho] at h
      simp only at h
      split at h
      · rename_i l hx
        split at h
        · rename_i s pos hg
          by_cases hp : pos < s.length
          · rw [decide_eq_true hp] at h
            exact ⟨_, _, _, _, h, good_next_more ho hx hg hp⟩
          · rw [decide_eq_false hp] at h
            exact ⟨_, _, _, _, h, good_next_over ho hx hg hp⟩
        · cases h
      · cases h
  | typeAssert x t' t ok => exact ev_typeAssert hE ho h0
  | extract x i =>
    rw [ho] at h
    simp only at h
    split at h
    · rename_i vs hx
      obtain ⟨v, hv, h⟩ := bind_some h
      exact ⟨_, _, _, _, h, good_extract ho hx hv⟩
    · cases h
  | call c => exact ev_call hE ho h0
  | _ => rw [ho] at h; cases h
end
end Go.Sim
