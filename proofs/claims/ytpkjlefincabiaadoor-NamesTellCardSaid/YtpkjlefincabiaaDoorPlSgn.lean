/-
  PlSgn: one rune's bytes, in plain Lean.
-/
import Derived.Test.YtpkjlefincabiaaDoorPlNam
namespace Go.Sim
set_option maxRecDepth 10000
def encL (c : Nat) : List UInt8 := (Utf8.encode (c : Int)).data.toList
theorem bt_cons_zero (a : UInt8) (l : List UInt8) : bt (a :: l) 0 = a.toNat := rfl
theorem bt_cons_succ (a : UInt8) (l : List UInt8) (k : Nat) : bt (a :: l) (k + 1) = bt l k := by simp [bt]
theorem bt_c1 (a b : UInt8) (l : List UInt8) : bt (a :: b :: l) 1 = b.toNat := rfl
theorem bt_c2 (a b c : UInt8) (l : List UInt8) : bt (a :: b :: c :: l) 2 = c.toNat := rfl
theorem bt_c3 (a b c d : UInt8) (l : List UInt8) : bt (a :: b :: c :: d :: l) 3 = d.toNat := rfl
def okR (c : Nat) : Prop := c < 0xD800 ∨ (0xE000 ≤ c ∧ c ≤ 0x10FFFF)
theorem okR_valid {c : Nat} (h : okR c) : Utf8.valid (c : Int) = true := by
  unfold okR at h
  unfold Utf8.valid
  simp only [Bool.or_eq_true, Bool.and_eq_true, decide_eq_true_eq]
  omega
theorem encL_eq {c : Nat} (h : okR c) : encL c = if c < 0x80 then [UInt8.ofNat c] else if c < 0x800 then [UInt8.ofNat (0xC0 + c / 64), UInt8.ofNat (0x80 + c % 64)]
    else if c < 0x10000 then [UInt8.ofNat (0xE0 + c / 4096), UInt8.ofNat (0x80 + c / 64 % 64), UInt8.ofNat (0x80 + c % 64)]
    else [UInt8.ofNat (0xF0 + c / 262144), UInt8.ofNat (0x80 + c / 4096 % 64), UInt8.ofNat (0x80 + c / 64 % 64), UInt8.ofNat (0x80 + c % 64)] := by
  unfold encL Utf8.encode
  simp only [okR_valid h, if_true, Int.toNat_natCast]
  by_cases h1 : c < 0x80
  · simp only [h1, if_true]
  · by_cases h2 : c < 0x800
    · simp only [h1, h2, if_true, if_false]
    · by_cases h3 : c < 0x10000
      · simp only [h1, h2, h3, if_true, if_false]
      · simp only [h1, h2, h3, if_false]
theorem ofNat_toNat' {n : Nat} (h : n < 256) : (UInt8.ofNat n).toNat = n := by simp; omega
theorem enc_dec {c : Nat} (h : okR c) (r : List UInt8) : dec1 (encL c ++ r) = (c, (encL c).length) ∧ good1 (encL c ++ r) = some (encL c).length ∧ 1 ≤ (encL c).length ∧ (encL c).length ≤ 4 := by
  rw [encL_eq h]
  have hv := okR_valid h
  unfold okR at h
  split
  · rename_i h1
    have e : (UInt8.ofNat c).toNat = c := ofNat_toNat' (by omega)
    refine ⟨?_, ?_, by simp, by simp⟩
    · unfold dec1
      simp only [List.cons_append, bt_cons_zero, e]
      rw [if_pos h1]; rfl
    · unfold good1
      simp only [List.cons_append, bt_cons_zero, e]
      rw [if_pos (by omega)]; rfl
  · split
    · rename_i h1 h2
      have e0 : (UInt8.ofNat (0xC0 + c / 64)).toNat = 0xC0 + c / 64 := ofNat_toNat' (by omega)
      have e1 : (UInt8.ofNat (0x80 + c % 64)).toNat = 0x80 + c % 64 := ofNat_toNat' (by omega)
      refine ⟨?_, ?_, by simp, by simp⟩
      · unfold dec1 contL
        simp only [List.cons_append, List.nil_append, bt_cons_zero, bt_c1, e0, e1, List.length_cons]
        rw [if_neg (by omega), if_pos (by simp; omega), if_pos (by omega)]
        simp; omega
      · unfold good1 tailB
        simp only [List.cons_append, List.nil_append, bt_cons_zero, bt_c1, e0, e1, List.length_cons]
        rw [if_neg (by omega), if_neg (by omega), if_pos (by omega), if_pos (by simp; omega)]
        rfl
    · split
      · rename_i h1 h2 h3
        have e0 : (UInt8.ofNat (0xE0 + c / 4096)).toNat = 0xE0 + c / 4096 := ofNat_toNat' (by omega)
        have e1 : (UInt8.ofNat (0x80 + c / 64 % 64)).toNat = 0x80 + c / 64 % 64 := ofNat_toNat' (by omega)
        have e2 : (UInt8.ofNat (0x80 + c % 64)).toNat = 0x80 + c % 64 := ofNat_toNat' (by omega)
        have ec : (0xE0 + c / 4096) % 16 * 4096 + (0x80 + c / 64 % 64) % 64 * 64 + (0x80 + c % 64) % 64 = c := by omega
        refine ⟨?_, ?_, by simp, by simp⟩
        · unfold dec1 contL
          simp only [List.cons_append, List.nil_append, bt_cons_zero, bt_c1, bt_c2, e0, e1, e2, List.length_cons, ec, hv]
          rw [if_neg (by omega), if_neg (by simp; omega), if_pos (by simp; omega), if_pos (by simp; omega)]
          rfl
        · unfold good1 tailB
          simp only [List.cons_append, List.nil_append, bt_cons_zero, bt_c1, bt_c2, e0, e1, e2, List.length_cons]
          rw [if_neg (by omega), if_neg (by omega), if_neg (by omega), if_pos (by omega), if_pos (by simp; omega)]
          rfl
      · rename_i h1 h2 h3
        have e0 : (UInt8.ofNat (0xF0 + c / 262144)).toNat = 0xF0 + c / 262144 := ofNat_toNat' (by omega)
        have e1 : (UInt8.ofNat (0x80 + c / 4096 % 64)).toNat = 0x80 + c / 4096 % 64 := ofNat_toNat' (by omega)
        have e2 : (UInt8.ofNat (0x80 + c / 64 % 64)).toNat = 0x80 + c / 64 % 64 := ofNat_toNat' (by omega)
        have e3 : (UInt8.ofNat (0x80 + c % 64)).toNat = 0x80 + c % 64 := ofNat_toNat' (by omega)
        have ec : (0xF0 + c / 262144) % 8 * 262144 + (0x80 + c / 4096 % 64) % 64 * 4096 + (0x80 + c / 64 % 64) % 64 * 64 + (0x80 + c % 64) % 64 = c := by omega
        refine ⟨?_, ?_, by simp, by simp⟩
        · unfold dec1 contL
          simp only [List.cons_append, List.nil_append, bt_cons_zero, bt_c1, bt_c2, bt_c3, e0, e1, e2, e3, List.length_cons, ec, hv]
          rw [if_neg (by omega), if_neg (by simp; omega), if_neg (by simp; omega), if_pos (by simp; omega), if_pos (by simp; omega)]
          rfl
        · unfold good1 tailB
          simp only [List.cons_append, List.nil_append, bt_cons_zero, bt_c1, bt_c2, bt_c3, e0, e1, e2, e3, List.length_cons]
          rw [if_neg (by omega), if_neg (by omega), if_neg (by omega), if_neg (by omega), if_pos (by omega), if_pos (by simp; omega)]
          rfl
theorem encL_ne {c : Nat} (h : okR c) : encL c ≠ [] := by
  intro e
  have := (enc_dec h []).2.2.1
  rw [e] at this
  simp at this
theorem enc_cnt {c : Nat} (h : okR c) : cnt (encL c) = 1 := by
  have := (enc_dec h []).1
  rw [List.append_nil] at this
  rw [cnt_cons _ (encL_ne h), this]
  simp [cnt_nil]
theorem enc_cut {c : Nat} (h : okR c) (r : List UInt8) : cutP (encL c ++ r) 1 = (encL c).length := by
  have := (enc_dec h r).1
  have hne : encL c ++ r ≠ [] := by simp [encL_ne h]
  simp only [cutP, hne, if_false, this, Nat.add_zero]
theorem enc_okL {c : Nat} (h : okR c) : okL (encL c) = true := by
  have := (enc_dec h []).2.1
  rw [List.append_nil] at this
  rw [(okL_some (encL_ne h) this).1]
  simp [okL_nil]
theorem enc_fail {c : Nat} (h : okR c) (m : Nat) (b : Bool) : (failF (m + 1) (encL c) b).isSome = badR (c : Int) b := by
  have := (enc_dec h []).1
  rw [List.append_nil] at this
  have he : (encL c).isEmpty = false := by cases hc : encL c with | nil => exact absurd hc (encL_ne h) | cons a b => rfl
  rw [failF, he, this]
  cases badR (c : Int) b with
  | true => rfl
  | false =>
    simp only [cond_false, List.drop_length]
    cases m <;> rfl
theorem enc_valid {c : Nat} (h : okR c) : validL (encL c) = !badR (c : Int) true := by
  unfold validL
  have h1 := (enc_dec h []).2.2.1
  obtain ⟨m, hm⟩ : ∃ m, (encL c).length = m + 1 := ⟨_, (Nat.sub_add_cancel h1).symm⟩
  rw [hm, enc_fail h, enc_cnt h, enc_okL h]
  simp
theorem a_valid {c : Nat} (h : okR c) : validL (97 :: encL c) = !badR (c : Int) false := by
  have h97 : bt (97 :: encL c) 0 = 97 := rfl
  have hd : dec1 (97 :: encL c) = (97, 1) := by unfold dec1; rw [h97]; rfl
  have hg : good1 (97 :: encL c) = some 1 := by unfold good1; rw [h97]; rfl
  have hne : (97 :: encL c : List UInt8) ≠ [] := by simp
  have h1 := (enc_dec h []).2.2.1
  obtain ⟨m, hm⟩ : ∃ m, (encL c).length = m + 1 := ⟨_, (Nat.sub_add_cancel h1).symm⟩
  have hb : badR ((97 : Nat) : Int) true = false := by kernel_rfl
  have hf : (failF (97 :: encL c).length (97 :: encL c) true).isSome = badR (c : Int) false := by
    rw [List.length_cons, failF]
    simp only [List.isEmpty_cons, cond_false, hd, hb, List.drop_succ_cons, List.drop_zero, Option.isSome_map]
    rw [hm, enc_fail h]
  have hc : cnt (97 :: encL c) = 2 := by rw [cnt_cons _ hne, hd]; simp [enc_cnt h]
  have ho : okL (97 :: encL c) = true := by rw [(okL_some hne hg).1]; simp [enc_okL h]
  unfold validL
  rw [hf, hc, ho]
  simp
theorem findF_asc : ∀ (m : Nat) (l : List UInt8) (c : Int), l.length ≤ m → (∀ b ∈ l, b.toNat < 128) → (findF m l c).isSome = l.any fun b => ((b.toNat : Nat) : Int) == c
  | 0, l, c, h, _ => by
    have : l = [] := List.length_eq_zero_iff.1 (by omega)
    subst this
    rfl
  | m + 1, [], c, _, _ => rfl
  | m + 1, b :: l, c, h, hb => by
    have h0 := hb b (by simp)
    have hd : dec1 (b :: l) = (b.toNat, 1) := by unfold dec1; rw [if_pos (by rw [bt_cons_zero]; exact h0), bt_cons_zero]
    have ih := findF_asc m l c (by simpa using h) (fun x hx => hb x (List.mem_cons_of_mem _ hx))
    rw [findF, hd]
    simp only [List.isEmpty_cons, cond_false, List.any_cons, List.drop_succ_cons, List.drop_zero]
    cases hc : (((b.toNat : Nat) : Int) == c) with
    | true => rfl
    | false => simp only [cond_false, Option.isSome_map, ih, Bool.false_or]
theorem hasR_asc {l : List UInt8} (h : (l.all fun b => decide (b.toNat < 128)) = true) (c : Int) : hasR l c = l.any fun b => ((b.toNat : Nat) : Int) == c :=
  findF_asc _ l c (Nat.le_refl _) fun b hb => of_decide_eq_true (List.all_eq_true.1 h b hb)
theorem letters_has (c : Int) : hasR lettersL c = (decide (97 ≤ c) && decide (c ≤ 122) || decide (48 ≤ c) && decide (c ≤ 57)) := by
  rw [hasR_asc (by decide +kernel)]
  have h1 : ∀ b ∈ lettersL, (97 ≤ b.toNat ∧ b.toNat ≤ 122) ∨ (48 ≤ b.toNat ∧ b.toNat ≤ 57) := by decide +kernel
  have h2 : ∀ k : Nat, k < 26 → (lettersL.any fun b => b.toNat == 97 + k) = true := by decide +kernel
  have h3 : ∀ k : Nat, k < 10 → (lettersL.any fun b => b.toNat == 48 + k) = true := by decide +kernel
  apply Bool.eq_iff_iff.2
  simp only [List.any_eq_true, beq_iff_eq, Bool.or_eq_true, Bool.and_eq_true, decide_eq_true_eq] at h2 h3 ⊢
  constructor
  · rintro ⟨b, hb, rfl⟩
    have := h1 b hb
    omega
  · rintro (⟨a, b⟩ | ⟨a, b⟩)
    · obtain ⟨x, hx, e⟩ := h2 (c.toNat - 97) (by omega)
      exact ⟨x, hx, by omega⟩
    · obtain ⟨x, hx, e⟩ := h3 (c.toNat - 48) (by omega)
      exact ⟨x, hx, by omega⟩
theorem signs_has (c : Int) : hasR signsL c = (c == 45 || (c == 95 || c == 46)) := by
  rw [hasR_asc (by decide +kernel)]
  apply Bool.eq_iff_iff.2
  simp [signsL]
  omega
end Go.Sim
