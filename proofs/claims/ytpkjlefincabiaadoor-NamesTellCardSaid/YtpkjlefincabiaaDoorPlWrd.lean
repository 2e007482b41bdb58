/-
  PlWrd: eight bytes at once.
-/
import Derived.Test.YtpkjlefincabiaaDoorPlUtf
namespace Go.Sim
def byB (l : List UInt8) (k : Nat) : BitVec 64 := BitVec.ofNat 64 (bt l k * 256 ^ k)
/-- The first eight bytes as one number. -/
def w8 (l : List UInt8) : BitVec 64 := byB l 0 ||| byB l 1 ||| byB l 2 ||| byB l 3 ||| byB l 4 ||| byB l 5 ||| byB l 6 ||| byB l 7
def m80 : BitVec 64 := BitVec.ofInt 64 9259542123273814144
theorem bt_lt (l : List UInt8) (k : Nat) : bt l k < 256 := UInt8.toNat_lt _
theorem byB_bit (l : List UInt8) (k : Nat) (hk : k < 8) : (byB l k).getLsbD (8 * k + 7) = (bt l k).testBit 7 := by
  unfold byB
  rw [BitVec.getLsbD_ofNat]
  have h1 : decide (8 * k + 7 < 64) = true := decide_eq_true (by omega)
  rw [h1, Bool.true_and, show 256 ^ k = 2 ^ (8 * k) by rw [Nat.pow_mul], Nat.testBit_mul_two_pow]
  simp
theorem m80_bit (k : Nat) (hk : k < 8) : m80.getLsbD (8 * k + 7) = true := by
  have : ∀ k : Fin 8, m80.getLsbD (8 * k.val + 7) = true := by decide
  exact this ⟨k, hk⟩
theorem bit7 (n : Nat) (h : n < 256) (hb : n.testBit 7 = false) : n < 128 := by
  rcases Nat.lt_or_ge n 128 with h' | h'
  · exact h'
  · have : n.testBit 7 = true := by
      rw [Nat.testBit_eq_decide_div_mod_eq]
      have : n / 2 ^ 7 = 1 := by omega
      rw [this]
      rfl
    rw [this] at hb; cases hb
/-- No byte of eight has its highest bit where the mask finds none. -/
theorem w8_low (l : List UInt8) (h : w8 l &&& m80 = 0) : ∀ k, k < 8 → bt l k < 128 := fun k hk => by
  apply bit7 _ (bt_lt l k)
  have h1 := congrArg (fun x : BitVec 64 => x.getLsbD (8 * k + 7)) h
  simp only [BitVec.getLsbD_and, m80_bit k hk, Bool.and_true, w8, BitVec.getLsbD_or] at h1
  have h2 : (0 : BitVec 64).getLsbD (8 * k + 7) = false := by simp
  rw [h2] at h1
  simp only [Bool.or_eq_false_iff] at h1
  have key := byB_bit l k hk
  obtain ⟨⟨⟨⟨⟨⟨⟨a0, a1⟩, a2⟩, a3⟩, a4⟩, a5⟩, a6⟩, a7⟩ := h1
  rw [← key]
  rcases (show k = 0 ∨ k = 1 ∨ k = 2 ∨ k = 3 ∨ k = 4 ∨ k = 5 ∨ k = 6 ∨ k = 7 by omega) with rfl | rfl | rfl | rfl | rfl | rfl | rfl | rfl
  · exact a0
  · exact a1
  · exact a2
  · exact a3
  · exact a4
  · exact a5
  · exact a6
  · exact a7
theorem ofInt_wrap (x : BitVec 64) : BitVec.ofInt 64 (IntKind.u64.wrap (x.toNat : Int)) = x := by
  have := x.isLt
  rw [wrapu64 (by omega) (by omega)]
  simp
theorem wrap_toNat (x : BitVec 64) : IntKind.u64.wrap (x.toNat : Int) = (x.toNat : Int) := by
  have := x.isLt
  exact wrapu64 (by omega) (by omega)
theorem ofInt_byte (l : List UInt8) : BitVec.ofInt 64 (IntKind.u64.wrap (((l.getD 0 0).toNat : Nat) : Int)) = byB l 0 := by
  have := bt_lt l 0
  unfold bt at this
  rw [wrapu64 (by omega) (by omega)]
  unfold byB bt
  simp
theorem ofInt_shift (l : List UInt8) (k : Nat) (c : Int) (hc : c = ((256 ^ k : Nat) : Int)) (hk : k < 8) : BitVec.ofInt 64 (IntKind.u64.wrap (IntKind.u64.wrap (((l.getD k 0).toNat : Nat) : Int) * c)) = byB l k := by
  have := bt_lt l k
  unfold bt at this
  have hp : 256 ^ k ≤ 72057594037927936 := by
    rcases (show k = 0 ∨ k = 1 ∨ k = 2 ∨ k = 3 ∨ k = 4 ∨ k = 5 ∨ k = 6 ∨ k = 7 by omega) with rfl | rfl | rfl | rfl | rfl | rfl | rfl | rfl <;> decide
  have hm : (l.getD k 0).toNat * 256 ^ k ≤ 255 * 72057594037927936 := Nat.mul_le_mul (by omega) hp
  have e : IntKind.u64.wrap (((l.getD k 0).toNat : Nat) : Int) = (((l.getD k 0).toNat : Nat) : Int) := wrapu64 (by omega) (by omega)
  rw [e, hc, ← Int.natCast_mul, wrapu64 (by omega) (by omega)]
  unfold byB bt
  rw [← BitVec.ofInt_natCast]
end Go.Sim
