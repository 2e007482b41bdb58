/-
  PlSkp: plain letters are passed over, many at once.
-/
import Derived.Test.YtpkjlefincabiaaDoorPlVal
namespace Go.Sim
theorem or_low {x y m : BitVec 64} (h : (x ||| y) &&& m = 0) : x &&& m = 0 ∧ y &&& m = 0 := by
  have key : ∀ i, i < 64 → ((x.getLsbD i || y.getLsbD i) && m.getLsbD i) = false := fun i hi => by
    have h1 := congrArg (fun z : BitVec 64 => z.getLsbD i) h
    simpa only [BitVec.getLsbD_and, BitVec.getLsbD_or, BitVec.ofNat_eq_ofNat, BitVec.getLsbD_zero] using h1
  constructor
  · apply BitVec.eq_of_getLsbD_eq
    intro i hi
    have := key i hi
    simp only [BitVec.getLsbD_and, BitVec.ofNat_eq_ofNat, BitVec.getLsbD_zero]
    revert this
    cases x.getLsbD i <;> cases y.getLsbD i <;> cases m.getLsbD i <;> simp
  · apply BitVec.eq_of_getLsbD_eq
    intro i hi
    have := key i hi
    simp only [BitVec.getLsbD_and, BitVec.ofNat_eq_ofNat, BitVec.getLsbD_zero]
    revert this
    cases x.getLsbD i <;> cases y.getLsbD i <;> cases m.getLsbD i <;> simp
def nullB (x : BitVec 64) : Bool := ((x.toNat : Nat) : Int) == (0 : Int)
theorem nullB_eq {x : BitVec 64} (h : nullB x = true) : x = 0 := by
  unfold nullB at h
  simp only [beq_iff_eq] at h
  apply BitVec.eq_of_toNat_eq
  simp
  omega
def low8 (l : List UInt8) : Bool := nullB (w8 l &&& m80)
def low16 (l : List UInt8) : Bool := nullB ((w8 l ||| w8 (l.drop 8)) &&& m80)
def low32 (l : List UInt8) : Bool := nullB (((w8 l ||| w8 (l.drop 8)) ||| (w8 (l.drop 16) ||| w8 (l.drop 24))) &&& m80)
theorem low8_asc {l : List UInt8} (h : low8 l = true) : ∀ k, k < 8 → bt l k < 128 := w8_low l (nullB_eq h)
theorem two_asc {l : List UInt8} {a b : Nat} (h1 : ∀ k, k < a → bt l k < 128) (h2 : ∀ k, k < b → bt (l.drop a) k < 128) : ∀ k, k < a + b → bt l k < 128 := fun k hk => by
  rcases Nat.lt_or_ge k a with h | h
  · exact h1 k h
  · have := h2 (k - a) (by omega)
    rw [bt_drop, show a + (k - a) = k by omega] at this
    exact this
theorem low16_asc {l : List UInt8} (h : low16 l = true) : ∀ k, k < 16 → bt l k < 128 := by
  obtain ⟨a, b⟩ := or_low (nullB_eq h)
  exact two_asc (a := 8) (b := 8) (w8_low l a) (w8_low _ b)
theorem low32_asc {l : List UInt8} (h : low32 l = true) : ∀ k, k < 32 → bt l k < 128 := by
  obtain ⟨a, b⟩ := or_low (nullB_eq h)
  obtain ⟨a1, a2⟩ := or_low a
  obtain ⟨b1, b2⟩ := or_low b
  have e : l.drop 24 = (l.drop 16).drop 8 := by rw [List.drop_drop]
  rw [e] at b2
  exact two_asc (a := 16) (b := 16) (two_asc (a := 8) (b := 8) (w8_low l a1) (w8_low _ a2)) (two_asc (a := 8) (b := 8) (w8_low _ b1) (w8_low _ b2))
def skipF : Nat → List UInt8 → List UInt8
  | 0, l => l
  | m + 1, l => bif decide (l.length > 32) && low32 l then skipF m (l.drop 32) else l
theorem skipF_ok : ∀ (m : Nat) (l : List UInt8), okL (skipF m l) = okL l ∧ endL (skipF m l) = endL l ∧ (skipF m l).length ≤ l.length
  | 0, l => ⟨rfl, rfl, Nat.le_refl _⟩
  | m + 1, l => by
    simp only [skipF]
    cases h : (decide (l.length > 32) && low32 l)
    · exact ⟨rfl, rfl, Nat.le_refl _⟩
    · simp only [Bool.and_eq_true, decide_eq_true_eq] at h
      obtain ⟨a, b⟩ := okL_asc 32 l (by omega) (low32_asc h.2)
      obtain ⟨c, d, e⟩ := skipF_ok m (l.drop 32)
      rw [List.length_drop] at e
      exact ⟨c.trans a.symm, d.trans b.symm, by simp only [cond_true]; omega⟩
def skip32 (l : List UInt8) : List UInt8 := skipF l.length l
/-- What is left behind a plain letter: more of them may be passed over. -/
def adv (t : List UInt8) : List UInt8 :=
  bif decide (t.length > 8) && low8 t then (bif decide ((t.drop 8).length > 16) && low16 (t.drop 8) then skip32 ((t.drop 8).drop 16) else t.drop 8) else t
theorem adv_ok (t : List UInt8) : okL (adv t) = okL t ∧ endL (adv t) = endL t ∧ (adv t).length ≤ t.length := by
  unfold adv
  cases h : (decide (t.length > 8) && low8 t)
  · exact ⟨rfl, rfl, Nat.le_refl _⟩
  · simp only [Bool.and_eq_true, decide_eq_true_eq] at h
    obtain ⟨a, b⟩ := okL_asc 8 t (by omega) (low8_asc h.2)
    simp only [cond_true]
    cases h2 : (decide ((t.drop 8).length > 16) && low16 (t.drop 8))
    · simp only [cond_false]
      exact ⟨a.symm, b.symm, by simp⟩
    · simp only [Bool.and_eq_true, decide_eq_true_eq] at h2
      obtain ⟨c, d⟩ := okL_asc 16 (t.drop 8) (by omega) (low16_asc h2.2)
      obtain ⟨e, f, g⟩ := skipF_ok ((t.drop 8).drop 16).length ((t.drop 8).drop 16)
      simp only [cond_true]
      unfold skip32
      refine ⟨e.trans (c.symm.trans a.symm), f.trans (d.symm.trans b.symm), ?_⟩
      simp only [List.length_drop] at g ⊢
      omega
end Go.Sim
