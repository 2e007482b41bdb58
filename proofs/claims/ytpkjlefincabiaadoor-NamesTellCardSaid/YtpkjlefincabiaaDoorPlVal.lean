/-
  PlVal: right UTF-8 in plain Lean.
-/
import Derived.Test.YtpkjlefincabiaaDoorPlWrd
import Derived.Test.YtpkjlefincabiaaDoorPlTab
namespace Go.Sim
def tailB (n : Nat) : Bool := decide (128 ≤ n) && decide (n ≤ 191)
/-- How long the first rune is, if it is right. -/
def good1 (l : List UInt8) : Option Nat :=
  if bt l 0 < 128 then some 1
  else if bt l 0 < 194 then none
  else if bt l 0 < 224 then (if decide (2 ≤ l.length) && tailB (bt l 1) then some 2 else none)
  else if bt l 0 < 240 then (if decide (3 ≤ l.length) && tailB (bt l 1) && (decide (bt l 0 ≠ 224) || decide (160 ≤ bt l 1)) && (decide (bt l 0 ≠ 237) || decide (bt l 1 ≤ 159)) && tailB (bt l 2) then some 3 else none)
  else if bt l 0 < 245 then (if decide (4 ≤ l.length) && tailB (bt l 1) && (decide (bt l 0 ≠ 240) || decide (144 ≤ bt l 1)) && (decide (bt l 0 ≠ 244) || decide (bt l 1 ≤ 143)) && tailB (bt l 2) && tailB (bt l 3) then some 4 else none)
  else none
/-- All of it is right; m: at most so many runes. -/
def okF : Nat → List UInt8 → Bool
  | 0, l => l.isEmpty
  | m + 1, l => bif l.isEmpty then true else match good1 l with
    | none => false
    | some w => okF m (l.drop w)
/-- Where it ends. -/
def endF : Nat → List UInt8 → List UInt8
  | 0, l => l
  | m + 1, l => bif l.isEmpty then [] else match good1 l with
    | none => l
    | some w => endF m (l.drop w)
theorem good1_pos {l : List UInt8} {w : Nat} (h : good1 l = some w) : 1 ≤ w := by
  unfold good1 at h
  repeat' split at h
  all_goals first | (cases h; decide) | cases h
theorem good1_le {l : List UInt8} {w : Nat} (hl : l ≠ []) (h : good1 l = some w) : w ≤ l.length := by
  have h1 : 1 ≤ l.length := by cases l with | nil => exact absurd rfl hl | cons a b => simp
  unfold good1 at h
  repeat' split at h
  all_goals first
    | (cases h; rename_i hc; simp only [Bool.and_eq_true, decide_eq_true_eq] at hc; omega)
    | (cases h; omega)
    | cases h
theorem ok_more : ∀ (m : Nat) (l : List UInt8), l.length ≤ m → okF (m + 1) l = okF m l ∧ endF (m + 1) l = endF m l
  | 0, l, h => by
    have : l = [] := List.length_eq_zero_iff.1 (by omega)
    subst this
    exact ⟨rfl, rfl⟩
  | m + 1, l, h => by
    by_cases hl : l = []
    · subst hl; exact ⟨rfl, rfl⟩
    · have he : l.isEmpty = false := by cases l with | nil => exact absurd rfl hl | cons a b => rfl
      cases hg : good1 l with
      | none => rw [okF, okF, endF, endF, he, hg]; exact ⟨rfl, rfl⟩
      | some w =>
        have hp := good1_pos hg
        have hw := good1_le hl hg
        have ih := ok_more m (l.drop w) (by simp; omega)
        rw [okF, endF, he, hg]
        rw [show okF (m + 1) l = (bif l.isEmpty then true else match good1 l with | none => false | some w => okF m (l.drop w)) from rfl, show endF (m + 1) l = (bif l.isEmpty then [] else match good1 l with | none => l | some w => endF m (l.drop w)) from rfl, he, hg]
        exact ih
def okL (l : List UInt8) : Bool := okF l.length l
def endL (l : List UInt8) : List UInt8 := endF l.length l
theorem ok_fuel (l : List UInt8) : ∀ m, l.length ≤ m → okF m l = okL l ∧ endF m l = endL l := by
  intro m h
  induction m with
  | zero =>
    have : l = [] := List.length_eq_zero_iff.1 (by omega)
    subst this
    exact ⟨rfl, rfl⟩
  | succ m ih =>
    rcases Nat.lt_or_ge m l.length with h' | h'
    · have : m + 1 = l.length := by omega
      unfold okL endL
      rw [this]
      exact ⟨rfl, rfl⟩
    · obtain ⟨a, b⟩ := ok_more m l h'
      obtain ⟨c, d⟩ := ih h'
      exact ⟨a.trans c, b.trans d⟩
theorem okL_nil : okL [] = true := rfl
theorem endL_nil : endL [] = [] := rfl
theorem okL_some {l : List UInt8} {w : Nat} (hl : l ≠ []) (h : good1 l = some w) : okL l = okL (l.drop w) ∧ endL l = endL (l.drop w) := by
  have he : l.isEmpty = false := by cases l with | nil => exact absurd rfl hl | cons a b => rfl
  have h1 : 1 ≤ l.length := by cases l with | nil => exact absurd rfl hl | cons a b => simp
  have hp := good1_pos h
  obtain ⟨m, hm⟩ : ∃ m, l.length = m + 1 := ⟨l.length - 1, by omega⟩
  obtain ⟨a, b⟩ := ok_fuel (l.drop w) m (by simp; omega)
  unfold okL endL
  rw [hm, okF, endF, he, h]
  exact ⟨a, b⟩
theorem okL_none {l : List UInt8} (hl : l ≠ []) (h : good1 l = none) : okL l = false ∧ endL l = l := by
  have he : l.isEmpty = false := by cases l with | nil => exact absurd rfl hl | cons a b => rfl
  have h1 : 1 ≤ l.length := by cases l with | nil => exact absurd rfl hl | cons a b => simp
  obtain ⟨m, hm⟩ : ∃ m, l.length = m + 1 := ⟨l.length - 1, by omega⟩
  unfold okL endL
  rw [hm, okF, endF, he, h]
  exact ⟨rfl, rfl⟩
theorem bt_drop (l : List UInt8) (j k : Nat) : bt (l.drop j) k = bt l (j + k) := by
  unfold bt
  rw [List.getD_eq_getElem?_getD, List.getD_eq_getElem?_getD, List.getElem?_drop]
/-- Plain letters are passed over. -/
theorem okL_asc : ∀ (j : Nat) (l : List UInt8), j ≤ l.length → (∀ k, k < j → bt l k < 128) → okL l = okL (l.drop j) ∧ endL l = endL (l.drop j)
  | 0, l, _, _ => ⟨rfl, rfl⟩
  | j + 1, l, h, ha => by
    have hl : l ≠ [] := by intro e; subst e; simp at h
    have hg : good1 l = some 1 := by unfold good1; rw [if_pos (ha 0 (by omega))]
    obtain ⟨a, b⟩ := okL_some hl hg
    obtain ⟨c, d⟩ := okL_asc j (l.drop 1) (by simp; omega) (fun k hk => by rw [bt_drop, Nat.add_comm]; exact ha (k + 1) (by omega))
    rw [List.drop_drop] at c d
    rw [show j + 1 = 1 + j by omega]
    exact ⟨a.trans c, b.trans d⟩
end Go.Sim
