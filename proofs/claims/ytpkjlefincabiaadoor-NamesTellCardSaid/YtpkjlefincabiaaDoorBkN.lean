/-
  BkN: the rows' count of readings counts what it must.
-/
import Derived.Test.YtpkjlefincabiaaDoorRows
import Derived.Test.YtpkjlefincabiaaDoorSimEntry
namespace Go.Sim
open Go.Proofs.YtpkjlefincabiaaDoor
theorem sum_bulk {H : Type} : ∀ l : List (DataW H), (l.map Rows.uptoBulk).sum = Rows.uptoBulkAll l
  | [] => rfl
  | d :: r => by simp [Rows.uptoBulkAll, sum_bulk r]
theorem bulkOK {H : Type} : BulkOK (H := H) Rows.uptoBulk where
  one := fun d => by
    cases d with
    | lit l => cases l <;> simp [Rows.uptoBulk]
    | nil => simp [Rows.uptoBulk]
    | ptr d => simp [Rows.uptoBulk]
    | slice elems spare => simp [Rows.uptoBulk]
    | agg parts => simp [Rows.uptoBulk]
    | iface t d => simp [Rows.uptoBulk]
    | map entries => simp [Rows.uptoBulk]
    | held h => simp [Rows.uptoBulk]
  str := fun b => by simp [Rows.uptoBulk]
  sl := fun es s => by rw [sum_bulk]; simp only [Rows.uptoBulk]; omega
  agg := fun ps => by rw [sum_bulk]; simp only [Rows.uptoBulk]; omega
theorem sum_le {H : Type} {ds gs : List (DataW H)} (hk : Rows.uptoSmall H (ds ++ gs) = true) : (ds.map Rows.uptoBulk).sum ≤ 1048576 := by
  have h1 : ∀ l r : List (DataW H), Rows.uptoBulkAll (l ++ r) = Rows.uptoBulkAll l + Rows.uptoBulkAll r := fun l r => by
    rw [← sum_bulk, ← sum_bulk, ← sum_bulk]; simp
  have h2 : Rows.uptoBulkAll (ds ++ gs) ≤ 1048576 := by simpa [Rows.uptoSmall] using hk
  rw [h1] at h2
  rw [sum_bulk]
  omega
end Go.Sim
