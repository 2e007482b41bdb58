/-
  SRwOf: laws of seat Ytjjikahgiffpbaa: for every input the law returns true; each argument reads behind the call as it read before. WRITTEN BY PROGRAM (rowgen.py).
-/
import Derived.Test.YtjjikahgiffpbaaRows
import Derived.WalkKit
import Derived.ProofKit
import Derived.OpenShut
import Derived.JoinedCond
import Derived.Test.YtjjikahgiffpbaaPartF
namespace Go.Proofs.Ytjjikahgiffpbaa.segsOf
open Go.ChangeShapes Go.WideShapes Go.ChangeAt Go.RowKit Go.Sim
set_option linter.unusedVariables false
theorem own : ownKnob Try.prog.godebug = none := by kernel_rfl
set_option maxRecDepth 100000 in
theorem contract (H : Type) (enc : TypeId × Value → H) (W : World) (base : Nat) (args : Array Value) (ds gs : List (DataW H)) (before : List MemPlace)
    (hval : ∀ (j : Nat) t v, Try.f4.params[j]? = some t → args[j]? = some v → Value.okWide Try.prog W .any base t v)
    (hW : DataW.Whole enc Try.prog Try.f4.params.toList Rows.segsOfSpec.vars false W args.toList ds gs before)
    (hb : ∀ x : tysDen [.sl segT], bulkTs [.sl segT] x ≤ (ds.map Rows.uptoBulk).sum → tysWf [.sl segT] x → ∃ o, EffGood Try.prog 4 (valsOf [.sl segT] x) [] (.bool true) o) :
    Calls Try.prog 4 args W fun e W' => ∃ v, e = .returned v ∧ Rows.segsOfSpec.post enc Try.prog Try.f4 false true false false W args v W' :=
  law_calls (bt := 4) (by kernel_rfl) (by kernel_rfl) (of_decide_eq_true (by kernel_rfl)) rfl (by kernel_rfl) (by kernel_rfl) bulkOK hval hW (fun h => by
      match ds, h with
      | [d0], _ => exact ⟨rfl, rfl, rfl⟩) (fun x h => by cases h) hb
set_option maxRecDepth 100000 in
theorem lifted (os : Os) (started : os.Started) (H : Type) (enc : TypeId × Value → H) :
    ReturnsInHanded {} Try.checked os 4 .any (Rows.segsOfSpec.pre6 enc Try.prog Try.f4 Rows.segsOfRow.domain false) (Rows.segsOfSpec.post enc Try.prog Try.f4 false true false false) := by
  refine returnsInHanded_of_change (C := Try.checked) own started (by kernel_rfl) Try.func4
    (ChangeSpec.witness6 (enc := enc) (C := Try.checked) false ⟨#[], #[.slice none 0 0], []⟩ 8 (by kernel_rfl) (by kernel_rfl) (by kernel_rfl) (by kernel_rfl)) ?_
  intro W base args ds gs before hval hW _ _
  exact contract H enc W base args ds gs before hval hW fun x _ hw => sof_good x hw
theorem proved : Rows.SegsOfSaid :=
  OpenClaim.holds_of_wide 4 Try.f4 rfl rfl rfl rfl rfl rfl rfl ⟨rfl, rfl, rfl, rfl, rfl⟩ rfl rfl rfl rfl rfl (by kernel_rfl) Try.func4 (by kernel_rfl)
    (of_decide_eq_true (by kernel_rfl)) (by unfold Func.isWrapper; first | (rw [if_pos (by decide +kernel)]; kernel_rfl) | (rw [if_neg (by decide +kernel)]; exact ⟨rfl, rfl⟩))
    (fun os started H enc _ => lifted os started H enc)
#print axioms proved
end Go.Proofs.Ytjjikahgiffpbaa.segsOf
