/-
  SRwCopy: laws of seat Ytjjikahgiffpbaa: for every input the law returns true; each argument reads behind the call as it read before. WRITTEN BY PROGRAM (rowgen.py).
-/
import Derived.Test.YtjjikahgiffpbaaRows
import Derived.WalkKit
import Derived.ProofKit
import Derived.OpenShut
import Derived.JoinedCond
import Derived.Test.YtjjikahgiffpbaaPartH
namespace Go.Proofs.Ytjjikahgiffpbaa.segsCopy
open Go.ChangeShapes Go.WideShapes Go.ChangeAt Go.RowKit Go.Sim
set_option linter.unusedVariables false
theorem own : ownKnob Try.prog.godebug = none := by kernel_rfl
set_option maxRecDepth 100000 in
theorem contract (H : Type) (enc : TypeId × Value → H) (W : World) (base : Nat) (args : Array Value) (ds gs : List (DataW H)) (before : List MemPlace)
    (hval : ∀ (j : Nat) t v, Try.f10.params[j]? = some t → args[j]? = some v → Value.okWide Try.prog W .any base t v)
    (hW : DataW.Whole enc Try.prog Try.f10.params.toList Rows.segsCopySpec.vars false W args.toList ds gs before)
    (hb : ∀ x : tysDen [.sl ractT, .sl ractT], bulkTs [.sl ractT, .sl ractT] x ≤ (ds.map Rows.uptoBulk).sum → tysWf [.sl ractT, .sl ractT] x → ∃ o, EffGood Try.prog 10 (valsOf [.sl ractT, .sl ractT] x) [] (.bool true) o) :
    Calls Try.prog 10 args W fun e W' => ∃ v, e = .returned v ∧ Rows.segsCopySpec.post enc Try.prog Try.f10 false true false false W args v W' :=
  law_calls (bt := 4) (by kernel_rfl) (by kernel_rfl) (of_decide_eq_true (by kernel_rfl)) rfl (by kernel_rfl) (by kernel_rfl) bulkOK hval hW (fun h => by
      match ds, h with
      | [d0, d1], _ => exact ⟨rfl, rfl, rfl⟩) (fun x h => by cases h) hb
set_option maxRecDepth 100000 in
theorem lifted (os : Os) (started : os.Started) (H : Type) (enc : TypeId × Value → H) :
    ReturnsInHanded {} Try.checked os 10 .any (Rows.segsCopySpec.pre6 enc Try.prog Try.f10 Rows.segsCopyRow.domain false) (Rows.segsCopySpec.post enc Try.prog Try.f10 false true false false) := by
  refine returnsInHanded_of_change (C := Try.checked) own started (by kernel_rfl) Try.func10
    (ChangeSpec.witness6 (enc := enc) (C := Try.checked) false ⟨#[], #[.slice none 0 0, .slice none 0 0], []⟩ 8 (by kernel_rfl) (by kernel_rfl) (by kernel_rfl) (by kernel_rfl)) ?_
  intro W base args ds gs before hval hW _ _
  exact contract H enc W base args ds gs before hval hW fun x _ hw => copy15_good x hw
theorem proved : Rows.SegsCopySaid :=
  OpenClaim.holds_of_wide 10 Try.f10 rfl rfl rfl rfl rfl rfl rfl ⟨rfl, rfl, rfl, rfl, rfl⟩ rfl rfl rfl rfl rfl (by kernel_rfl) Try.func10 (by kernel_rfl)
    (of_decide_eq_true (by kernel_rfl)) (by unfold Func.isWrapper; first | (rw [if_pos (by decide +kernel)]; kernel_rfl) | (rw [if_neg (by decide +kernel)]; exact ⟨rfl, rfl⟩))
    (fun os started H enc _ => lifted os started H enc)
#print axioms proved
end Go.Proofs.Ytjjikahgiffpbaa.segsCopy
