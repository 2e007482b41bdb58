/-
  ERwOnc: laws of seat YtpkobajkogcmkaaGreatDoor, with their cards: for every input the law returns true; each argument reads behind the call as it read before. WRITTEN BY PROGRAM (rowcard.py).
-/
import Derived.Test.YtpkobajkogcmkaaGreatDoorCards
import Derived.Test.YtpkobajkogcmkaaGreatDoorTie
import Derived.WalkKit
import Derived.ProofKit
import Derived.OpenShut
import Derived.JoinedCond
import Derived.Lay
import Derived.MakeChecks
import Derived.Test.YtpkobajkogcmkaaGreatDoorPartG
namespace Go.Proofs.YtpkobajkogcmkaaGreatDoor.stateOnce
open Go.ChangeShapes Go.WideShapes Go.ChangeAt Go.RowKit Go.Sim
set_option linter.unusedVariables false
theorem own : ownKnob Tryz.prog.godebug = none := by kernel_rfl
set_option maxRecDepth 100000 in
theorem contract (H : Type) (enc : TypeId × Value → H) (W : World) (base : Nat) (args : Array Value) (ds gs : List (DataW H)) (before : List MemPlace)
    (hval : ∀ (j : Nat) t v, Tryz.f3.params[j]? = some t → args[j]? = some v → Value.okWide Tryz.prog W .any base t v)
    (hW : DataW.Whole enc Tryz.prog Tryz.f3.params.toList Rows.stateOnceSpec.vars false W args.toList ds gs before) (hLM : laidMetH Tryz.prog Rows.stateOnceRow.laid W)
    (hb : ∀ x : tysDen [.int .i64, .sl recT, .sl (.int .i64)], bulkTs [.int .i64, .sl recT, .sl (.int .i64)] x ≤ (ds.map Rows.uptoBulk).sum → tysWf [.int .i64, .sl recT, .sl (.int .i64)] x → ∃ o, EffGood Tryz.prog 3 (valsOf [.int .i64, .sl recT, .sl (.int .i64)] x) [] (.bool true) o) :
    Calls Tryz.prog 3 args W fun e W' => ∃ v, e = .returned v ∧ Rows.stateOnceSpec.post enc Tryz.prog Tryz.f3 false true false false W args v W' :=
  law_calls (bt := 4) (by kernel_rfl) (by kernel_rfl) (of_decide_eq_true (by kernel_rfl)) rfl (by kernel_rfl) (by kernel_rfl) bulkOK hval hW (fun h => by
      match ds, h with
      | [d0, d1, d2], _ => exact ⟨rfl, rfl, rfl⟩) (laidN hLM) hb
set_option maxRecDepth 100000 in
theorem lifted (os : Os) (started : os.Started) (H : Type) (enc : TypeId × Value → H) :
    ReturnsInHanded {} Tryz.checked os 3 .any (fun w args => (Rows.stateOnceSpec.pre enc Tryz.prog Tryz.f3 Rows.stateOnceRow.domain false w args ∧ laidMetH Tryz.prog Rows.stateOnceRow.laid w) ∧ sizedMet enc Tryz.prog Tryz.f3 (OpenSpec.ofChange Rows.stateOnceSpec) false w args)
      (Rows.stateOnceSpec.post enc Tryz.prog Tryz.f3 false true false false) := by
  refine returnsInHanded_of_change_and (C := Tryz.checked) (X := fun w _ => laidMetH Tryz.prog Rows.stateOnceRow.laid w) (fun _ _ _ hh h => h.of_heap hh) own started (by kernel_rfl) Tryz.func3
    (ChangeSpec.witness_shaped (enc := enc) (C := Tryz.checked) (os := os) (X := fun w _ => laidMetH Tryz.prog Rows.stateOnceRow.laid w) false (World.laidAll Tryz.prog os Rows.stateOnceRow.laid) #[.int .i64 0, .slice none 0 0, .slice none 0 0] 8 (World.laidAll_os _ _ _)
      (World.shaped_of_ZipB (by kernel_rfl) (by kernel_rfl)) (by kernel_rfl) (by kernel_rfl) (by kernel_rfl)
      (by rw [MakeChecks.laidMetH_plain _ _ _ (by kernel_rfl)]; exact laidMet_laidAll _ (by kernel_rfl) (by kernel_rfl))) ?_
  intro W base args ds gs before hval hW hc _ hL _
  exact contract H enc W base args ds gs before hval hW hL fun x _ hw => onc_good x hw
theorem said : Rows.StateOnceSaid :=
  OpenClaim.holds_of_wide 3 Tryz.f3 rfl rfl rfl rfl rfl rfl rfl ⟨rfl, rfl, rfl, rfl, rfl⟩ rfl rfl rfl rfl rfl (by kernel_rfl) Tryz.func3 (by kernel_rfl)
    (of_decide_eq_true (by kernel_rfl)) (by unfold Func.isWrapper; first | (rw [if_pos (by decide +kernel)]; kernel_rfl) | (rw [if_neg (by decide +kernel)]; exact ⟨rfl, rfl⟩))
    (fun os started H enc _ => lifted os started H enc)
theorem proved : Rows.StateOnceCardSaid :=
  Claim7.holds_tied_plain_at .later [] [.data, .pinned] true (true, "c5f555b6959b3ad6e747c0310eb42fbcd97f6bddc681ab90ddddcccd76c1899e") true said (fun _ h => by cases h) (by kernel_rfl) (fun _ h => by cases h) stateOnce_row_tie rfl ⟨rfl, rfl⟩ (by kernel_rfl) rfl
    (fun f fn hf hfn => by
      obtain rfl : f = 3 := Option.some.inj ((show Tryz.prog.funcNamed Rows.stateOnceRow.func = some 3 by kernel_rfl).symm.trans hf) |>.symm
      obtain rfl : fn = Tryz.f3 := (Option.some.inj (Tryz.func3.symm.trans hfn)).symm
      exact ⟨by kernel_rfl, fun j t ht => by
        rw [Tryz.params3] at ht
        have hm : t ∈ [3, 22, 23] := by simpa using Array.mem_of_getElem? ht
        have hall : ([3, 22, 23].all fun u => !Tryz.prog.wantsStandIn u) = true := by kernel_rfl
        exact (show Tryz.prog.wantsStandIn t = false by simpa using List.all_eq_true.1 hall t hm)⟩)
    (by kernel_rfl)
#print axioms proved
end Go.Proofs.YtpkobajkogcmkaaGreatDoor.stateOnce
