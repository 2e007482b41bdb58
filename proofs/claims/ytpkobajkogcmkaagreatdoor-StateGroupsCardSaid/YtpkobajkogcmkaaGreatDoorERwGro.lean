/-
  ERwGro: laws of seat YtpkobajkogcmkaaGreatDoor, with their cards: for every input the law returns true; each argument reads behind the call as it read before. WRITTEN BY PROGRAM (rowcard.py).
-/
import Derived.Test.YtpkobajkogcmkaaGreatDoorCards
import Derived.Test.YtpkobajkogcmkaaGreatDoorTie
import Derived.WalkKit
import Derived.ProofKit
import Derived.OpenShut
import Derived.JoinedCond
import Derived.Lay
import Derived.MakeChecks
import Derived.Test.YtpkobajkogcmkaaGreatDoorPartG
namespace Go.Proofs.YtpkobajkogcmkaaGreatDoor.stateGroups
open Go.ChangeShapes Go.WideShapes Go.ChangeAt Go.RowKit Go.Sim
set_option linter.unusedVariables false
theorem own : ownKnob Tryz.prog.godebug = none := by kernel_rfl
set_option maxRecDepth 100000 in
theorem contract (H : Type) (enc : TypeId × Value → H) (W : World) (base : Nat) (args : Array Value) (ds gs : List (DataW H)) (before : List MemPlace)
    (hval : ∀ (j : Nat) t v, Tryz.f8.params[j]? = some t → args[j]? = some v → Value.okWide Tryz.prog W .any base t v)
    (hW : DataW.Whole enc Tryz.prog Tryz.f8.params.toList Rows.stateGroupsSpec.vars false W args.toList ds gs before) (hLM : laidMetH Tryz.prog Rows.stateGroupsRow.laid W)
    (hb : ∀ x : tysDen [.int .i64, .sl (.int .i64), .sl .str], bulkTs [.int .i64, .sl (.int .i64), .sl .str] x ≤ (ds.map Rows.uptoBulk).sum → tysWf [.int .i64, .sl (.int .i64), .sl .str] x → ∃ o, EffGood Tryz.prog 8 (valsOf [.int .i64, .sl (.int .i64), .sl .str] x) [] (.bool true) o) :
    Calls Tryz.prog 8 args W fun e W' => ∃ v, e = .returned v ∧ Rows.stateGroupsSpec.post enc Tryz.prog Tryz.f8 false true false false W args v W' :=
  law_calls (bt := 4) (by kernel_rfl) (by kernel_rfl) (of_decide_eq_true (by kernel_rfl)) rfl (by kernel_rfl) (by kernel_rfl) bulkOK hval hW (fun h => by
      match ds, h with
      | [d0, d1, d2], _ => exact ⟨rfl, rfl, rfl⟩) (laidN hLM) hb
set_option maxRecDepth 100000 in
theorem lifted (os : Os) (started : os.Started) (H : Type) (enc : TypeId × Value → H) :
    ReturnsInHanded {} Tryz.checked os 8 .any (fun w args => (Rows.stateGroupsSpec.pre enc Tryz.prog Tryz.f8 Rows.stateGroupsRow.domain false w args ∧ laidMetH Tryz.prog Rows.stateGroupsRow.laid w) ∧ sizedMet enc Tryz.prog Tryz.f8 (OpenSpec.ofChange Rows.stateGroupsSpec) false w args)
      (Rows.stateGroupsSpec.post enc Tryz.prog Tryz.f8 false true false false) := by
  refine returnsInHanded_of_change_and (C := Tryz.checked) (X := fun w _ => laidMetH Tryz.prog Rows.stateGroupsRow.laid w) (fun _ _ _ hh h => h.of_heap hh) own started (by kernel_rfl) Tryz.func8
    (ChangeSpec.witness_shaped (enc := enc) (C := Tryz.checked) (os := os) (X := fun w _ => laidMetH Tryz.prog Rows.stateGroupsRow.laid w) false (World.laidAll Tryz.prog os Rows.stateGroupsRow.laid) #[.int .i64 0, .slice none 0 0, .slice none 0 0] 8 (World.laidAll_os _ _ _)
      (World.shaped_of_ZipB (by kernel_rfl) (by kernel_rfl)) (by kernel_rfl) (by kernel_rfl) (by kernel_rfl)
      (by rw [MakeChecks.laidMetH_plain _ _ _ (by kernel_rfl)]; exact laidMet_laidAll _ (by kernel_rfl) (by kernel_rfl))) ?_
  intro W base args ds gs before hval hW hc _ hL _
  exact contract H enc W base args ds gs before hval hW hL fun x _ hw => gro_good x hw
theorem said : Rows.StateGroupsSaid :=
  OpenClaim.holds_of_wide 8 Tryz.f8 rfl rfl rfl rfl rfl rfl rfl ⟨rfl, rfl, rfl, rfl, rfl⟩ rfl rfl rfl rfl rfl (by kernel_rfl) Tryz.func8 (by kernel_rfl)
    (of_decide_eq_true (by kernel_rfl)) (by unfold Func.isWrapper; first | (rw [if_pos (by decide +kernel)]; kernel_rfl) | (rw [if_neg (by decide +kernel)]; exact ⟨rfl, rfl⟩))
    (fun os started H enc _ => lifted os started H enc)
theorem proved : Rows.StateGroupsCardSaid :=
  Claim7.holds_tied_plain_at .later [] [.data, .pinned] true (true, "c5f555b6959b3ad6e747c0310eb42fbcd97f6bddc681ab90ddddcccd76c1899e") true said (fun _ h => by cases h) (by kernel_rfl) (fun _ h => by cases h) stateGroups_row_tie rfl ⟨rfl, rfl⟩ (by kernel_rfl) rfl
    (fun f fn hf hfn => by
      obtain rfl : f = 8 := Option.some.inj ((show Tryz.prog.funcNamed Rows.stateGroupsRow.func = some 8 by kernel_rfl).symm.trans hf) |>.symm
      obtain rfl : fn = Tryz.f8 := (Option.some.inj (Tryz.func8.symm.trans hfn)).symm
      exact ⟨by kernel_rfl, fun j t ht => by
        rw [Tryz.params8] at ht
        have hm : t ∈ [3, 23, 67] := by simpa using Array.mem_of_getElem? ht
        have hall : ([3, 23, 67].all fun u => !Tryz.prog.wantsStandIn u) = true := by kernel_rfl
        exact (show Tryz.prog.wantsStandIn t = false by simpa using List.all_eq_true.1 hall t hm)⟩)
    (by kernel_rfl)
#print axioms proved
end Go.Proofs.YtpkobajkogcmkaaGreatDoor.stateGroups
