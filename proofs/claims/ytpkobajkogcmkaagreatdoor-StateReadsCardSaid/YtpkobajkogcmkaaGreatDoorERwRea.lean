/-
  ERwRea: laws of seat YtpkobajkogcmkaaGreatDoor, with their cards: for every input the law returns true; each argument reads behind the call as it read before. WRITTEN BY PROGRAM (rowcard.py).
-/
import Derived.Test.YtpkobajkogcmkaaGreatDoorCards
import Derived.Test.YtpkobajkogcmkaaGreatDoorTie
import Derived.WalkKit
import Derived.ProofKit
import Derived.OpenShut
import Derived.JoinedCond
import Derived.Lay
import Derived.MakeChecks
import Derived.Test.YtpkobajkogcmkaaGreatDoorPartG
namespace Go.Proofs.YtpkobajkogcmkaaGreatDoor.stateReads
open Go.ChangeShapes Go.WideShapes Go.ChangeAt Go.RowKit Go.Sim
set_option linter.unusedVariables false
theorem own : ownKnob Tryz.prog.godebug = none := by kernel_rfl
set_option maxRecDepth 100000 in
theorem contract (H : Type) (enc : TypeId × Value → H) (W : World) (base : Nat) (args : Array Value) (ds gs : List (DataW H)) (before : List MemPlace)
    (hval : ∀ (j : Nat) t v, Tryz.f4.params[j]? = some t → args[j]? = some v → Value.okWide Tryz.prog W .any base t v)
    (hW : DataW.Whole enc Tryz.prog Tryz.f4.params.toList Rows.stateReadsSpec.vars false W args.toList ds gs before) (hLM : laidMetH Tryz.prog Rows.stateReadsRow.laid W)
    (hb : ∀ x : tysDen [.sl recT, .int .i64, .int .i64, .int .i64], bulkTs [.sl recT, .int .i64, .int .i64, .int .i64] x ≤ (ds.map Rows.uptoBulk).sum → tysWf [.sl recT, .int .i64, .int .i64, .int .i64] x → ∃ o, EffGood Tryz.prog 4 (valsOf [.sl recT, .int .i64, .int .i64, .int .i64] x) [] (.bool true) o) :
    Calls Tryz.prog 4 args W fun e W' => ∃ v, e = .returned v ∧ Rows.stateReadsSpec.post enc Tryz.prog Tryz.f4 false true false false W args v W' :=
  law_calls (bt := 4) (by kernel_rfl) (by kernel_rfl) (of_decide_eq_true (by kernel_rfl)) rfl (by kernel_rfl) (by kernel_rfl) bulkOK hval hW (fun h => by
      match ds, h with
      | [d0, d1, d2, d3], _ => exact ⟨rfl, rfl, rfl⟩) (laidN hLM) hb
set_option maxRecDepth 100000 in
theorem lifted (os : Os) (started : os.Started) (H : Type) (enc : TypeId × Value → H) :
    ReturnsInHanded {} Tryz.checked os 4 .any (fun w args => (Rows.stateReadsSpec.pre enc Tryz.prog Tryz.f4 Rows.stateReadsRow.domain false w args ∧ laidMetH Tryz.prog Rows.stateReadsRow.laid w) ∧ sizedMet enc Tryz.prog Tryz.f4 (OpenSpec.ofChange Rows.stateReadsSpec) false w args)
      (Rows.stateReadsSpec.post enc Tryz.prog Tryz.f4 false true false false) := by
  refine returnsInHanded_of_change_and (C := Tryz.checked) (X := fun w _ => laidMetH Tryz.prog Rows.stateReadsRow.laid w) (fun _ _ _ hh h => h.of_heap hh) own started (by kernel_rfl) Tryz.func4
    (ChangeSpec.witness_shaped (enc := enc) (C := Tryz.checked) (os := os) (X := fun w _ => laidMetH Tryz.prog Rows.stateReadsRow.laid w) false (World.laidAll Tryz.prog os Rows.stateReadsRow.laid) #[.slice none 0 0, .int .i64 0, .int .i64 0, .int .i64 0] 8 (World.laidAll_os _ _ _)
      (World.shaped_of_ZipB (by kernel_rfl) (by kernel_rfl)) (by kernel_rfl) (by kernel_rfl) (by kernel_rfl)
      (by rw [MakeChecks.laidMetH_plain _ _ _ (by kernel_rfl)]; exact laidMet_laidAll _ (by kernel_rfl) (by kernel_rfl))) ?_
  intro W base args ds gs before hval hW hc _ hL _
  exact contract H enc W base args ds gs before hval hW hL fun x _ hw => rea_good x hw
theorem said : Rows.StateReadsSaid :=
  OpenClaim.holds_of_wide 4 Tryz.f4 rfl rfl rfl rfl rfl rfl rfl ⟨rfl, rfl, rfl, rfl, rfl⟩ rfl rfl rfl rfl rfl (by kernel_rfl) Tryz.func4 (by kernel_rfl)
    (of_decide_eq_true (by kernel_rfl)) (by unfold Func.isWrapper; first | (rw [if_pos (by decide +kernel)]; kernel_rfl) | (rw [if_neg (by decide +kernel)]; exact ⟨rfl, rfl⟩))
    (fun os started H enc _ => lifted os started H enc)
theorem proved : Rows.StateReadsCardSaid :=
  Claim7.holds_tied_plain_at .later [] [.data, .pinned] true (true, "c5f555b6959b3ad6e747c0310eb42fbcd97f6bddc681ab90ddddcccd76c1899e") true said (fun _ h => by cases h) (by kernel_rfl) (fun _ h => by cases h) stateReads_row_tie rfl ⟨rfl, rfl⟩ (by kernel_rfl) rfl
    (fun f fn hf hfn => by
      obtain rfl : f = 4 := Option.some.inj ((show Tryz.prog.funcNamed Rows.stateReadsRow.func = some 4 by kernel_rfl).symm.trans hf) |>.symm
      obtain rfl : fn = Tryz.f4 := (Option.some.inj (Tryz.func4.symm.trans hfn)).symm
      exact ⟨by kernel_rfl, fun j t ht => by
        rw [Tryz.params4] at ht
        have hm : t ∈ [22, 3, 3, 3] := by simpa using Array.mem_of_getElem? ht
        have hall : ([22, 3, 3, 3].all fun u => !Tryz.prog.wantsStandIn u) = true := by kernel_rfl
        exact (show Tryz.prog.wantsStandIn t = false by simpa using List.all_eq_true.1 hall t hm)⟩)
    (by kernel_rfl)
#print axioms proved
end Go.Proofs.YtpkobajkogcmkaaGreatDoor.stateReads
