/-
  CRwF9: laws of seat YtifkijepedhbgaaDoor, with their cards: for every input the law returns true; each argument reads behind the call as it read before. WRITTEN BY PROGRAM (rowcard.py).
-/
import Derived.Test.YtifkijepedhbgaaDoorCards
import Derived.Test.YtifkijepedhbgaaDoorTie
import Derived.WalkKit
import Derived.ProofKit
import Derived.OpenShut
import Derived.JoinedCond
import Derived.Lay
import Derived.MakeChecks
import Derived.Test.YtifkijepedhbgaaDoorPartG
namespace Go.Proofs.YtifkijepedhbgaaDoor.wireBytes
open Go.ChangeShapes Go.WideShapes Go.ChangeAt Go.RowKit Go.Sim
set_option linter.unusedVariables false
theorem own : ownKnob Tryd.prog.godebug = none := by kernel_rfl
set_option maxRecDepth 100000 in
theorem contract (H : Type) (enc : TypeId × Value → H) (W : World) (base : Nat) (args : Array Value) (ds gs : List (DataW H)) (before : List MemPlace)
    (hval : ∀ (j : Nat) t v, Tryd.f10.params[j]? = some t → args[j]? = some v → Value.okWide Tryd.prog W .any base t v)
    (hW : DataW.Whole enc Tryd.prog Tryd.f10.params.toList Rows.wireBytesSpec.vars false W args.toList ds gs before) (hLM : laidMetH Tryd.prog Rows.wireBytesRow.laid W)
    (hb : ∀ x : tysDen [msgT], bulkTs [msgT] x ≤ (ds.map Rows.uptoBulk).sum → tysWf [msgT] x → ∃ o, EffGood Tryd.prog 10 (valsOf [msgT] x) [] (.bool true) o) :
    Calls Tryd.prog 10 args W fun e W' => ∃ v, e = .returned v ∧ Rows.wireBytesSpec.post enc Tryd.prog Tryd.f10 false true false false W args v W' :=
  law_calls (bt := 4) (by kernel_rfl) (by kernel_rfl) (of_decide_eq_true (by kernel_rfl)) rfl (by kernel_rfl) (by kernel_rfl) bulkOK hval hW (fun h => by
      match ds, h with
      | [d0], _ => exact ⟨rfl, rfl, rfl⟩) (laidN hLM) hb
set_option maxRecDepth 100000 in
theorem lifted (os : Os) (started : os.Started) (H : Type) (enc : TypeId × Value → H) :
    ReturnsInHanded {} Tryd.checked os 10 .any (fun w args => (Rows.wireBytesSpec.pre enc Tryd.prog Tryd.f10 Rows.wireBytesRow.domain false w args ∧ laidMetH Tryd.prog Rows.wireBytesRow.laid w) ∧ sizedMet enc Tryd.prog Tryd.f10 (OpenSpec.ofChange Rows.wireBytesSpec) false w args)
      (Rows.wireBytesSpec.post enc Tryd.prog Tryd.f10 false true false false) := by
  refine returnsInHanded_of_change_and (C := Tryd.checked) (X := fun w _ => laidMetH Tryd.prog Rows.wireBytesRow.laid w) (fun _ _ _ hh h => h.of_heap hh) own started (by kernel_rfl) Tryd.func10
    (ChangeSpec.witness_shaped (enc := enc) (C := Tryd.checked) (os := os) (X := fun w _ => laidMetH Tryd.prog Rows.wireBytesRow.laid w) false (World.laidAll Tryd.prog os Rows.wireBytesRow.laid) #[.agg #[.int .i64 0, .int .i64 0, .int .i64 0, .int .i64 0, .int .i64 0, .int .i64 0, .slice none 0 0, .int .i64 0, .bool false, .int .i64 0, .slice none 0 0]] 8 (World.laidAll_os _ _ _)
      (World.shaped_of_ZipB (by kernel_rfl) (by kernel_rfl)) (by kernel_rfl) (by kernel_rfl) (by kernel_rfl)
      (by rw [MakeChecks.laidMetH_plain _ _ _ (by kernel_rfl)]; exact laidMet_laidAll _ (by kernel_rfl) (by kernel_rfl))) ?_
  intro W base args ds gs before hval hW hc _ hL _
  exact contract H enc W base args ds gs before hval hW hL fun x _ hw => wbyteslaw_good x hw
theorem said : Rows.WireBytesSaid :=
  OpenClaim.holds_of_wide 10 Tryd.f10 rfl rfl rfl rfl rfl rfl rfl ⟨rfl, rfl, rfl, rfl, rfl⟩ rfl rfl rfl rfl rfl (by kernel_rfl) Tryd.func10 (by kernel_rfl)
    (of_decide_eq_true (by kernel_rfl)) (by unfold Func.isWrapper; first | (rw [if_pos (by decide +kernel)]; kernel_rfl) | (rw [if_neg (by decide +kernel)]; exact ⟨rfl, rfl⟩))
    (fun os started H enc _ => lifted os started H enc)
theorem proved : Rows.WireBytesCardSaid :=
  Claim7.holds_tied_plain_at .later [] [.data, .pinned] true (true, "05f09bf68f8fd72e32062120dde3ce53175e549b5fe967c69925f5f5b62b9971") true said (fun _ h => by cases h) (by kernel_rfl) (fun _ h => by cases h) wireBytes_row_tie rfl ⟨rfl, rfl⟩ (by kernel_rfl) rfl
    (fun f fn hf hfn => by
      obtain rfl : f = 10 := Option.some.inj ((show Tryd.prog.funcNamed Rows.wireBytesRow.func = some 10 by kernel_rfl).symm.trans hf) |>.symm
      obtain rfl : fn = Tryd.f10 := (Option.some.inj (Tryd.func10.symm.trans hfn)).symm
      exact ⟨by kernel_rfl, fun j t ht => by
        rw [Tryd.params10] at ht
        have hm : t ∈ [49] := by simpa using Array.mem_of_getElem? ht
        have hall : ([49].all fun u => !Tryd.prog.wantsStandIn u) = true := by kernel_rfl
        exact (show Tryd.prog.wantsStandIn t = false by simpa using List.all_eq_true.1 hall t hm)⟩)
    (by kernel_rfl)
#print axioms proved
end Go.Proofs.YtifkijepedhbgaaDoor.wireBytes
namespace Go.Proofs.YtifkijepedhbgaaDoor.wireReads
open Go.ChangeShapes Go.WideShapes Go.ChangeAt Go.RowKit Go.Sim
set_option linter.unusedVariables false
theorem own : ownKnob Tryd.prog.godebug = none := by kernel_rfl
set_option maxRecDepth 100000 in
theorem contract (H : Type) (enc : TypeId × Value → H) (W : World) (base : Nat) (args : Array Value) (ds gs : List (DataW H)) (before : List MemPlace)
    (hval : ∀ (j : Nat) t v, Tryd.f12.params[j]? = some t → args[j]? = some v → Value.okWide Tryd.prog W .any base t v)
    (hW : DataW.Whole enc Tryd.prog Tryd.f12.params.toList Rows.wireReadsSpec.vars false W args.toList ds gs before) (hLM : laidMetH Tryd.prog Rows.wireReadsRow.laid W)
    (hb : ∀ x : tysDen [.sl u8T], bulkTs [.sl u8T] x ≤ (ds.map Rows.uptoBulk).sum → tysWf [.sl u8T] x → ∃ o, EffGood Tryd.prog 12 (valsOf [.sl u8T] x) [] (.bool true) o) :
    Calls Tryd.prog 12 args W fun e W' => ∃ v, e = .returned v ∧ Rows.wireReadsSpec.post enc Tryd.prog Tryd.f12 false true false false W args v W' :=
  law_calls (bt := 4) (by kernel_rfl) (by kernel_rfl) (of_decide_eq_true (by kernel_rfl)) rfl (by kernel_rfl) (by kernel_rfl) bulkOK hval hW (fun h => by
      match ds, h with
      | [d0], _ => exact ⟨rfl, rfl, rfl⟩) (laidN hLM) hb
set_option maxRecDepth 100000 in
theorem lifted (os : Os) (started : os.Started) (H : Type) (enc : TypeId × Value → H) :
    ReturnsInHanded {} Tryd.checked os 12 .any (fun w args => (Rows.wireReadsSpec.pre enc Tryd.prog Tryd.f12 Rows.wireReadsRow.domain false w args ∧ laidMetH Tryd.prog Rows.wireReadsRow.laid w) ∧ sizedMet enc Tryd.prog Tryd.f12 (OpenSpec.ofChange Rows.wireReadsSpec) false w args)
      (Rows.wireReadsSpec.post enc Tryd.prog Tryd.f12 false true false false) := by
  refine returnsInHanded_of_change_and (C := Tryd.checked) (X := fun w _ => laidMetH Tryd.prog Rows.wireReadsRow.laid w) (fun _ _ _ hh h => h.of_heap hh) own started (by kernel_rfl) Tryd.func12
    (ChangeSpec.witness_shaped (enc := enc) (C := Tryd.checked) (os := os) (X := fun w _ => laidMetH Tryd.prog Rows.wireReadsRow.laid w) false (World.laidAll Tryd.prog os Rows.wireReadsRow.laid) #[.slice none 0 0] 8 (World.laidAll_os _ _ _)
      (World.shaped_of_ZipB (by kernel_rfl) (by kernel_rfl)) (by kernel_rfl) (by kernel_rfl) (by kernel_rfl)
      (by rw [MakeChecks.laidMetH_plain _ _ _ (by kernel_rfl)]; exact laidMet_laidAll _ (by kernel_rfl) (by kernel_rfl))) ?_
  intro W base args ds gs before hval hW hc _ hL _
  exact contract H enc W base args ds gs before hval hW hL fun x _ hw => wreadslaw_good x hw
theorem said : Rows.WireReadsSaid :=
  OpenClaim.holds_of_wide 12 Tryd.f12 rfl rfl rfl rfl rfl rfl rfl ⟨rfl, rfl, rfl, rfl, rfl⟩ rfl rfl rfl rfl rfl (by kernel_rfl) Tryd.func12 (by kernel_rfl)
    (of_decide_eq_true (by kernel_rfl)) (by unfold Func.isWrapper; first | (rw [if_pos (by decide +kernel)]; kernel_rfl) | (rw [if_neg (by decide +kernel)]; exact ⟨rfl, rfl⟩))
    (fun os started H enc _ => lifted os started H enc)
theorem proved : Rows.WireReadsCardSaid :=
  Claim7.holds_tied_plain_at .later [] [.data, .pinned] true (true, "05f09bf68f8fd72e32062120dde3ce53175e549b5fe967c69925f5f5b62b9971") true said (fun _ h => by cases h) (by kernel_rfl) (fun _ h => by cases h) wireReads_row_tie rfl ⟨rfl, rfl⟩ (by kernel_rfl) rfl
    (fun f fn hf hfn => by
      obtain rfl : f = 12 := Option.some.inj ((show Tryd.prog.funcNamed Rows.wireReadsRow.func = some 12 by kernel_rfl).symm.trans hf) |>.symm
      obtain rfl : fn = Tryd.f12 := (Option.some.inj (Tryd.func12.symm.trans hfn)).symm
      exact ⟨by kernel_rfl, fun j t ht => by
        rw [Tryd.params12] at ht
        have hm : t ∈ [34] := by simpa using Array.mem_of_getElem? ht
        have hall : ([34].all fun u => !Tryd.prog.wantsStandIn u) = true := by kernel_rfl
        exact (show Tryd.prog.wantsStandIn t = false by simpa using List.all_eq_true.1 hall t hm)⟩)
    (by kernel_rfl)
#print axioms proved
end Go.Proofs.YtifkijepedhbgaaDoor.wireReads
namespace Go.Proofs.YtifkijepedhbgaaDoor.wireSame
open Go.ChangeShapes Go.WideShapes Go.ChangeAt Go.RowKit Go.Sim
set_option linter.unusedVariables false
theorem own : ownKnob Tryd.prog.godebug = none := by kernel_rfl
set_option maxRecDepth 100000 in
theorem contract (H : Type) (enc : TypeId × Value → H) (W : World) (base : Nat) (args : Array Value) (ds gs : List (DataW H)) (before : List MemPlace)
    (hval : ∀ (j : Nat) t v, Tryd.f13.params[j]? = some t → args[j]? = some v → Value.okWide Tryd.prog W .any base t v)
    (hW : DataW.Whole enc Tryd.prog Tryd.f13.params.toList Rows.wireSameSpec.vars false W args.toList ds gs before) (hLM : laidMetH Tryd.prog Rows.wireSameRow.laid W)
    (hb : ∀ x : tysDen [msgT, msgT], bulkTs [msgT, msgT] x ≤ (ds.map Rows.uptoBulk).sum → tysWf [msgT, msgT] x → ∃ o, EffGood Tryd.prog 13 (valsOf [msgT, msgT] x) [] (.bool true) o) :
    Calls Tryd.prog 13 args W fun e W' => ∃ v, e = .returned v ∧ Rows.wireSameSpec.post enc Tryd.prog Tryd.f13 false true false false W args v W' :=
  law_calls (bt := 4) (by kernel_rfl) (by kernel_rfl) (of_decide_eq_true (by kernel_rfl)) rfl (by kernel_rfl) (by kernel_rfl) bulkOK hval hW (fun h => by
      match ds, h with
      | [d0, d1], _ => exact ⟨rfl, rfl, rfl⟩) (laidN hLM) hb
set_option maxRecDepth 100000 in
theorem lifted (os : Os) (started : os.Started) (H : Type) (enc : TypeId × Value → H) :
    ReturnsInHanded {} Tryd.checked os 13 .any (fun w args => (Rows.wireSameSpec.pre enc Tryd.prog Tryd.f13 Rows.wireSameRow.domain false w args ∧ laidMetH Tryd.prog Rows.wireSameRow.laid w) ∧ sizedMet enc Tryd.prog Tryd.f13 (OpenSpec.ofChange Rows.wireSameSpec) false w args)
      (Rows.wireSameSpec.post enc Tryd.prog Tryd.f13 false true false false) := by
  refine returnsInHanded_of_change_and (C := Tryd.checked) (X := fun w _ => laidMetH Tryd.prog Rows.wireSameRow.laid w) (fun _ _ _ hh h => h.of_heap hh) own started (by kernel_rfl) Tryd.func13
    (ChangeSpec.witness_shaped (enc := enc) (C := Tryd.checked) (os := os) (X := fun w _ => laidMetH Tryd.prog Rows.wireSameRow.laid w) false (World.laidAll Tryd.prog os Rows.wireSameRow.laid) #[.agg #[.int .i64 0, .int .i64 0, .int .i64 0, .int .i64 0, .int .i64 0, .int .i64 0, .slice none 0 0, .int .i64 0, .bool false, .int .i64 0, .slice none 0 0], .agg #[.int .i64 0, .int .i64 0, .int .i64 0, .int .i64 0, .int .i64 0, .int .i64 0, .slice none 0 0, .int .i64 0, .bool false, .int .i64 0, .slice none 0 0]] 8 (World.laidAll_os _ _ _)
      (World.shaped_of_ZipB (by kernel_rfl) (by kernel_rfl)) (by kernel_rfl) (by kernel_rfl) (by kernel_rfl)
      (by rw [MakeChecks.laidMetH_plain _ _ _ (by kernel_rfl)]; exact laidMet_laidAll _ (by kernel_rfl) (by kernel_rfl))) ?_
  intro W base args ds gs before hval hW hc _ hL _
  exact contract H enc W base args ds gs before hval hW hL fun x _ hw => wsamelaw_good x hw
theorem said : Rows.WireSameSaid :=
  OpenClaim.holds_of_wide 13 Tryd.f13 rfl rfl rfl rfl rfl rfl rfl ⟨rfl, rfl, rfl, rfl, rfl⟩ rfl rfl rfl rfl rfl (by kernel_rfl) Tryd.func13 (by kernel_rfl)
    (of_decide_eq_true (by kernel_rfl)) (by unfold Func.isWrapper; first | (rw [if_pos (by decide +kernel)]; kernel_rfl) | (rw [if_neg (by decide +kernel)]; exact ⟨rfl, rfl⟩))
    (fun os started H enc _ => lifted os started H enc)
theorem proved : Rows.WireSameCardSaid :=
  Claim7.holds_tied_plain_at .later [] [.data, .pinned] true (true, "05f09bf68f8fd72e32062120dde3ce53175e549b5fe967c69925f5f5b62b9971") true said (fun _ h => by cases h) (by kernel_rfl) (fun _ h => by cases h) wireSame_row_tie rfl ⟨rfl, rfl⟩ (by kernel_rfl) rfl
    (fun f fn hf hfn => by
      obtain rfl : f = 13 := Option.some.inj ((show Tryd.prog.funcNamed Rows.wireSameRow.func = some 13 by kernel_rfl).symm.trans hf) |>.symm
      obtain rfl : fn = Tryd.f13 := (Option.some.inj (Tryd.func13.symm.trans hfn)).symm
      exact ⟨by kernel_rfl, fun j t ht => by
        rw [Tryd.params13] at ht
        have hm : t ∈ [49, 49] := by simpa using Array.mem_of_getElem? ht
        have hall : ([49, 49].all fun u => !Tryd.prog.wantsStandIn u) = true := by kernel_rfl
        exact (show Tryd.prog.wantsStandIn t = false by simpa using List.all_eq_true.1 hall t hm)⟩)
    (by kernel_rfl)
#print axioms proved
end Go.Proofs.YtifkijepedhbgaaDoor.wireSame
