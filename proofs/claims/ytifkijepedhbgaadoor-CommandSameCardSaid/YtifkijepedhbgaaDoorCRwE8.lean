/-
  CRwE8: laws of seat YtifkijepedhbgaaDoor, with their cards: for every input the law returns true; each argument reads behind the call as it read before. WRITTEN BY PROGRAM (rowcard.py).
-/
import Derived.Test.YtifkijepedhbgaaDoorCards
import Derived.Test.YtifkijepedhbgaaDoorTie
import Derived.WalkKit
import Derived.ProofKit
import Derived.OpenShut
import Derived.JoinedCond
import Derived.Lay
import Derived.MakeChecks
import Derived.Test.YtifkijepedhbgaaDoorPartF
namespace Go.Proofs.YtifkijepedhbgaaDoor.commandBytes
open Go.ChangeShapes Go.WideShapes Go.ChangeAt Go.RowKit Go.Sim
set_option linter.unusedVariables false
theorem own : ownKnob Tryd.prog.godebug = none := by kernel_rfl
set_option maxRecDepth 100000 in
theorem contract (H : Type) (enc : TypeId × Value → H) (W : World) (base : Nat) (args : Array Value) (ds gs : List (DataW H)) (before : List MemPlace)
    (hval : ∀ (j : Nat) t v, Tryd.f6.params[j]? = some t → args[j]? = some v → Value.okWide Tryd.prog W .any base t v)
    (hW : DataW.Whole enc Tryd.prog Tryd.f6.params.toList Rows.commandBytesSpec.vars false W args.toList ds gs before) (hLM : laidMetH Tryd.prog Rows.commandBytesRow.laid W)
    (hb : ∀ x : tysDen [cmdT], bulkTs [cmdT] x ≤ (ds.map Rows.uptoBulk).sum → tysWf [cmdT] x → ∃ o, EffGood Tryd.prog 6 (valsOf [cmdT] x) [] (.bool true) o) :
    Calls Tryd.prog 6 args W fun e W' => ∃ v, e = .returned v ∧ Rows.commandBytesSpec.post enc Tryd.prog Tryd.f6 false true false false W args v W' :=
  law_calls (bt := 4) (by kernel_rfl) (by kernel_rfl) (of_decide_eq_true (by kernel_rfl)) rfl (by kernel_rfl) (by kernel_rfl) bulkOK hval hW (fun h => by
      match ds, h with
      | [d0], _ => exact ⟨rfl, rfl, rfl⟩) (laidN hLM) hb
set_option maxRecDepth 100000 in
theorem lifted (os : Os) (started : os.Started) (H : Type) (enc : TypeId × Value → H) :
    ReturnsInHanded {} Tryd.checked os 6 .any (fun w args => (Rows.commandBytesSpec.pre enc Tryd.prog Tryd.f6 Rows.commandBytesRow.domain false w args ∧ laidMetH Tryd.prog Rows.commandBytesRow.laid w) ∧ sizedMet enc Tryd.prog Tryd.f6 (OpenSpec.ofChange Rows.commandBytesSpec) false w args)
      (Rows.commandBytesSpec.post enc Tryd.prog Tryd.f6 false true false false) := by
  refine returnsInHanded_of_change_and (C := Tryd.checked) (X := fun w _ => laidMetH Tryd.prog Rows.commandBytesRow.laid w) (fun _ _ _ hh h => h.of_heap hh) own started (by kernel_rfl) Tryd.func6
    (ChangeSpec.witness_shaped (enc := enc) (C := Tryd.checked) (os := os) (X := fun w _ => laidMetH Tryd.prog Rows.commandBytesRow.laid w) false (World.laidAll Tryd.prog os Rows.commandBytesRow.laid) #[.agg #[.int .i64 0, .int .i64 0, .int .i64 0, .slice none 0 0, .string ⟨#[]⟩, .int .i64 0, .int .i64 0, .int .i64 0, .int .u32 0, .int .i64 0, .int .i64 0, .int .i64 0, .int .i64 0]] 8 (World.laidAll_os _ _ _)
      (World.shaped_of_ZipB (by kernel_rfl) (by kernel_rfl)) (by kernel_rfl) (by kernel_rfl) (by kernel_rfl)
      (by rw [MakeChecks.laidMetH_plain _ _ _ (by kernel_rfl)]; exact laidMet_laidAll _ (by kernel_rfl) (by kernel_rfl))) ?_
  intro W base args ds gs before hval hW hc _ hL _
  exact contract H enc W base args ds gs before hval hW hL fun x _ hw => cbyteslaw_good x hw
theorem said : Rows.CommandBytesSaid :=
  OpenClaim.holds_of_wide 6 Tryd.f6 rfl rfl rfl rfl rfl rfl rfl ⟨rfl, rfl, rfl, rfl, rfl⟩ rfl rfl rfl rfl rfl (by kernel_rfl) Tryd.func6 (by kernel_rfl)
    (of_decide_eq_true (by kernel_rfl)) (by unfold Func.isWrapper; first | (rw [if_pos (by decide +kernel)]; kernel_rfl) | (rw [if_neg (by decide +kernel)]; exact ⟨rfl, rfl⟩))
    (fun os started H enc _ => lifted os started H enc)
theorem proved : Rows.CommandBytesCardSaid :=
  Claim7.holds_tied_plain_at .later [] [.data, .pinned] true (true, "05f09bf68f8fd72e32062120dde3ce53175e549b5fe967c69925f5f5b62b9971") true said (fun _ h => by cases h) (by kernel_rfl) (fun _ h => by cases h) commandBytes_row_tie rfl ⟨rfl, rfl⟩ (by kernel_rfl) rfl
    (fun f fn hf hfn => by
      obtain rfl : f = 6 := Option.some.inj ((show Tryd.prog.funcNamed Rows.commandBytesRow.func = some 6 by kernel_rfl).symm.trans hf) |>.symm
      obtain rfl : fn = Tryd.f6 := (Option.some.inj (Tryd.func6.symm.trans hfn)).symm
      exact ⟨by kernel_rfl, fun j t ht => by
        rw [Tryd.params6] at ht
        have hm : t ∈ [27] := by simpa using Array.mem_of_getElem? ht
        have hall : ([27].all fun u => !Tryd.prog.wantsStandIn u) = true := by kernel_rfl
        exact (show Tryd.prog.wantsStandIn t = false by simpa using List.all_eq_true.1 hall t hm)⟩)
    (by kernel_rfl)
#print axioms proved
end Go.Proofs.YtifkijepedhbgaaDoor.commandBytes
namespace Go.Proofs.YtifkijepedhbgaaDoor.commandReads
open Go.ChangeShapes Go.WideShapes Go.ChangeAt Go.RowKit Go.Sim
set_option linter.unusedVariables false
theorem own : ownKnob Tryd.prog.godebug = none := by kernel_rfl
set_option maxRecDepth 100000 in
theorem contract (H : Type) (enc : TypeId × Value → H) (W : World) (base : Nat) (args : Array Value) (ds gs : List (DataW H)) (before : List MemPlace)
    (hval : ∀ (j : Nat) t v, Tryd.f7.params[j]? = some t → args[j]? = some v → Value.okWide Tryd.prog W .any base t v)
    (hW : DataW.Whole enc Tryd.prog Tryd.f7.params.toList Rows.commandReadsSpec.vars false W args.toList ds gs before) (hLM : laidMetH Tryd.prog Rows.commandReadsRow.laid W)
    (hb : ∀ x : tysDen [.sl u8T], bulkTs [.sl u8T] x ≤ (ds.map Rows.uptoBulk).sum → tysWf [.sl u8T] x → ∃ o, EffGood Tryd.prog 7 (valsOf [.sl u8T] x) [] (.bool true) o) :
    Calls Tryd.prog 7 args W fun e W' => ∃ v, e = .returned v ∧ Rows.commandReadsSpec.post enc Tryd.prog Tryd.f7 false true false false W args v W' :=
  law_calls (bt := 4) (by kernel_rfl) (by kernel_rfl) (of_decide_eq_true (by kernel_rfl)) rfl (by kernel_rfl) (by kernel_rfl) bulkOK hval hW (fun h => by
      match ds, h with
      | [d0], _ => exact ⟨rfl, rfl, rfl⟩) (laidN hLM) hb
set_option maxRecDepth 100000 in
theorem lifted (os : Os) (started : os.Started) (H : Type) (enc : TypeId × Value → H) :
    ReturnsInHanded {} Tryd.checked os 7 .any (fun w args => (Rows.commandReadsSpec.pre enc Tryd.prog Tryd.f7 Rows.commandReadsRow.domain false w args ∧ laidMetH Tryd.prog Rows.commandReadsRow.laid w) ∧ sizedMet enc Tryd.prog Tryd.f7 (OpenSpec.ofChange Rows.commandReadsSpec) false w args)
      (Rows.commandReadsSpec.post enc Tryd.prog Tryd.f7 false true false false) := by
  refine returnsInHanded_of_change_and (C := Tryd.checked) (X := fun w _ => laidMetH Tryd.prog Rows.commandReadsRow.laid w) (fun _ _ _ hh h => h.of_heap hh) own started (by kernel_rfl) Tryd.func7
    (ChangeSpec.witness_shaped (enc := enc) (C := Tryd.checked) (os := os) (X := fun w _ => laidMetH Tryd.prog Rows.commandReadsRow.laid w) false (World.laidAll Tryd.prog os Rows.commandReadsRow.laid) #[.slice none 0 0] 8 (World.laidAll_os _ _ _)
      (World.shaped_of_ZipB (by kernel_rfl) (by kernel_rfl)) (by kernel_rfl) (by kernel_rfl) (by kernel_rfl)
      (by rw [MakeChecks.laidMetH_plain _ _ _ (by kernel_rfl)]; exact laidMet_laidAll _ (by kernel_rfl) (by kernel_rfl))) ?_
  intro W base args ds gs before hval hW hc _ hL _
  exact contract H enc W base args ds gs before hval hW hL fun x _ hw => creadslaw_good x hw
theorem said : Rows.CommandReadsSaid :=
  OpenClaim.holds_of_wide 7 Tryd.f7 rfl rfl rfl rfl rfl rfl rfl ⟨rfl, rfl, rfl, rfl, rfl⟩ rfl rfl rfl rfl rfl (by kernel_rfl) Tryd.func7 (by kernel_rfl)
    (of_decide_eq_true (by kernel_rfl)) (by unfold Func.isWrapper; first | (rw [if_pos (by decide +kernel)]; kernel_rfl) | (rw [if_neg (by decide +kernel)]; exact ⟨rfl, rfl⟩))
    (fun os started H enc _ => lifted os started H enc)
theorem proved : Rows.CommandReadsCardSaid :=
  Claim7.holds_tied_plain_at .later [] [.data, .pinned] true (true, "05f09bf68f8fd72e32062120dde3ce53175e549b5fe967c69925f5f5b62b9971") true said (fun _ h => by cases h) (by kernel_rfl) (fun _ h => by cases h) commandReads_row_tie rfl ⟨rfl, rfl⟩ (by kernel_rfl) rfl
    (fun f fn hf hfn => by
      obtain rfl : f = 7 := Option.some.inj ((show Tryd.prog.funcNamed Rows.commandReadsRow.func = some 7 by kernel_rfl).symm.trans hf) |>.symm
      obtain rfl : fn = Tryd.f7 := (Option.some.inj (Tryd.func7.symm.trans hfn)).symm
      exact ⟨by kernel_rfl, fun j t ht => by
        rw [Tryd.params7] at ht
        have hm : t ∈ [34] := by simpa using Array.mem_of_getElem? ht
        have hall : ([34].all fun u => !Tryd.prog.wantsStandIn u) = true := by kernel_rfl
        exact (show Tryd.prog.wantsStandIn t = false by simpa using List.all_eq_true.1 hall t hm)⟩)
    (by kernel_rfl)
#print axioms proved
end Go.Proofs.YtifkijepedhbgaaDoor.commandReads
namespace Go.Proofs.YtifkijepedhbgaaDoor.commandSame
open Go.ChangeShapes Go.WideShapes Go.ChangeAt Go.RowKit Go.Sim
set_option linter.unusedVariables false
theorem own : ownKnob Tryd.prog.godebug = none := by kernel_rfl
set_option maxRecDepth 100000 in
theorem contract (H : Type) (enc : TypeId × Value → H) (W : World) (base : Nat) (args : Array Value) (ds gs : List (DataW H)) (before : List MemPlace)
    (hval : ∀ (j : Nat) t v, Tryd.f8.params[j]? = some t → args[j]? = some v → Value.okWide Tryd.prog W .any base t v)
    (hW : DataW.Whole enc Tryd.prog Tryd.f8.params.toList Rows.commandSameSpec.vars false W args.toList ds gs before) (hLM : laidMetH Tryd.prog Rows.commandSameRow.laid W)
    (hb : ∀ x : tysDen [cmdT, cmdT], bulkTs [cmdT, cmdT] x ≤ (ds.map Rows.uptoBulk).sum → tysWf [cmdT, cmdT] x → ∃ o, EffGood Tryd.prog 8 (valsOf [cmdT, cmdT] x) [] (.bool true) o) :
    Calls Tryd.prog 8 args W fun e W' => ∃ v, e = .returned v ∧ Rows.commandSameSpec.post enc Tryd.prog Tryd.f8 false true false false W args v W' :=
  law_calls (bt := 4) (by kernel_rfl) (by kernel_rfl) (of_decide_eq_true (by kernel_rfl)) rfl (by kernel_rfl) (by kernel_rfl) bulkOK hval hW (fun h => by
      match ds, h with
      | [d0, d1], _ => exact ⟨rfl, rfl, rfl⟩) (laidN hLM) hb
set_option maxRecDepth 100000 in
theorem lifted (os : Os) (started : os.Started) (H : Type) (enc : TypeId × Value → H) :
    ReturnsInHanded {} Tryd.checked os 8 .any (fun w args => (Rows.commandSameSpec.pre enc Tryd.prog Tryd.f8 Rows.commandSameRow.domain false w args ∧ laidMetH Tryd.prog Rows.commandSameRow.laid w) ∧ sizedMet enc Tryd.prog Tryd.f8 (OpenSpec.ofChange Rows.commandSameSpec) false w args)
      (Rows.commandSameSpec.post enc Tryd.prog Tryd.f8 false true false false) := by
  refine returnsInHanded_of_change_and (C := Tryd.checked) (X := fun w _ => laidMetH Tryd.prog Rows.commandSameRow.laid w) (fun _ _ _ hh h => h.of_heap hh) own started (by kernel_rfl) Tryd.func8
    (ChangeSpec.witness_shaped (enc := enc) (C := Tryd.checked) (os := os) (X := fun w _ => laidMetH Tryd.prog Rows.commandSameRow.laid w) false (World.laidAll Tryd.prog os Rows.commandSameRow.laid) #[.agg #[.int .i64 0, .int .i64 0, .int .i64 0, .slice none 0 0, .string ⟨#[]⟩, .int .i64 0, .int .i64 0, .int .i64 0, .int .u32 0, .int .i64 0, .int .i64 0, .int .i64 0, .int .i64 0], .agg #[.int .i64 0, .int .i64 0, .int .i64 0, .slice none 0 0, .string ⟨#[]⟩, .int .i64 0, .int .i64 0, .int .i64 0, .int .u32 0, .int .i64 0, .int .i64 0, .int .i64 0, .int .i64 0]] 8 (World.laidAll_os _ _ _)
      (World.shaped_of_ZipB (by kernel_rfl) (by kernel_rfl)) (by kernel_rfl) (by kernel_rfl) (by kernel_rfl)
      (by rw [MakeChecks.laidMetH_plain _ _ _ (by kernel_rfl)]; exact laidMet_laidAll _ (by kernel_rfl) (by kernel_rfl))) ?_
  intro W base args ds gs before hval hW hc _ hL _
  exact contract H enc W base args ds gs before hval hW hL fun x _ hw => csamelaw_good x hw
theorem said : Rows.CommandSameSaid :=
  OpenClaim.holds_of_wide 8 Tryd.f8 rfl rfl rfl rfl rfl rfl rfl ⟨rfl, rfl, rfl, rfl, rfl⟩ rfl rfl rfl rfl rfl (by kernel_rfl) Tryd.func8 (by kernel_rfl)
    (of_decide_eq_true (by kernel_rfl)) (by unfold Func.isWrapper; first | (rw [if_pos (by decide +kernel)]; kernel_rfl) | (rw [if_neg (by decide +kernel)]; exact ⟨rfl, rfl⟩))
    (fun os started H enc _ => lifted os started H enc)
theorem proved : Rows.CommandSameCardSaid :=
  Claim7.holds_tied_plain_at .later [] [.data, .pinned] true (true, "05f09bf68f8fd72e32062120dde3ce53175e549b5fe967c69925f5f5b62b9971") true said (fun _ h => by cases h) (by kernel_rfl) (fun _ h => by cases h) commandSame_row_tie rfl ⟨rfl, rfl⟩ (by kernel_rfl) rfl
    (fun f fn hf hfn => by
      obtain rfl : f = 8 := Option.some.inj ((show Tryd.prog.funcNamed Rows.commandSameRow.func = some 8 by kernel_rfl).symm.trans hf) |>.symm
      obtain rfl : fn = Tryd.f8 := (Option.some.inj (Tryd.func8.symm.trans hfn)).symm
      exact ⟨by kernel_rfl, fun j t ht => by
        rw [Tryd.params8] at ht
        have hm : t ∈ [27, 27] := by simpa using Array.mem_of_getElem? ht
        have hall : ([27, 27].all fun u => !Tryd.prog.wantsStandIn u) = true := by kernel_rfl
        exact (show Tryd.prog.wantsStandIn t = false by simpa using List.all_eq_true.1 hall t hm)⟩)
    (by kernel_rfl)
#print axioms proved
end Go.Proofs.YtifkijepedhbgaaDoor.commandSame
