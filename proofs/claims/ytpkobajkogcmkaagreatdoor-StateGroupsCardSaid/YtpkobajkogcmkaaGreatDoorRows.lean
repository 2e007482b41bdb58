/-
  NARROWER THAN 'FOR EVERY INPUT', by the rows' own cells (each row's printed sentence says how): StateOnce: laid · StateReads: laid · StateStores: laid · StateSince: laid · StateCleans: laid · StateGroups: laid · StateErrors: laid · TraceAlike: laid · TraceAnswers: laid · StateBytes: laid.
  DERIVED. THE GIVEN ROWS OF THIS SEAT. 10 by the template 'for every input the law returns true; each argument reads behind the call as it read before'; 0 by the template 'total and deterministic' (their statements: YtpkobajkogcmkaaGreatDoorTotals.lean).
  GIVEN WITH THE SEED: the statements are not yours to turn. If you find one false, say at which input.
  Laid BY PROGRAM, IN A SANDBOX (cutbox-rows.mjs): the forced cells as the released guide's own fill.sh prints them over the translation 59e3dcc3bd584d4c… (all of the seat's roots in one cut). By AI agents, Wed Nov 11 2026. No macro, syntax, notation, axiom, sorry.
-/
import Derived.Test.YtpkobajkogcmkaaGreatDoorChecked
import GoSem.PinnedTables
import GoSem.Claim
import GoSem.ClaimJoined
import GoSem.ClaimMapViews
import Derived.JoinedTies
import Derived.KernelRfl
namespace Go.Proofs.YtpkobajkogcmkaaGreatDoor
/- THE CELL 'sum', in the pinned program and in every row, IS THE sha256 OF THE DUMP (.gsa) THAT YtpkobajkogcmkaaGreatDoorProg.lean LOADS. Nothing in Lean hashes anything: it is a label: what it is worth is what the hold of that sum in a sandbox is worth. -/
noncomputable def Tryz.pinned : Pinned := { name := "ytpkobajkogcmkaagreatdoor", sum := "59e3dcc3bd584d4caf9761e0873cca97cdfb8b99b7e7dd54b3ad9233c53d13ab", checked := Tryz.checked }
namespace Rows
def none {H : Type} : Left H := { results := [], args := [] }

/- WHAT THE LISTED PACKAGE-LEVEL VARIABLES READ AS WHEN THE CALL BEGINS. Each datum BY PROGRAM (the guide's laid-datum.mjs) off the statement by which the dump's own 'gosem.cut.vars' lays the variable. In a bare row this is a premise. The card (YtpkobajkogcmkaaGreatDoorCards.lean) ties it to the program's text. -/
def laid_unicode_utf8_acceptRanges {H : Type} : DataW H := .agg [.agg [.lit (.int .u8 128), .lit (.int .u8 191)], .agg [.lit (.int .u8 160), .lit (.int .u8 191)], .agg [.lit (.int .u8 128), .lit (.int .u8 159)], .agg [.lit (.int .u8 144), .lit (.int .u8 191)], .agg [.lit (.int .u8 128), .lit (.int .u8 143)], .agg [.lit (.int .u8 0), .lit (.int .u8 0)], .agg [.lit (.int .u8 0), .lit (.int .u8 0)], .agg [.lit (.int .u8 0), .lit (.int .u8 0)], .agg [.lit (.int .u8 0), .lit (.int .u8 0)], .agg [.lit (.int .u8 0), .lit (.int .u8 0)], .agg [.lit (.int .u8 0), .lit (.int .u8 0)], .agg [.lit (.int .u8 0), .lit (.int .u8 0)], .agg [.lit (.int .u8 0), .lit (.int .u8 0)], .agg [.lit (.int .u8 0), .lit (.int .u8 0)], .agg [.lit (.int .u8 0), .lit (.int .u8 0)], .agg [.lit (.int .u8 0), .lit (.int .u8 0)]]
/-- One of Go's own tables, pinned by name: the form's constant. -/
def laid_unicode_utf8_first : DataW Unit := Go.Pinned.utf8First

/-- 'cooperagelaw16.StateOnce': WHATEVER THE INPUT: true; the input reads as it did. -/
def stateOnceSpec : ChangeSpec := { name := "stateOnce", fn := fun _ => fun
  | [d1, d2, d3] => { results := [.lit (.bool true)], args := [d1, d2, d3] }
  | _ => none }
def stateOnceRow : OpenClaim := { program := "ytpkobajkogcmkaagreatdoor", sum := "59e3dcc3bd584d4caf9761e0873cca97cdfb8b99b7e7dd54b3ad9233c53d13ab", func := "cooperage/cooperagelaw16.StateOnce", spec := "stateOnce", inPlace := ["slices.overlaps[cooperage/dedup.Row]", "internal/bytealg.abigen_runtime_cmpstring", "slices.overlaps[cooperage/groups.Row]", "slices.overlaps[cooperage/api.Segment]"], unfollowed := true, recurses := true, named := ["unicode/utf8.first", "unicode/utf8.acceptRanges"], apart := false, laid := [("unicode/utf8.acceptRanges", laid_unicode_utf8_acceptRanges), ("unicode/utf8.first", laid_unicode_utf8_first)] }
def StateOnceSaid : Prop := stateOnceRow.holds Tryz.pinned (OpenSpec.ofChange stateOnceSpec)

/-- ITS FALSE NEIGHBOUR: 'it returns false'. Refute it at one input. -/
def stateOnceWrong : ChangeSpec := { name := "stateOnce", fn := fun _ => fun
  | [d1, d2, d3] => { results := [.lit (.bool false)], args := [d1, d2, d3] }
  | _ => none }
def StateOnceWrongFalsely : Prop := stateOnceRow.holds Tryz.pinned (OpenSpec.ofChange stateOnceWrong)

/-- 'cooperagelaw16.StateReads': WHATEVER THE INPUT: true; the input reads as it did. -/
def stateReadsSpec : ChangeSpec := { name := "stateReads", fn := fun _ => fun
  | [d1, d2, d3, d4] => { results := [.lit (.bool true)], args := [d1, d2, d3, d4] }
  | _ => none }
def stateReadsRow : OpenClaim := { program := "ytpkobajkogcmkaagreatdoor", sum := "59e3dcc3bd584d4caf9761e0873cca97cdfb8b99b7e7dd54b3ad9233c53d13ab", func := "cooperage/cooperagelaw16.StateReads", spec := "stateReads", inPlace := ["slices.overlaps[cooperage/dedup.Row]", "internal/bytealg.abigen_runtime_cmpstring", "slices.overlaps[cooperage/groups.Row]", "slices.overlaps[cooperage/api.Segment]"], unfollowed := true, recurses := true, named := ["unicode/utf8.first", "unicode/utf8.acceptRanges"], apart := false, laid := [("unicode/utf8.acceptRanges", laid_unicode_utf8_acceptRanges), ("unicode/utf8.first", laid_unicode_utf8_first)] }
def StateReadsSaid : Prop := stateReadsRow.holds Tryz.pinned (OpenSpec.ofChange stateReadsSpec)

/-- ITS FALSE NEIGHBOUR: 'it returns false'. Refute it at one input. -/
def stateReadsWrong : ChangeSpec := { name := "stateReads", fn := fun _ => fun
  | [d1, d2, d3, d4] => { results := [.lit (.bool false)], args := [d1, d2, d3, d4] }
  | _ => none }
def StateReadsWrongFalsely : Prop := stateReadsRow.holds Tryz.pinned (OpenSpec.ofChange stateReadsWrong)

/-- 'cooperagelaw16.StateStores': WHATEVER THE INPUT: true; the input reads as it did. -/
def stateStoresSpec : ChangeSpec := { name := "stateStores", fn := fun _ => fun
  | [d1, d2, d3, d4] => { results := [.lit (.bool true)], args := [d1, d2, d3, d4] }
  | _ => none }
def stateStoresRow : OpenClaim := { program := "ytpkobajkogcmkaagreatdoor", sum := "59e3dcc3bd584d4caf9761e0873cca97cdfb8b99b7e7dd54b3ad9233c53d13ab", func := "cooperage/cooperagelaw16.StateStores", spec := "stateStores", inPlace := ["slices.overlaps[cooperage/dedup.Row]", "internal/bytealg.abigen_runtime_cmpstring", "slices.overlaps[cooperage/groups.Row]", "slices.overlaps[cooperage/api.Segment]"], unfollowed := true, recurses := true, named := ["unicode/utf8.first", "unicode/utf8.acceptRanges"], apart := false, laid := [("unicode/utf8.acceptRanges", laid_unicode_utf8_acceptRanges), ("unicode/utf8.first", laid_unicode_utf8_first)] }
def StateStoresSaid : Prop := stateStoresRow.holds Tryz.pinned (OpenSpec.ofChange stateStoresSpec)

/-- ITS FALSE NEIGHBOUR: 'it returns false'. Refute it at one input. -/
def stateStoresWrong : ChangeSpec := { name := "stateStores", fn := fun _ => fun
  | [d1, d2, d3, d4] => { results := [.lit (.bool false)], args := [d1, d2, d3, d4] }
  | _ => none }
def StateStoresWrongFalsely : Prop := stateStoresRow.holds Tryz.pinned (OpenSpec.ofChange stateStoresWrong)

/-- 'cooperagelaw16.StateSince': WHATEVER THE INPUT: true; the input reads as it did. -/
def stateSinceSpec : ChangeSpec := { name := "stateSince", fn := fun _ => fun
  | [d1, d2, d3] => { results := [.lit (.bool true)], args := [d1, d2, d3] }
  | _ => none }
def stateSinceRow : OpenClaim := { program := "ytpkobajkogcmkaagreatdoor", sum := "59e3dcc3bd584d4caf9761e0873cca97cdfb8b99b7e7dd54b3ad9233c53d13ab", func := "cooperage/cooperagelaw16.StateSince", spec := "stateSince", inPlace := ["slices.overlaps[cooperage/dedup.Row]", "internal/bytealg.abigen_runtime_cmpstring", "slices.overlaps[cooperage/groups.Row]", "slices.overlaps[cooperage/api.Segment]"], unfollowed := true, recurses := true, named := ["unicode/utf8.first", "unicode/utf8.acceptRanges"], apart := false, laid := [("unicode/utf8.acceptRanges", laid_unicode_utf8_acceptRanges), ("unicode/utf8.first", laid_unicode_utf8_first)] }
def StateSinceSaid : Prop := stateSinceRow.holds Tryz.pinned (OpenSpec.ofChange stateSinceSpec)

/-- ITS FALSE NEIGHBOUR: 'it returns false'. Refute it at one input. -/
def stateSinceWrong : ChangeSpec := { name := "stateSince", fn := fun _ => fun
  | [d1, d2, d3] => { results := [.lit (.bool false)], args := [d1, d2, d3] }
  | _ => none }
def StateSinceWrongFalsely : Prop := stateSinceRow.holds Tryz.pinned (OpenSpec.ofChange stateSinceWrong)

/-- 'cooperagelaw16.StateCleans': WHATEVER THE INPUT: true; the input reads as it did. -/
def stateCleansSpec : ChangeSpec := { name := "stateCleans", fn := fun _ => fun
  | [d1, d2, d3, d4, d5] => { results := [.lit (.bool true)], args := [d1, d2, d3, d4, d5] }
  | _ => none }
def stateCleansRow : OpenClaim := { program := "ytpkobajkogcmkaagreatdoor", sum := "59e3dcc3bd584d4caf9761e0873cca97cdfb8b99b7e7dd54b3ad9233c53d13ab", func := "cooperage/cooperagelaw16.StateCleans", spec := "stateCleans", inPlace := ["slices.overlaps[cooperage/dedup.Row]", "internal/bytealg.abigen_runtime_cmpstring", "slices.overlaps[cooperage/groups.Row]", "slices.overlaps[cooperage/api.Segment]"], unfollowed := true, recurses := true, named := ["unicode/utf8.first", "unicode/utf8.acceptRanges"], apart := false, laid := [("unicode/utf8.acceptRanges", laid_unicode_utf8_acceptRanges), ("unicode/utf8.first", laid_unicode_utf8_first)] }
def StateCleansSaid : Prop := stateCleansRow.holds Tryz.pinned (OpenSpec.ofChange stateCleansSpec)

/-- ITS FALSE NEIGHBOUR: 'it returns false'. Refute it at one input. -/
def stateCleansWrong : ChangeSpec := { name := "stateCleans", fn := fun _ => fun
  | [d1, d2, d3, d4, d5] => { results := [.lit (.bool false)], args := [d1, d2, d3, d4, d5] }
  | _ => none }
def StateCleansWrongFalsely : Prop := stateCleansRow.holds Tryz.pinned (OpenSpec.ofChange stateCleansWrong)

/-- 'cooperagelaw16.StateGroups': WHATEVER THE INPUT: true; the input reads as it did. -/
def stateGroupsSpec : ChangeSpec := { name := "stateGroups", fn := fun _ => fun
  | [d1, d2, d3] => { results := [.lit (.bool true)], args := [d1, d2, d3] }
  | _ => none }
def stateGroupsRow : OpenClaim := { program := "ytpkobajkogcmkaagreatdoor", sum := "59e3dcc3bd584d4caf9761e0873cca97cdfb8b99b7e7dd54b3ad9233c53d13ab", func := "cooperage/cooperagelaw16.StateGroups", spec := "stateGroups", inPlace := ["slices.overlaps[cooperage/dedup.Row]", "internal/bytealg.abigen_runtime_cmpstring", "slices.overlaps[cooperage/groups.Row]", "slices.overlaps[cooperage/api.Segment]"], unfollowed := true, recurses := true, named := ["unicode/utf8.first", "unicode/utf8.acceptRanges"], apart := false, laid := [("unicode/utf8.acceptRanges", laid_unicode_utf8_acceptRanges), ("unicode/utf8.first", laid_unicode_utf8_first)] }
def StateGroupsSaid : Prop := stateGroupsRow.holds Tryz.pinned (OpenSpec.ofChange stateGroupsSpec)

/-- ITS FALSE NEIGHBOUR: 'it returns false'. Refute it at one input. -/
def stateGroupsWrong : ChangeSpec := { name := "stateGroups", fn := fun _ => fun
  | [d1, d2, d3] => { results := [.lit (.bool false)], args := [d1, d2, d3] }
  | _ => none }
def StateGroupsWrongFalsely : Prop := stateGroupsRow.holds Tryz.pinned (OpenSpec.ofChange stateGroupsWrong)

/-- 'cooperagelaw16.StateErrors': WHATEVER THE INPUT: true; the input reads as it did. -/
def stateErrorsSpec : ChangeSpec := { name := "stateErrors", fn := fun _ => fun
  | [d1, d2] => { results := [.lit (.bool true)], args := [d1, d2] }
  | _ => none }
def stateErrorsRow : OpenClaim := { program := "ytpkobajkogcmkaagreatdoor", sum := "59e3dcc3bd584d4caf9761e0873cca97cdfb8b99b7e7dd54b3ad9233c53d13ab", func := "cooperage/cooperagelaw16.StateErrors", spec := "stateErrors", inPlace := ["slices.overlaps[cooperage/dedup.Row]", "internal/bytealg.abigen_runtime_cmpstring", "slices.overlaps[cooperage/groups.Row]", "slices.overlaps[cooperage/api.Segment]"], unfollowed := true, recurses := true, named := ["unicode/utf8.first", "unicode/utf8.acceptRanges"], apart := false, laid := [("unicode/utf8.acceptRanges", laid_unicode_utf8_acceptRanges), ("unicode/utf8.first", laid_unicode_utf8_first)] }
def StateErrorsSaid : Prop := stateErrorsRow.holds Tryz.pinned (OpenSpec.ofChange stateErrorsSpec)

/-- ITS FALSE NEIGHBOUR: 'it returns false'. Refute it at one input. -/
def stateErrorsWrong : ChangeSpec := { name := "stateErrors", fn := fun _ => fun
  | [d1, d2] => { results := [.lit (.bool false)], args := [d1, d2] }
  | _ => none }
def StateErrorsWrongFalsely : Prop := stateErrorsRow.holds Tryz.pinned (OpenSpec.ofChange stateErrorsWrong)

/-- 'cooperagelaw26.TraceAlike': WHATEVER THE INPUT: true; the input reads as it did. -/
def traceAlikeSpec : ChangeSpec := { name := "traceAlike", fn := fun _ => fun
  | [d1, d2] => { results := [.lit (.bool true)], args := [d1, d2] }
  | _ => none }
def traceAlikeRow : OpenClaim := { program := "ytpkobajkogcmkaagreatdoor", sum := "59e3dcc3bd584d4caf9761e0873cca97cdfb8b99b7e7dd54b3ad9233c53d13ab", func := "cooperage/cooperagelaw26.TraceAlike", spec := "traceAlike", inPlace := ["slices.overlaps[cooperage/dedup.Row]", "internal/bytealg.abigen_runtime_cmpstring", "slices.overlaps[cooperage/groups.Row]", "slices.overlaps[cooperage/api.Segment]"], unfollowed := true, recurses := true, named := ["unicode/utf8.first", "unicode/utf8.acceptRanges"], apart := false, laid := [("unicode/utf8.acceptRanges", laid_unicode_utf8_acceptRanges), ("unicode/utf8.first", laid_unicode_utf8_first)] }
def TraceAlikeSaid : Prop := traceAlikeRow.holds Tryz.pinned (OpenSpec.ofChange traceAlikeSpec)

/-- ITS FALSE NEIGHBOUR: 'it returns false'. Refute it at one input. -/
def traceAlikeWrong : ChangeSpec := { name := "traceAlike", fn := fun _ => fun
  | [d1, d2] => { results := [.lit (.bool false)], args := [d1, d2] }
  | _ => none }
def TraceAlikeWrongFalsely : Prop := traceAlikeRow.holds Tryz.pinned (OpenSpec.ofChange traceAlikeWrong)

/-- 'cooperagelaw26.TraceAnswers': WHATEVER THE INPUT: true; the input reads as it did. -/
def traceAnswersSpec : ChangeSpec := { name := "traceAnswers", fn := fun _ => fun
  | [d1, d2, d3] => { results := [.lit (.bool true)], args := [d1, d2, d3] }
  | _ => none }
def traceAnswersRow : OpenClaim := { program := "ytpkobajkogcmkaagreatdoor", sum := "59e3dcc3bd584d4caf9761e0873cca97cdfb8b99b7e7dd54b3ad9233c53d13ab", func := "cooperage/cooperagelaw26.TraceAnswers", spec := "traceAnswers", inPlace := ["slices.overlaps[cooperage/dedup.Row]", "internal/bytealg.abigen_runtime_cmpstring", "slices.overlaps[cooperage/groups.Row]", "slices.overlaps[cooperage/api.Segment]"], unfollowed := true, recurses := true, named := ["unicode/utf8.first", "unicode/utf8.acceptRanges"], apart := false, laid := [("unicode/utf8.acceptRanges", laid_unicode_utf8_acceptRanges), ("unicode/utf8.first", laid_unicode_utf8_first)] }
def TraceAnswersSaid : Prop := traceAnswersRow.holds Tryz.pinned (OpenSpec.ofChange traceAnswersSpec)

/-- ITS FALSE NEIGHBOUR: 'it returns false'. Refute it at one input. -/
def traceAnswersWrong : ChangeSpec := { name := "traceAnswers", fn := fun _ => fun
  | [d1, d2, d3] => { results := [.lit (.bool false)], args := [d1, d2, d3] }
  | _ => none }
def TraceAnswersWrongFalsely : Prop := traceAnswersRow.holds Tryz.pinned (OpenSpec.ofChange traceAnswersWrong)

/-- 'cooperagelaw16.StateBytes': WHATEVER THE INPUT: true; the input reads as it did. -/
def stateBytesSpec : ChangeSpec := { name := "stateBytes", fn := fun _ => fun
  | [d1, d2] => { results := [.lit (.bool true)], args := [d1, d2] }
  | _ => none }
def stateBytesRow : OpenClaim := { program := "ytpkobajkogcmkaagreatdoor", sum := "59e3dcc3bd584d4caf9761e0873cca97cdfb8b99b7e7dd54b3ad9233c53d13ab", func := "cooperage/cooperagelaw16.StateBytes", spec := "stateBytes", inPlace := ["slices.overlaps[cooperage/dedup.Row]", "internal/bytealg.abigen_runtime_cmpstring", "slices.overlaps[cooperage/groups.Row]", "slices.overlaps[cooperage/api.Segment]"], unfollowed := true, recurses := true, named := ["unicode/utf8.first", "unicode/utf8.acceptRanges"], apart := false, laid := [("unicode/utf8.acceptRanges", laid_unicode_utf8_acceptRanges), ("unicode/utf8.first", laid_unicode_utf8_first)] }
def StateBytesSaid : Prop := stateBytesRow.holds Tryz.pinned (OpenSpec.ofChange stateBytesSpec)

/-- ITS FALSE NEIGHBOUR: 'it returns false'. Refute it at one input. -/
def stateBytesWrong : ChangeSpec := { name := "stateBytes", fn := fun _ => fun
  | [d1, d2] => { results := [.lit (.bool false)], args := [d1, d2] }
  | _ => none }
def StateBytesWrongFalsely : Prop := stateBytesRow.holds Tryz.pinned (OpenSpec.ofChange stateBytesWrong)

/- THE SECOND FORM. 'bulk': how many values and letters a reading holds, each counted each time it is reached (what is shared counts as often as it is met; a slice's spare places count too). A statement '..UptoSaid' is the law's where the arguments, and the package variables that the reading takes, are together of bulk at most 1048576: NARROWER than '..Said'. Prove '..Said' where nothing that the law and all that it calls make is longer than what came in: it says more and counts as full. Else prove '..UptoSaid'. A law counts once. -/
mutual
def uptoBulk {H : Type} : DataW H → Nat
  | .lit (.string bytes) => bytes.length + 1
  | .lit _ => 1
  | .nil => 1
  | .ptr d => uptoBulk d + 1
  | .slice elems spare => uptoBulkAll elems + uptoBulkAll spare + 1
  | .agg parts => uptoBulkAll parts + 1
  | .iface _ d => uptoBulk d + 1
  | .map entries => uptoBulkEntries entries + 1
  | .held _ => 1
def uptoBulkAll {H : Type} : List (DataW H) → Nat
  | [] => 0
  | d :: r => uptoBulk d + uptoBulkAll r
def uptoBulkEntries {H : Type} : List (Lit × DataW H) → Nat
  | [] => 0
  | x :: r => uptoBulkEntry x + uptoBulkEntries r
def uptoBulkEntry {H : Type} : Lit × DataW H → Nat
  | (.string bytes, d) => bytes.length + uptoBulk d + 1
  | (_, d) => uptoBulk d + 1
 end
def uptoSmall : (H : Type) → List (DataW H) → Bool := fun _ ds => decide (uptoBulkAll ds ≤ 1048576)
def OpenSpec.upto (s : _root_.Go.ChangeSpec) : _root_.Go.OpenSpec := { _root_.Go.OpenSpec.ofChange s with cond := some uptoSmall }

/-- 'cooperagelaw16.StateOnce', WHERE WHAT IT READS IS OF BULK AT MOST 1048576: true; the input reads as it did. -/
def stateOnceUptoRow : OpenClaim := { program := "ytpkobajkogcmkaagreatdoor", sum := "59e3dcc3bd584d4caf9761e0873cca97cdfb8b99b7e7dd54b3ad9233c53d13ab", func := "cooperage/cooperagelaw16.StateOnce", spec := "stateOnce", inPlace := ["slices.overlaps[cooperage/dedup.Row]", "internal/bytealg.abigen_runtime_cmpstring", "slices.overlaps[cooperage/groups.Row]", "slices.overlaps[cooperage/api.Segment]"], unfollowed := true, recurses := true, named := ["unicode/utf8.first", "unicode/utf8.acceptRanges"], apart := false, laid := [("unicode/utf8.acceptRanges", laid_unicode_utf8_acceptRanges), ("unicode/utf8.first", laid_unicode_utf8_first)], narrowed := true }
def StateOnceUptoSaid : Prop := stateOnceUptoRow.holds Tryz.pinned (OpenSpec.upto stateOnceSpec)

/-- 'cooperagelaw16.StateReads', WHERE WHAT IT READS IS OF BULK AT MOST 1048576: true; the input reads as it did. -/
def stateReadsUptoRow : OpenClaim := { program := "ytpkobajkogcmkaagreatdoor", sum := "59e3dcc3bd584d4caf9761e0873cca97cdfb8b99b7e7dd54b3ad9233c53d13ab", func := "cooperage/cooperagelaw16.StateReads", spec := "stateReads", inPlace := ["slices.overlaps[cooperage/dedup.Row]", "internal/bytealg.abigen_runtime_cmpstring", "slices.overlaps[cooperage/groups.Row]", "slices.overlaps[cooperage/api.Segment]"], unfollowed := true, recurses := true, named := ["unicode/utf8.first", "unicode/utf8.acceptRanges"], apart := false, laid := [("unicode/utf8.acceptRanges", laid_unicode_utf8_acceptRanges), ("unicode/utf8.first", laid_unicode_utf8_first)], narrowed := true }
def StateReadsUptoSaid : Prop := stateReadsUptoRow.holds Tryz.pinned (OpenSpec.upto stateReadsSpec)

/-- 'cooperagelaw16.StateStores', WHERE WHAT IT READS IS OF BULK AT MOST 1048576: true; the input reads as it did. -/
def stateStoresUptoRow : OpenClaim := { program := "ytpkobajkogcmkaagreatdoor", sum := "59e3dcc3bd584d4caf9761e0873cca97cdfb8b99b7e7dd54b3ad9233c53d13ab", func := "cooperage/cooperagelaw16.StateStores", spec := "stateStores", inPlace := ["slices.overlaps[cooperage/dedup.Row]", "internal/bytealg.abigen_runtime_cmpstring", "slices.overlaps[cooperage/groups.Row]", "slices.overlaps[cooperage/api.Segment]"], unfollowed := true, recurses := true, named := ["unicode/utf8.first", "unicode/utf8.acceptRanges"], apart := false, laid := [("unicode/utf8.acceptRanges", laid_unicode_utf8_acceptRanges), ("unicode/utf8.first", laid_unicode_utf8_first)], narrowed := true }
def StateStoresUptoSaid : Prop := stateStoresUptoRow.holds Tryz.pinned (OpenSpec.upto stateStoresSpec)

/-- 'cooperagelaw16.StateSince', WHERE WHAT IT READS IS OF BULK AT MOST 1048576: true; the input reads as it did. -/
def stateSinceUptoRow : OpenClaim := { program := "ytpkobajkogcmkaagreatdoor", sum := "59e3dcc3bd584d4caf9761e0873cca97cdfb8b99b7e7dd54b3ad9233c53d13ab", func := "cooperage/cooperagelaw16.StateSince", spec := "stateSince", inPlace := ["slices.overlaps[cooperage/dedup.Row]", "internal/bytealg.abigen_runtime_cmpstring", "slices.overlaps[cooperage/groups.Row]", "slices.overlaps[cooperage/api.Segment]"], unfollowed := true, recurses := true, named := ["unicode/utf8.first", "unicode/utf8.acceptRanges"], apart := false, laid := [("unicode/utf8.acceptRanges", laid_unicode_utf8_acceptRanges), ("unicode/utf8.first", laid_unicode_utf8_first)], narrowed := true }
def StateSinceUptoSaid : Prop := stateSinceUptoRow.holds Tryz.pinned (OpenSpec.upto stateSinceSpec)

/-- 'cooperagelaw16.StateCleans', WHERE WHAT IT READS IS OF BULK AT MOST 1048576: true; the input reads as it did. -/
def stateCleansUptoRow : OpenClaim := { program := "ytpkobajkogcmkaagreatdoor", sum := "59e3dcc3bd584d4caf9761e0873cca97cdfb8b99b7e7dd54b3ad9233c53d13ab", func := "cooperage/cooperagelaw16.StateCleans", spec := "stateCleans", inPlace := ["slices.overlaps[cooperage/dedup.Row]", "internal/bytealg.abigen_runtime_cmpstring", "slices.overlaps[cooperage/groups.Row]", "slices.overlaps[cooperage/api.Segment]"], unfollowed := true, recurses := true, named := ["unicode/utf8.first", "unicode/utf8.acceptRanges"], apart := false, laid := [("unicode/utf8.acceptRanges", laid_unicode_utf8_acceptRanges), ("unicode/utf8.first", laid_unicode_utf8_first)], narrowed := true }
def StateCleansUptoSaid : Prop := stateCleansUptoRow.holds Tryz.pinned (OpenSpec.upto stateCleansSpec)

/-- 'cooperagelaw16.StateGroups', WHERE WHAT IT READS IS OF BULK AT MOST 1048576: true; the input reads as it did. -/
def stateGroupsUptoRow : OpenClaim := { program := "ytpkobajkogcmkaagreatdoor", sum := "59e3dcc3bd584d4caf9761e0873cca97cdfb8b99b7e7dd54b3ad9233c53d13ab", func := "cooperage/cooperagelaw16.StateGroups", spec := "stateGroups", inPlace := ["slices.overlaps[cooperage/dedup.Row]", "internal/bytealg.abigen_runtime_cmpstring", "slices.overlaps[cooperage/groups.Row]", "slices.overlaps[cooperage/api.Segment]"], unfollowed := true, recurses := true, named := ["unicode/utf8.first", "unicode/utf8.acceptRanges"], apart := false, laid := [("unicode/utf8.acceptRanges", laid_unicode_utf8_acceptRanges), ("unicode/utf8.first", laid_unicode_utf8_first)], narrowed := true }
def StateGroupsUptoSaid : Prop := stateGroupsUptoRow.holds Tryz.pinned (OpenSpec.upto stateGroupsSpec)

/-- 'cooperagelaw16.StateErrors', WHERE WHAT IT READS IS OF BULK AT MOST 1048576: true; the input reads as it did. -/
def stateErrorsUptoRow : OpenClaim := { program := "ytpkobajkogcmkaagreatdoor", sum := "59e3dcc3bd584d4caf9761e0873cca97cdfb8b99b7e7dd54b3ad9233c53d13ab", func := "cooperage/cooperagelaw16.StateErrors", spec := "stateErrors", inPlace := ["slices.overlaps[cooperage/dedup.Row]", "internal/bytealg.abigen_runtime_cmpstring", "slices.overlaps[cooperage/groups.Row]", "slices.overlaps[cooperage/api.Segment]"], unfollowed := true, recurses := true, named := ["unicode/utf8.first", "unicode/utf8.acceptRanges"], apart := false, laid := [("unicode/utf8.acceptRanges", laid_unicode_utf8_acceptRanges), ("unicode/utf8.first", laid_unicode_utf8_first)], narrowed := true }
def StateErrorsUptoSaid : Prop := stateErrorsUptoRow.holds Tryz.pinned (OpenSpec.upto stateErrorsSpec)

/-- 'cooperagelaw26.TraceAlike', WHERE WHAT IT READS IS OF BULK AT MOST 1048576: true; the input reads as it did. -/
def traceAlikeUptoRow : OpenClaim := { program := "ytpkobajkogcmkaagreatdoor", sum := "59e3dcc3bd584d4caf9761e0873cca97cdfb8b99b7e7dd54b3ad9233c53d13ab", func := "cooperage/cooperagelaw26.TraceAlike", spec := "traceAlike", inPlace := ["slices.overlaps[cooperage/dedup.Row]", "internal/bytealg.abigen_runtime_cmpstring", "slices.overlaps[cooperage/groups.Row]", "slices.overlaps[cooperage/api.Segment]"], unfollowed := true, recurses := true, named := ["unicode/utf8.first", "unicode/utf8.acceptRanges"], apart := false, laid := [("unicode/utf8.acceptRanges", laid_unicode_utf8_acceptRanges), ("unicode/utf8.first", laid_unicode_utf8_first)], narrowed := true }
def TraceAlikeUptoSaid : Prop := traceAlikeUptoRow.holds Tryz.pinned (OpenSpec.upto traceAlikeSpec)

/-- 'cooperagelaw26.TraceAnswers', WHERE WHAT IT READS IS OF BULK AT MOST 1048576: true; the input reads as it did. -/
def traceAnswersUptoRow : OpenClaim := { program := "ytpkobajkogcmkaagreatdoor", sum := "59e3dcc3bd584d4caf9761e0873cca97cdfb8b99b7e7dd54b3ad9233c53d13ab", func := "cooperage/cooperagelaw26.TraceAnswers", spec := "traceAnswers", inPlace := ["slices.overlaps[cooperage/dedup.Row]", "internal/bytealg.abigen_runtime_cmpstring", "slices.overlaps[cooperage/groups.Row]", "slices.overlaps[cooperage/api.Segment]"], unfollowed := true, recurses := true, named := ["unicode/utf8.first", "unicode/utf8.acceptRanges"], apart := false, laid := [("unicode/utf8.acceptRanges", laid_unicode_utf8_acceptRanges), ("unicode/utf8.first", laid_unicode_utf8_first)], narrowed := true }
def TraceAnswersUptoSaid : Prop := traceAnswersUptoRow.holds Tryz.pinned (OpenSpec.upto traceAnswersSpec)

/-- 'cooperagelaw16.StateBytes', WHERE WHAT IT READS IS OF BULK AT MOST 1048576: true; the input reads as it did. -/
def stateBytesUptoRow : OpenClaim := { program := "ytpkobajkogcmkaagreatdoor", sum := "59e3dcc3bd584d4caf9761e0873cca97cdfb8b99b7e7dd54b3ad9233c53d13ab", func := "cooperage/cooperagelaw16.StateBytes", spec := "stateBytes", inPlace := ["slices.overlaps[cooperage/dedup.Row]", "internal/bytealg.abigen_runtime_cmpstring", "slices.overlaps[cooperage/groups.Row]", "slices.overlaps[cooperage/api.Segment]"], unfollowed := true, recurses := true, named := ["unicode/utf8.first", "unicode/utf8.acceptRanges"], apart := false, laid := [("unicode/utf8.acceptRanges", laid_unicode_utf8_acceptRanges), ("unicode/utf8.first", laid_unicode_utf8_first)], narrowed := true }
def StateBytesUptoSaid : Prop := stateBytesUptoRow.holds Tryz.pinned (OpenSpec.upto stateBytesSpec)

end Rows
end Go.Proofs.YtpkobajkogcmkaaGreatDoor
