/-
  NARROWER THAN 'FOR EVERY INPUT', by the rows' own cells (each row's printed sentence says how): ServiceChecks: laid · ServiceRight: laid · ServiceOrder: laid · CommandBytes: laid · CommandReads: laid · CommandSame: laid · CommandPlain: laid · WireBytes: laid · WireTorn: laid · WireReads: laid · WireSame: laid.
  DERIVED. THE GIVEN ROWS OF THIS SEAT. 11 by the template 'for every input the law returns true; each argument reads behind the call as it read before'; 0 by the template 'total and deterministic' (their statements: YtifkijepedhbgaaDoorTotals.lean).
  GIVEN WITH THE SEED: the statements are not yours to turn. If you find one false, say at which input.
  Laid BY PROGRAM, IN A SANDBOX (cutbox-rows.mjs): the forced cells as the released guide's own fill.sh prints them over the translation f269eea029afc3eb… (all of the seat's roots in one cut). By AI agents, Wed Nov 11 2026. No macro, syntax, notation, axiom, sorry.
-/
import Derived.Test.YtifkijepedhbgaaDoorChecked
import GoSem.PinnedTables
import GoSem.Claim
import GoSem.ClaimJoined
import GoSem.ClaimMapViews
import Derived.JoinedTies
import Derived.KernelRfl
namespace Go.Proofs.YtifkijepedhbgaaDoor
/- THE CELL 'sum', in the pinned program and in every row, IS THE sha256 OF THE DUMP (.gsa) THAT YtifkijepedhbgaaDoorProg.lean LOADS. Nothing in Lean hashes anything: it is a label: what it is worth is what the hold of that sum in a sandbox is worth. -/
noncomputable def Tryd.pinned : Pinned := { name := "ytifkijepedhbgaadoor", sum := "f269eea029afc3eba4a4416fdba7ce6c8296c670740f908e4212466ceed22f4a", checked := Tryd.checked }
namespace Rows
def none {H : Type} : Left H := { results := [], args := [] }

/- WHAT THE LISTED PACKAGE-LEVEL VARIABLES READ AS WHEN THE CALL BEGINS. Each datum BY PROGRAM (the guide's laid-datum.mjs) off the statement by which the dump's own 'gosem.cut.vars' lays the variable. In a bare row this is a premise. The card (YtifkijepedhbgaaDoorCards.lean) ties it to the program's text. -/
def laid_unicode_utf8_acceptRanges {H : Type} : DataW H := .agg [.agg [.lit (.int .u8 128), .lit (.int .u8 191)], .agg [.lit (.int .u8 160), .lit (.int .u8 191)], .agg [.lit (.int .u8 128), .lit (.int .u8 159)], .agg [.lit (.int .u8 144), .lit (.int .u8 191)], .agg [.lit (.int .u8 128), .lit (.int .u8 143)], .agg [.lit (.int .u8 0), .lit (.int .u8 0)], .agg [.lit (.int .u8 0), .lit (.int .u8 0)], .agg [.lit (.int .u8 0), .lit (.int .u8 0)], .agg [.lit (.int .u8 0), .lit (.int .u8 0)], .agg [.lit (.int .u8 0), .lit (.int .u8 0)], .agg [.lit (.int .u8 0), .lit (.int .u8 0)], .agg [.lit (.int .u8 0), .lit (.int .u8 0)], .agg [.lit (.int .u8 0), .lit (.int .u8 0)], .agg [.lit (.int .u8 0), .lit (.int .u8 0)], .agg [.lit (.int .u8 0), .lit (.int .u8 0)], .agg [.lit (.int .u8 0), .lit (.int .u8 0)]]
/-- One of Go's own tables, pinned by name: the form's constant. -/
def laid_unicode_utf8_first : DataW Unit := Go.Pinned.utf8First

/-- 'cooperagelaw21.ServiceChecks': WHATEVER THE INPUT: true; the input reads as it did. -/
def serviceChecksSpec : ChangeSpec := { name := "serviceChecks", fn := fun _ => fun
  | [d] => { results := [.lit (.bool true)], args := [d] }
  | _ => none }
def serviceChecksRow : OpenClaim := { program := "ytifkijepedhbgaadoor", sum := "f269eea029afc3eba4a4416fdba7ce6c8296c670740f908e4212466ceed22f4a", func := "cooperage/cooperagelaw21.ServiceChecks", spec := "serviceChecks", unfollowed := true, recurses := true, named := ["unicode/utf8.first", "unicode/utf8.acceptRanges"], apart := false, laid := [("unicode/utf8.acceptRanges", laid_unicode_utf8_acceptRanges), ("unicode/utf8.first", laid_unicode_utf8_first)] }
def ServiceChecksSaid : Prop := serviceChecksRow.holds Tryd.pinned (OpenSpec.ofChange serviceChecksSpec)

/-- ITS FALSE NEIGHBOUR: 'it returns false'. Refute it at one input. -/
def serviceChecksWrong : ChangeSpec := { name := "serviceChecks", fn := fun _ => fun
  | [d] => { results := [.lit (.bool false)], args := [d] }
  | _ => none }
def ServiceChecksWrongFalsely : Prop := serviceChecksRow.holds Tryd.pinned (OpenSpec.ofChange serviceChecksWrong)

/-- 'cooperagelaw21.ServiceRight': WHATEVER THE INPUT: true; the input reads as it did. -/
def serviceRightSpec : ChangeSpec := { name := "serviceRight", fn := fun _ => fun
  | [d] => { results := [.lit (.bool true)], args := [d] }
  | _ => none }
def serviceRightRow : OpenClaim := { program := "ytifkijepedhbgaadoor", sum := "f269eea029afc3eba4a4416fdba7ce6c8296c670740f908e4212466ceed22f4a", func := "cooperage/cooperagelaw21.ServiceRight", spec := "serviceRight", unfollowed := true, recurses := true, named := ["unicode/utf8.first", "unicode/utf8.acceptRanges"], apart := false, laid := [("unicode/utf8.acceptRanges", laid_unicode_utf8_acceptRanges), ("unicode/utf8.first", laid_unicode_utf8_first)] }
def ServiceRightSaid : Prop := serviceRightRow.holds Tryd.pinned (OpenSpec.ofChange serviceRightSpec)

/-- ITS FALSE NEIGHBOUR: 'it returns false'. Refute it at one input. -/
def serviceRightWrong : ChangeSpec := { name := "serviceRight", fn := fun _ => fun
  | [d] => { results := [.lit (.bool false)], args := [d] }
  | _ => none }
def ServiceRightWrongFalsely : Prop := serviceRightRow.holds Tryd.pinned (OpenSpec.ofChange serviceRightWrong)

/-- 'cooperagelaw21.ServiceOrder': WHATEVER THE INPUT: true; the input reads as it did. -/
def serviceOrderSpec : ChangeSpec := { name := "serviceOrder", fn := fun _ => fun
  | [d] => { results := [.lit (.bool true)], args := [d] }
  | _ => none }
def serviceOrderRow : OpenClaim := { program := "ytifkijepedhbgaadoor", sum := "f269eea029afc3eba4a4416fdba7ce6c8296c670740f908e4212466ceed22f4a", func := "cooperage/cooperagelaw21.ServiceOrder", spec := "serviceOrder", unfollowed := true, recurses := true, named := ["unicode/utf8.first", "unicode/utf8.acceptRanges"], apart := false, laid := [("unicode/utf8.acceptRanges", laid_unicode_utf8_acceptRanges), ("unicode/utf8.first", laid_unicode_utf8_first)] }
def ServiceOrderSaid : Prop := serviceOrderRow.holds Tryd.pinned (OpenSpec.ofChange serviceOrderSpec)

/-- ITS FALSE NEIGHBOUR: 'it returns false'. Refute it at one input. -/
def serviceOrderWrong : ChangeSpec := { name := "serviceOrder", fn := fun _ => fun
  | [d] => { results := [.lit (.bool false)], args := [d] }
  | _ => none }
def ServiceOrderWrongFalsely : Prop := serviceOrderRow.holds Tryd.pinned (OpenSpec.ofChange serviceOrderWrong)

/-- 'cooperagelaw10.CommandBytes': WHATEVER THE INPUT: true; the input reads as it did. -/
def commandBytesSpec : ChangeSpec := { name := "commandBytes", fn := fun _ => fun
  | [d] => { results := [.lit (.bool true)], args := [d] }
  | _ => none }
def commandBytesRow : OpenClaim := { program := "ytifkijepedhbgaadoor", sum := "f269eea029afc3eba4a4416fdba7ce6c8296c670740f908e4212466ceed22f4a", func := "cooperage/cooperagelaw10.CommandBytes", spec := "commandBytes", unfollowed := true, recurses := true, named := ["unicode/utf8.first", "unicode/utf8.acceptRanges"], apart := false, laid := [("unicode/utf8.acceptRanges", laid_unicode_utf8_acceptRanges), ("unicode/utf8.first", laid_unicode_utf8_first)] }
def CommandBytesSaid : Prop := commandBytesRow.holds Tryd.pinned (OpenSpec.ofChange commandBytesSpec)

/-- ITS FALSE NEIGHBOUR: 'it returns false'. Refute it at one input. -/
def commandBytesWrong : ChangeSpec := { name := "commandBytes", fn := fun _ => fun
  | [d] => { results := [.lit (.bool false)], args := [d] }
  | _ => none }
def CommandBytesWrongFalsely : Prop := commandBytesRow.holds Tryd.pinned (OpenSpec.ofChange commandBytesWrong)

/-- 'cooperagelaw10.CommandReads': WHATEVER THE INPUT: true; the input reads as it did. -/
def commandReadsSpec : ChangeSpec := { name := "commandReads", fn := fun _ => fun
  | [d] => { results := [.lit (.bool true)], args := [d] }
  | _ => none }
def commandReadsRow : OpenClaim := { program := "ytifkijepedhbgaadoor", sum := "f269eea029afc3eba4a4416fdba7ce6c8296c670740f908e4212466ceed22f4a", func := "cooperage/cooperagelaw10.CommandReads", spec := "commandReads", unfollowed := true, recurses := true, named := ["unicode/utf8.first", "unicode/utf8.acceptRanges"], apart := false, laid := [("unicode/utf8.acceptRanges", laid_unicode_utf8_acceptRanges), ("unicode/utf8.first", laid_unicode_utf8_first)] }
def CommandReadsSaid : Prop := commandReadsRow.holds Tryd.pinned (OpenSpec.ofChange commandReadsSpec)

/-- ITS FALSE NEIGHBOUR: 'it returns false'. Refute it at one input. -/
def commandReadsWrong : ChangeSpec := { name := "commandReads", fn := fun _ => fun
  | [d] => { results := [.lit (.bool false)], args := [d] }
  | _ => none }
def CommandReadsWrongFalsely : Prop := commandReadsRow.holds Tryd.pinned (OpenSpec.ofChange commandReadsWrong)

/-- 'cooperagelaw10.CommandSame': WHATEVER THE INPUT: true; the input reads as it did. -/
def commandSameSpec : ChangeSpec := { name := "commandSame", fn := fun _ => fun
  | [d1, d2] => { results := [.lit (.bool true)], args := [d1, d2] }
  | _ => none }
def commandSameRow : OpenClaim := { program := "ytifkijepedhbgaadoor", sum := "f269eea029afc3eba4a4416fdba7ce6c8296c670740f908e4212466ceed22f4a", func := "cooperage/cooperagelaw10.CommandSame", spec := "commandSame", unfollowed := true, recurses := true, named := ["unicode/utf8.first", "unicode/utf8.acceptRanges"], apart := false, laid := [("unicode/utf8.acceptRanges", laid_unicode_utf8_acceptRanges), ("unicode/utf8.first", laid_unicode_utf8_first)] }
def CommandSameSaid : Prop := commandSameRow.holds Tryd.pinned (OpenSpec.ofChange commandSameSpec)

/-- ITS FALSE NEIGHBOUR: 'it returns false'. Refute it at one input. -/
def commandSameWrong : ChangeSpec := { name := "commandSame", fn := fun _ => fun
  | [d1, d2] => { results := [.lit (.bool false)], args := [d1, d2] }
  | _ => none }
def CommandSameWrongFalsely : Prop := commandSameRow.holds Tryd.pinned (OpenSpec.ofChange commandSameWrong)

/-- 'cooperagelaw10.CommandPlain': WHATEVER THE INPUT: true; the input reads as it did. -/
def commandPlainSpec : ChangeSpec := { name := "commandPlain", fn := fun _ => fun
  | [d1, d2] => { results := [.lit (.bool true)], args := [d1, d2] }
  | _ => none }
def commandPlainRow : OpenClaim := { program := "ytifkijepedhbgaadoor", sum := "f269eea029afc3eba4a4416fdba7ce6c8296c670740f908e4212466ceed22f4a", func := "cooperage/cooperagelaw10.CommandPlain", spec := "commandPlain", unfollowed := true, recurses := true, named := ["unicode/utf8.first", "unicode/utf8.acceptRanges"], apart := false, laid := [("unicode/utf8.acceptRanges", laid_unicode_utf8_acceptRanges), ("unicode/utf8.first", laid_unicode_utf8_first)] }
def CommandPlainSaid : Prop := commandPlainRow.holds Tryd.pinned (OpenSpec.ofChange commandPlainSpec)

/-- ITS FALSE NEIGHBOUR: 'it returns false'. Refute it at one input. -/
def commandPlainWrong : ChangeSpec := { name := "commandPlain", fn := fun _ => fun
  | [d1, d2] => { results := [.lit (.bool false)], args := [d1, d2] }
  | _ => none }
def CommandPlainWrongFalsely : Prop := commandPlainRow.holds Tryd.pinned (OpenSpec.ofChange commandPlainWrong)

/-- 'cooperagelaw19.WireBytes': WHATEVER THE INPUT: true; the input reads as it did. -/
def wireBytesSpec : ChangeSpec := { name := "wireBytes", fn := fun _ => fun
  | [d] => { results := [.lit (.bool true)], args := [d] }
  | _ => none }
def wireBytesRow : OpenClaim := { program := "ytifkijepedhbgaadoor", sum := "f269eea029afc3eba4a4416fdba7ce6c8296c670740f908e4212466ceed22f4a", func := "cooperage/cooperagelaw19.WireBytes", spec := "wireBytes", unfollowed := true, recurses := true, named := ["unicode/utf8.first", "unicode/utf8.acceptRanges"], apart := false, laid := [("unicode/utf8.acceptRanges", laid_unicode_utf8_acceptRanges), ("unicode/utf8.first", laid_unicode_utf8_first)] }
def WireBytesSaid : Prop := wireBytesRow.holds Tryd.pinned (OpenSpec.ofChange wireBytesSpec)

/-- ITS FALSE NEIGHBOUR: 'it returns false'. Refute it at one input. -/
def wireBytesWrong : ChangeSpec := { name := "wireBytes", fn := fun _ => fun
  | [d] => { results := [.lit (.bool false)], args := [d] }
  | _ => none }
def WireBytesWrongFalsely : Prop := wireBytesRow.holds Tryd.pinned (OpenSpec.ofChange wireBytesWrong)

/-- 'cooperagelaw19.WireTorn': WHATEVER THE INPUT: true; the input reads as it did. -/
def wireTornSpec : ChangeSpec := { name := "wireTorn", fn := fun _ => fun
  | [d1, d2, d3, d4] => { results := [.lit (.bool true)], args := [d1, d2, d3, d4] }
  | _ => none }
def wireTornRow : OpenClaim := { program := "ytifkijepedhbgaadoor", sum := "f269eea029afc3eba4a4416fdba7ce6c8296c670740f908e4212466ceed22f4a", func := "cooperage/cooperagelaw19.WireTorn", spec := "wireTorn", unfollowed := true, recurses := true, named := ["unicode/utf8.first", "unicode/utf8.acceptRanges"], apart := false, laid := [("unicode/utf8.acceptRanges", laid_unicode_utf8_acceptRanges), ("unicode/utf8.first", laid_unicode_utf8_first)] }
def WireTornSaid : Prop := wireTornRow.holds Tryd.pinned (OpenSpec.ofChange wireTornSpec)

/-- ITS FALSE NEIGHBOUR: 'it returns false'. Refute it at one input. -/
def wireTornWrong : ChangeSpec := { name := "wireTorn", fn := fun _ => fun
  | [d1, d2, d3, d4] => { results := [.lit (.bool false)], args := [d1, d2, d3, d4] }
  | _ => none }
def WireTornWrongFalsely : Prop := wireTornRow.holds Tryd.pinned (OpenSpec.ofChange wireTornWrong)

/-- 'cooperagelaw19.WireReads': WHATEVER THE INPUT: true; the input reads as it did. -/
def wireReadsSpec : ChangeSpec := { name := "wireReads", fn := fun _ => fun
  | [d] => { results := [.lit (.bool true)], args := [d] }
  | _ => none }
def wireReadsRow : OpenClaim := { program := "ytifkijepedhbgaadoor", sum := "f269eea029afc3eba4a4416fdba7ce6c8296c670740f908e4212466ceed22f4a", func := "cooperage/cooperagelaw19.WireReads", spec := "wireReads", unfollowed := true, recurses := true, named := ["unicode/utf8.first", "unicode/utf8.acceptRanges"], apart := false, laid := [("unicode/utf8.acceptRanges", laid_unicode_utf8_acceptRanges), ("unicode/utf8.first", laid_unicode_utf8_first)] }
def WireReadsSaid : Prop := wireReadsRow.holds Tryd.pinned (OpenSpec.ofChange wireReadsSpec)

/-- ITS FALSE NEIGHBOUR: 'it returns false'. Refute it at one input. -/
def wireReadsWrong : ChangeSpec := { name := "wireReads", fn := fun _ => fun
  | [d] => { results := [.lit (.bool false)], args := [d] }
  | _ => none }
def WireReadsWrongFalsely : Prop := wireReadsRow.holds Tryd.pinned (OpenSpec.ofChange wireReadsWrong)

/-- 'cooperagelaw19.WireSame': WHATEVER THE INPUT: true; the input reads as it did. -/
def wireSameSpec : ChangeSpec := { name := "wireSame", fn := fun _ => fun
  | [d1, d2] => { results := [.lit (.bool true)], args := [d1, d2] }
  | _ => none }
def wireSameRow : OpenClaim := { program := "ytifkijepedhbgaadoor", sum := "f269eea029afc3eba4a4416fdba7ce6c8296c670740f908e4212466ceed22f4a", func := "cooperage/cooperagelaw19.WireSame", spec := "wireSame", unfollowed := true, recurses := true, named := ["unicode/utf8.first", "unicode/utf8.acceptRanges"], apart := false, laid := [("unicode/utf8.acceptRanges", laid_unicode_utf8_acceptRanges), ("unicode/utf8.first", laid_unicode_utf8_first)] }
def WireSameSaid : Prop := wireSameRow.holds Tryd.pinned (OpenSpec.ofChange wireSameSpec)

/-- ITS FALSE NEIGHBOUR: 'it returns false'. Refute it at one input. -/
def wireSameWrong : ChangeSpec := { name := "wireSame", fn := fun _ => fun
  | [d1, d2] => { results := [.lit (.bool false)], args := [d1, d2] }
  | _ => none }
def WireSameWrongFalsely : Prop := wireSameRow.holds Tryd.pinned (OpenSpec.ofChange wireSameWrong)

/- THE SECOND FORM. 'bulk': how many values and letters a reading holds, each counted each time it is reached (what is shared counts as often as it is met; a slice's spare places count too). A statement '..UptoSaid' is the law's where the arguments, and the package variables that the reading takes, are together of bulk at most 1048576: NARROWER than '..Said'. Prove '..Said' where nothing that the law and all that it calls make is longer than what came in: it says more and counts as full. Else prove '..UptoSaid'. A law counts once. -/
mutual
def uptoBulk {H : Type} : DataW H → Nat
  | .lit (.string bytes) => bytes.length + 1
  | .lit _ => 1
  | .nil => 1
  | .ptr d => uptoBulk d + 1
  | .slice elems spare => uptoBulkAll elems + uptoBulkAll spare + 1
  | .agg parts => uptoBulkAll parts + 1
  | .iface _ d => uptoBulk d + 1
  | .map entries => uptoBulkEntries entries + 1
  | .held _ => 1
def uptoBulkAll {H : Type} : List (DataW H) → Nat
  | [] => 0
  | d :: r => uptoBulk d + uptoBulkAll r
def uptoBulkEntries {H : Type} : List (Lit × DataW H) → Nat
  | [] => 0
  | x :: r => uptoBulkEntry x + uptoBulkEntries r
def uptoBulkEntry {H : Type} : Lit × DataW H → Nat
  | (.string bytes, d) => bytes.length + uptoBulk d + 1
  | (_, d) => uptoBulk d + 1
 end
def uptoSmall : (H : Type) → List (DataW H) → Bool := fun _ ds => decide (uptoBulkAll ds ≤ 1048576)
def OpenSpec.upto (s : _root_.Go.ChangeSpec) : _root_.Go.OpenSpec := { _root_.Go.OpenSpec.ofChange s with cond := some uptoSmall }

/-- 'cooperagelaw21.ServiceChecks', WHERE WHAT IT READS IS OF BULK AT MOST 1048576: true; the input reads as it did. -/
def serviceChecksUptoRow : OpenClaim := { program := "ytifkijepedhbgaadoor", sum := "f269eea029afc3eba4a4416fdba7ce6c8296c670740f908e4212466ceed22f4a", func := "cooperage/cooperagelaw21.ServiceChecks", spec := "serviceChecks", unfollowed := true, recurses := true, named := ["unicode/utf8.first", "unicode/utf8.acceptRanges"], apart := false, laid := [("unicode/utf8.acceptRanges", laid_unicode_utf8_acceptRanges), ("unicode/utf8.first", laid_unicode_utf8_first)], narrowed := true }
def ServiceChecksUptoSaid : Prop := serviceChecksUptoRow.holds Tryd.pinned (OpenSpec.upto serviceChecksSpec)

/-- 'cooperagelaw21.ServiceRight', WHERE WHAT IT READS IS OF BULK AT MOST 1048576: true; the input reads as it did. -/
def serviceRightUptoRow : OpenClaim := { program := "ytifkijepedhbgaadoor", sum := "f269eea029afc3eba4a4416fdba7ce6c8296c670740f908e4212466ceed22f4a", func := "cooperage/cooperagelaw21.ServiceRight", spec := "serviceRight", unfollowed := true, recurses := true, named := ["unicode/utf8.first", "unicode/utf8.acceptRanges"], apart := false, laid := [("unicode/utf8.acceptRanges", laid_unicode_utf8_acceptRanges), ("unicode/utf8.first", laid_unicode_utf8_first)], narrowed := true }
def ServiceRightUptoSaid : Prop := serviceRightUptoRow.holds Tryd.pinned (OpenSpec.upto serviceRightSpec)

/-- 'cooperagelaw21.ServiceOrder', WHERE WHAT IT READS IS OF BULK AT MOST 1048576: true; the input reads as it did. -/
def serviceOrderUptoRow : OpenClaim := { program := "ytifkijepedhbgaadoor", sum := "f269eea029afc3eba4a4416fdba7ce6c8296c670740f908e4212466ceed22f4a", func := "cooperage/cooperagelaw21.ServiceOrder", spec := "serviceOrder", unfollowed := true, recurses := true, named := ["unicode/utf8.first", "unicode/utf8.acceptRanges"], apart := false, laid := [("unicode/utf8.acceptRanges", laid_unicode_utf8_acceptRanges), ("unicode/utf8.first", laid_unicode_utf8_first)], narrowed := true }
def ServiceOrderUptoSaid : Prop := serviceOrderUptoRow.holds Tryd.pinned (OpenSpec.upto serviceOrderSpec)

/-- 'cooperagelaw10.CommandBytes', WHERE WHAT IT READS IS OF BULK AT MOST 1048576: true; the input reads as it did. -/
def commandBytesUptoRow : OpenClaim := { program := "ytifkijepedhbgaadoor", sum := "f269eea029afc3eba4a4416fdba7ce6c8296c670740f908e4212466ceed22f4a", func := "cooperage/cooperagelaw10.CommandBytes", spec := "commandBytes", unfollowed := true, recurses := true, named := ["unicode/utf8.first", "unicode/utf8.acceptRanges"], apart := false, laid := [("unicode/utf8.acceptRanges", laid_unicode_utf8_acceptRanges), ("unicode/utf8.first", laid_unicode_utf8_first)], narrowed := true }
def CommandBytesUptoSaid : Prop := commandBytesUptoRow.holds Tryd.pinned (OpenSpec.upto commandBytesSpec)

/-- 'cooperagelaw10.CommandReads', WHERE WHAT IT READS IS OF BULK AT MOST 1048576: true; the input reads as it did. -/
def commandReadsUptoRow : OpenClaim := { program := "ytifkijepedhbgaadoor", sum := "f269eea029afc3eba4a4416fdba7ce6c8296c670740f908e4212466ceed22f4a", func := "cooperage/cooperagelaw10.CommandReads", spec := "commandReads", unfollowed := true, recurses := true, named := ["unicode/utf8.first", "unicode/utf8.acceptRanges"], apart := false, laid := [("unicode/utf8.acceptRanges", laid_unicode_utf8_acceptRanges), ("unicode/utf8.first", laid_unicode_utf8_first)], narrowed := true }
def CommandReadsUptoSaid : Prop := commandReadsUptoRow.holds Tryd.pinned (OpenSpec.upto commandReadsSpec)

/-- 'cooperagelaw10.CommandSame', WHERE WHAT IT READS IS OF BULK AT MOST 1048576: true; the input reads as it did. -/
def commandSameUptoRow : OpenClaim := { program := "ytifkijepedhbgaadoor", sum := "f269eea029afc3eba4a4416fdba7ce6c8296c670740f908e4212466ceed22f4a", func := "cooperage/cooperagelaw10.CommandSame", spec := "commandSame", unfollowed := true, recurses := true, named := ["unicode/utf8.first", "unicode/utf8.acceptRanges"], apart := false, laid := [("unicode/utf8.acceptRanges", laid_unicode_utf8_acceptRanges), ("unicode/utf8.first", laid_unicode_utf8_first)], narrowed := true }
def CommandSameUptoSaid : Prop := commandSameUptoRow.holds Tryd.pinned (OpenSpec.upto commandSameSpec)

/-- 'cooperagelaw10.CommandPlain', WHERE WHAT IT READS IS OF BULK AT MOST 1048576: true; the input reads as it did. -/
def commandPlainUptoRow : OpenClaim := { program := "ytifkijepedhbgaadoor", sum := "f269eea029afc3eba4a4416fdba7ce6c8296c670740f908e4212466ceed22f4a", func := "cooperage/cooperagelaw10.CommandPlain", spec := "commandPlain", unfollowed := true, recurses := true, named := ["unicode/utf8.first", "unicode/utf8.acceptRanges"], apart := false, laid := [("unicode/utf8.acceptRanges", laid_unicode_utf8_acceptRanges), ("unicode/utf8.first", laid_unicode_utf8_first)], narrowed := true }
def CommandPlainUptoSaid : Prop := commandPlainUptoRow.holds Tryd.pinned (OpenSpec.upto commandPlainSpec)

/-- 'cooperagelaw19.WireBytes', WHERE WHAT IT READS IS OF BULK AT MOST 1048576: true; the input reads as it did. -/
def wireBytesUptoRow : OpenClaim := { program := "ytifkijepedhbgaadoor", sum := "f269eea029afc3eba4a4416fdba7ce6c8296c670740f908e4212466ceed22f4a", func := "cooperage/cooperagelaw19.WireBytes", spec := "wireBytes", unfollowed := true, recurses := true, named := ["unicode/utf8.first", "unicode/utf8.acceptRanges"], apart := false, laid := [("unicode/utf8.acceptRanges", laid_unicode_utf8_acceptRanges), ("unicode/utf8.first", laid_unicode_utf8_first)], narrowed := true }
def WireBytesUptoSaid : Prop := wireBytesUptoRow.holds Tryd.pinned (OpenSpec.upto wireBytesSpec)

/-- 'cooperagelaw19.WireTorn', WHERE WHAT IT READS IS OF BULK AT MOST 1048576: true; the input reads as it did. -/
def wireTornUptoRow : OpenClaim := { program := "ytifkijepedhbgaadoor", sum := "f269eea029afc3eba4a4416fdba7ce6c8296c670740f908e4212466ceed22f4a", func := "cooperage/cooperagelaw19.WireTorn", spec := "wireTorn", unfollowed := true, recurses := true, named := ["unicode/utf8.first", "unicode/utf8.acceptRanges"], apart := false, laid := [("unicode/utf8.acceptRanges", laid_unicode_utf8_acceptRanges), ("unicode/utf8.first", laid_unicode_utf8_first)], narrowed := true }
def WireTornUptoSaid : Prop := wireTornUptoRow.holds Tryd.pinned (OpenSpec.upto wireTornSpec)

/-- 'cooperagelaw19.WireReads', WHERE WHAT IT READS IS OF BULK AT MOST 1048576: true; the input reads as it did. -/
def wireReadsUptoRow : OpenClaim := { program := "ytifkijepedhbgaadoor", sum := "f269eea029afc3eba4a4416fdba7ce6c8296c670740f908e4212466ceed22f4a", func := "cooperage/cooperagelaw19.WireReads", spec := "wireReads", unfollowed := true, recurses := true, named := ["unicode/utf8.first", "unicode/utf8.acceptRanges"], apart := false, laid := [("unicode/utf8.acceptRanges", laid_unicode_utf8_acceptRanges), ("unicode/utf8.first", laid_unicode_utf8_first)], narrowed := true }
def WireReadsUptoSaid : Prop := wireReadsUptoRow.holds Tryd.pinned (OpenSpec.upto wireReadsSpec)

/-- 'cooperagelaw19.WireSame', WHERE WHAT IT READS IS OF BULK AT MOST 1048576: true; the input reads as it did. -/
def wireSameUptoRow : OpenClaim := { program := "ytifkijepedhbgaadoor", sum := "f269eea029afc3eba4a4416fdba7ce6c8296c670740f908e4212466ceed22f4a", func := "cooperage/cooperagelaw19.WireSame", spec := "wireSame", unfollowed := true, recurses := true, named := ["unicode/utf8.first", "unicode/utf8.acceptRanges"], apart := false, laid := [("unicode/utf8.acceptRanges", laid_unicode_utf8_acceptRanges), ("unicode/utf8.first", laid_unicode_utf8_first)], narrowed := true }
def WireSameUptoSaid : Prop := wireSameUptoRow.holds Tryd.pinned (OpenSpec.upto wireSameSpec)

end Rows
end Go.Proofs.YtifkijepedhbgaaDoor
