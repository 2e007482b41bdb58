/-
  NARROWER THAN 'FOR EVERY INPUT', by the rows' own cells (each row's printed sentence says how): NamesLong: laid · NamesTell: laid · NamesCut: laid · NamesSigns: laid · GroupsMany: laid · GroupsPlay: laid.
  DERIVED. THE GIVEN ROWS OF THIS SEAT. 6 by the template 'for every input the law returns true; each argument reads behind the call as it read before'; 0 by the template 'total and deterministic' (their statements: YtpkjlefincabiaaDoorTotals.lean).
  GIVEN WITH THE SEED: the statements are not yours to turn. If you find one false, say at which input.
  Laid BY PROGRAM, IN A SANDBOX (cutbox-rows.mjs): the forced cells as the released guide's own fill.sh prints them over the translation 7fa41a3a996201e5… (all of the seat's roots in one cut). By AI agents, Wed Nov 11 2026. No macro, syntax, notation, axiom, sorry.
-/
import Derived.Test.YtpkjlefincabiaaDoorChecked
import GoSem.PinnedTables
import GoSem.Claim
import GoSem.ClaimJoined
import GoSem.ClaimMapViews
import Derived.JoinedTies
import Derived.KernelRfl
namespace Go.Proofs.YtpkjlefincabiaaDoor
/- THE CELL 'sum', in the pinned program and in every row, IS THE sha256 OF THE DUMP (.gsa) THAT YtpkjlefincabiaaDoorProg.lean LOADS. Nothing in Lean hashes anything: it is a label: what it is worth is what the hold of that sum in a sandbox is worth. -/
noncomputable def Tryd.pinned : Pinned := { name := "ytpkjlefincabiaadoor", sum := "7fa41a3a996201e579da2bd558887ea2c85ca55c66c16d2818e49f9743da7504", checked := Tryd.checked }
namespace Rows
def none {H : Type} : Left H := { results := [], args := [] }

/- WHAT THE LISTED PACKAGE-LEVEL VARIABLES READ AS WHEN THE CALL BEGINS. Each datum BY PROGRAM (the guide's laid-datum.mjs) off the statement by which the dump's own 'gosem.cut.vars' lays the variable. In a bare row this is a premise. The card (YtpkjlefincabiaaDoorCards.lean) ties it to the program's text. -/
def laid_unicode_utf8_acceptRanges {H : Type} : DataW H := .agg [.agg [.lit (.int .u8 128), .lit (.int .u8 191)], .agg [.lit (.int .u8 160), .lit (.int .u8 191)], .agg [.lit (.int .u8 128), .lit (.int .u8 159)], .agg [.lit (.int .u8 144), .lit (.int .u8 191)], .agg [.lit (.int .u8 128), .lit (.int .u8 143)], .agg [.lit (.int .u8 0), .lit (.int .u8 0)], .agg [.lit (.int .u8 0), .lit (.int .u8 0)], .agg [.lit (.int .u8 0), .lit (.int .u8 0)], .agg [.lit (.int .u8 0), .lit (.int .u8 0)], .agg [.lit (.int .u8 0), .lit (.int .u8 0)], .agg [.lit (.int .u8 0), .lit (.int .u8 0)], .agg [.lit (.int .u8 0), .lit (.int .u8 0)], .agg [.lit (.int .u8 0), .lit (.int .u8 0)], .agg [.lit (.int .u8 0), .lit (.int .u8 0)], .agg [.lit (.int .u8 0), .lit (.int .u8 0)], .agg [.lit (.int .u8 0), .lit (.int .u8 0)]]
/-- One of Go's own tables, pinned by name: the form's constant. -/
def laid_unicode_utf8_first : DataW Unit := Go.Pinned.utf8First

/-- 'cooperagelaw3.NamesLong': WHATEVER THE INPUT: true; the input reads as it did. -/
def namesLongSpec : ChangeSpec := { name := "namesLong", fn := fun _ => fun
  | [d1, d2] => { results := [.lit (.bool true)], args := [d1, d2] }
  | _ => none }
def namesLongRow : OpenClaim := { program := "ytpkjlefincabiaadoor", sum := "7fa41a3a996201e579da2bd558887ea2c85ca55c66c16d2818e49f9743da7504", func := "cooperage/cooperagelaw3.NamesLong", spec := "namesLong", named := ["unicode/utf8.first", "unicode/utf8.acceptRanges"], apart := false, laid := [("unicode/utf8.acceptRanges", laid_unicode_utf8_acceptRanges), ("unicode/utf8.first", laid_unicode_utf8_first)] }
def NamesLongSaid : Prop := namesLongRow.holds Tryd.pinned (OpenSpec.ofChange namesLongSpec)

/-- ITS FALSE NEIGHBOUR: 'it returns false'. Refute it at one input. -/
def namesLongWrong : ChangeSpec := { name := "namesLong", fn := fun _ => fun
  | [d1, d2] => { results := [.lit (.bool false)], args := [d1, d2] }
  | _ => none }
def NamesLongWrongFalsely : Prop := namesLongRow.holds Tryd.pinned (OpenSpec.ofChange namesLongWrong)

/-- 'cooperagelaw3.NamesTell': WHATEVER THE INPUT: true; the input reads as it did. -/
def namesTellSpec : ChangeSpec := { name := "namesTell", fn := fun _ => fun
  | [d1, d2] => { results := [.lit (.bool true)], args := [d1, d2] }
  | _ => none }
def namesTellRow : OpenClaim := { program := "ytpkjlefincabiaadoor", sum := "7fa41a3a996201e579da2bd558887ea2c85ca55c66c16d2818e49f9743da7504", func := "cooperage/cooperagelaw3.NamesTell", spec := "namesTell", named := ["unicode/utf8.first", "unicode/utf8.acceptRanges"], apart := false, laid := [("unicode/utf8.acceptRanges", laid_unicode_utf8_acceptRanges), ("unicode/utf8.first", laid_unicode_utf8_first)] }
def NamesTellSaid : Prop := namesTellRow.holds Tryd.pinned (OpenSpec.ofChange namesTellSpec)

/-- ITS FALSE NEIGHBOUR: 'it returns false'. Refute it at one input. -/
def namesTellWrong : ChangeSpec := { name := "namesTell", fn := fun _ => fun
  | [d1, d2] => { results := [.lit (.bool false)], args := [d1, d2] }
  | _ => none }
def NamesTellWrongFalsely : Prop := namesTellRow.holds Tryd.pinned (OpenSpec.ofChange namesTellWrong)

/-- 'cooperagelaw3.NamesCut': WHATEVER THE INPUT: true; the input reads as it did. -/
def namesCutSpec : ChangeSpec := { name := "namesCut", fn := fun _ => fun
  | [d1, d2] => { results := [.lit (.bool true)], args := [d1, d2] }
  | _ => none }
def namesCutRow : OpenClaim := { program := "ytpkjlefincabiaadoor", sum := "7fa41a3a996201e579da2bd558887ea2c85ca55c66c16d2818e49f9743da7504", func := "cooperage/cooperagelaw3.NamesCut", spec := "namesCut", named := ["unicode/utf8.first", "unicode/utf8.acceptRanges"], apart := false, laid := [("unicode/utf8.acceptRanges", laid_unicode_utf8_acceptRanges), ("unicode/utf8.first", laid_unicode_utf8_first)] }
def NamesCutSaid : Prop := namesCutRow.holds Tryd.pinned (OpenSpec.ofChange namesCutSpec)

/-- ITS FALSE NEIGHBOUR: 'it returns false'. Refute it at one input. -/
def namesCutWrong : ChangeSpec := { name := "namesCut", fn := fun _ => fun
  | [d1, d2] => { results := [.lit (.bool false)], args := [d1, d2] }
  | _ => none }
def NamesCutWrongFalsely : Prop := namesCutRow.holds Tryd.pinned (OpenSpec.ofChange namesCutWrong)

/-- 'cooperagelaw3.NamesSigns': WHATEVER THE INPUT: true; the input reads as it did. -/
def namesSignsSpec : ChangeSpec := { name := "namesSigns", fn := fun _ => fun
  | [d] => { results := [.lit (.bool true)], args := [d] }
  | _ => none }
def namesSignsRow : OpenClaim := { program := "ytpkjlefincabiaadoor", sum := "7fa41a3a996201e579da2bd558887ea2c85ca55c66c16d2818e49f9743da7504", func := "cooperage/cooperagelaw3.NamesSigns", spec := "namesSigns", named := ["unicode/utf8.first", "unicode/utf8.acceptRanges"], apart := false, laid := [("unicode/utf8.acceptRanges", laid_unicode_utf8_acceptRanges), ("unicode/utf8.first", laid_unicode_utf8_first)] }
def NamesSignsSaid : Prop := namesSignsRow.holds Tryd.pinned (OpenSpec.ofChange namesSignsSpec)

/-- ITS FALSE NEIGHBOUR: 'it returns false'. Refute it at one input. -/
def namesSignsWrong : ChangeSpec := { name := "namesSigns", fn := fun _ => fun
  | [d] => { results := [.lit (.bool false)], args := [d] }
  | _ => none }
def NamesSignsWrongFalsely : Prop := namesSignsRow.holds Tryd.pinned (OpenSpec.ofChange namesSignsWrong)

/-- 'cooperagelaw12.GroupsMany': WHATEVER THE INPUT: true; the input reads as it did. -/
def groupsManySpec : ChangeSpec := { name := "groupsMany", fn := fun _ => fun
  | [d1, d2] => { results := [.lit (.bool true)], args := [d1, d2] }
  | _ => none }
def groupsManyRow : OpenClaim := { program := "ytpkjlefincabiaadoor", sum := "7fa41a3a996201e579da2bd558887ea2c85ca55c66c16d2818e49f9743da7504", func := "cooperage/cooperagelaw12.GroupsMany", spec := "groupsMany", inPlace := ["internal/bytealg.abigen_runtime_cmpstring", "slices.overlaps[cooperage/groups.Row]"], unfollowed := true, recurses := true, named := ["unicode/utf8.first", "unicode/utf8.acceptRanges"], apart := false, laid := [("unicode/utf8.acceptRanges", laid_unicode_utf8_acceptRanges), ("unicode/utf8.first", laid_unicode_utf8_first)] }
def GroupsManySaid : Prop := groupsManyRow.holds Tryd.pinned (OpenSpec.ofChange groupsManySpec)

/-- ITS FALSE NEIGHBOUR: 'it returns false'. Refute it at one input. -/
def groupsManyWrong : ChangeSpec := { name := "groupsMany", fn := fun _ => fun
  | [d1, d2] => { results := [.lit (.bool false)], args := [d1, d2] }
  | _ => none }
def GroupsManyWrongFalsely : Prop := groupsManyRow.holds Tryd.pinned (OpenSpec.ofChange groupsManyWrong)

/-- 'cooperagelaw12.GroupsPlay': WHATEVER THE INPUT: true; the input reads as it did. -/
def groupsPlaySpec : ChangeSpec := { name := "groupsPlay", fn := fun _ => fun
  | [d] => { results := [.lit (.bool true)], args := [d] }
  | _ => none }
def groupsPlayRow : OpenClaim := { program := "ytpkjlefincabiaadoor", sum := "7fa41a3a996201e579da2bd558887ea2c85ca55c66c16d2818e49f9743da7504", func := "cooperage/cooperagelaw12.GroupsPlay", spec := "groupsPlay", inPlace := ["internal/bytealg.abigen_runtime_cmpstring", "slices.overlaps[cooperage/groups.Row]"], unfollowed := true, recurses := true, named := ["unicode/utf8.first", "unicode/utf8.acceptRanges"], apart := false, laid := [("unicode/utf8.acceptRanges", laid_unicode_utf8_acceptRanges), ("unicode/utf8.first", laid_unicode_utf8_first)] }
def GroupsPlaySaid : Prop := groupsPlayRow.holds Tryd.pinned (OpenSpec.ofChange groupsPlaySpec)

/-- ITS FALSE NEIGHBOUR: 'it returns false'. Refute it at one input. -/
def groupsPlayWrong : ChangeSpec := { name := "groupsPlay", fn := fun _ => fun
  | [d] => { results := [.lit (.bool false)], args := [d] }
  | _ => none }
def GroupsPlayWrongFalsely : Prop := groupsPlayRow.holds Tryd.pinned (OpenSpec.ofChange groupsPlayWrong)

/- THE SECOND FORM. 'bulk': how many values and letters a reading holds, each counted each time it is reached (what is shared counts as often as it is met; a slice's spare places count too). A statement '..UptoSaid' is the law's where the arguments, and the package variables that the reading takes, are together of bulk at most 1048576: NARROWER than '..Said'. Prove '..Said' where nothing that the law and all that it calls make is longer than what came in: it says more and counts as full. Else prove '..UptoSaid'. A law counts once. -/
mutual
def uptoBulk {H : Type} : DataW H → Nat
  | .lit (.string bytes) => bytes.length + 1
  | .lit _ => 1
  | .nil => 1
  | .ptr d => uptoBulk d + 1
  | .slice elems spare => uptoBulkAll elems + uptoBulkAll spare + 1
  | .agg parts => uptoBulkAll parts + 1
  | .iface _ d => uptoBulk d + 1
  | .map entries => uptoBulkEntries entries + 1
  | .held _ => 1
def uptoBulkAll {H : Type} : List (DataW H) → Nat
  | [] => 0
  | d :: r => uptoBulk d + uptoBulkAll r
def uptoBulkEntries {H : Type} : List (Lit × DataW H) → Nat
  | [] => 0
  | x :: r => uptoBulkEntry x + uptoBulkEntries r
def uptoBulkEntry {H : Type} : Lit × DataW H → Nat
  | (.string bytes, d) => bytes.length + uptoBulk d + 1
  | (_, d) => uptoBulk d + 1
 end
def uptoSmall : (H : Type) → List (DataW H) → Bool := fun _ ds => decide (uptoBulkAll ds ≤ 1048576)
def OpenSpec.upto (s : _root_.Go.ChangeSpec) : _root_.Go.OpenSpec := { _root_.Go.OpenSpec.ofChange s with cond := some uptoSmall }

/-- 'cooperagelaw3.NamesLong', WHERE WHAT IT READS IS OF BULK AT MOST 1048576: true; the input reads as it did. -/
def namesLongUptoRow : OpenClaim := { program := "ytpkjlefincabiaadoor", sum := "7fa41a3a996201e579da2bd558887ea2c85ca55c66c16d2818e49f9743da7504", func := "cooperage/cooperagelaw3.NamesLong", spec := "namesLong", named := ["unicode/utf8.first", "unicode/utf8.acceptRanges"], apart := false, laid := [("unicode/utf8.acceptRanges", laid_unicode_utf8_acceptRanges), ("unicode/utf8.first", laid_unicode_utf8_first)], narrowed := true }
def NamesLongUptoSaid : Prop := namesLongUptoRow.holds Tryd.pinned (OpenSpec.upto namesLongSpec)

/-- 'cooperagelaw3.NamesTell', WHERE WHAT IT READS IS OF BULK AT MOST 1048576: true; the input reads as it did. -/
def namesTellUptoRow : OpenClaim := { program := "ytpkjlefincabiaadoor", sum := "7fa41a3a996201e579da2bd558887ea2c85ca55c66c16d2818e49f9743da7504", func := "cooperage/cooperagelaw3.NamesTell", spec := "namesTell", named := ["unicode/utf8.first", "unicode/utf8.acceptRanges"], apart := false, laid := [("unicode/utf8.acceptRanges", laid_unicode_utf8_acceptRanges), ("unicode/utf8.first", laid_unicode_utf8_first)], narrowed := true }
def NamesTellUptoSaid : Prop := namesTellUptoRow.holds Tryd.pinned (OpenSpec.upto namesTellSpec)

/-- 'cooperagelaw3.NamesCut', WHERE WHAT IT READS IS OF BULK AT MOST 1048576: true; the input reads as it did. -/
def namesCutUptoRow : OpenClaim := { program := "ytpkjlefincabiaadoor", sum := "7fa41a3a996201e579da2bd558887ea2c85ca55c66c16d2818e49f9743da7504", func := "cooperage/cooperagelaw3.NamesCut", spec := "namesCut", named := ["unicode/utf8.first", "unicode/utf8.acceptRanges"], apart := false, laid := [("unicode/utf8.acceptRanges", laid_unicode_utf8_acceptRanges), ("unicode/utf8.first", laid_unicode_utf8_first)], narrowed := true }
def NamesCutUptoSaid : Prop := namesCutUptoRow.holds Tryd.pinned (OpenSpec.upto namesCutSpec)

/-- 'cooperagelaw3.NamesSigns', WHERE WHAT IT READS IS OF BULK AT MOST 1048576: true; the input reads as it did. -/
def namesSignsUptoRow : OpenClaim := { program := "ytpkjlefincabiaadoor", sum := "7fa41a3a996201e579da2bd558887ea2c85ca55c66c16d2818e49f9743da7504", func := "cooperage/cooperagelaw3.NamesSigns", spec := "namesSigns", named := ["unicode/utf8.first", "unicode/utf8.acceptRanges"], apart := false, laid := [("unicode/utf8.acceptRanges", laid_unicode_utf8_acceptRanges), ("unicode/utf8.first", laid_unicode_utf8_first)], narrowed := true }
def NamesSignsUptoSaid : Prop := namesSignsUptoRow.holds Tryd.pinned (OpenSpec.upto namesSignsSpec)

/-- 'cooperagelaw12.GroupsMany', WHERE WHAT IT READS IS OF BULK AT MOST 1048576: true; the input reads as it did. -/
def groupsManyUptoRow : OpenClaim := { program := "ytpkjlefincabiaadoor", sum := "7fa41a3a996201e579da2bd558887ea2c85ca55c66c16d2818e49f9743da7504", func := "cooperage/cooperagelaw12.GroupsMany", spec := "groupsMany", inPlace := ["internal/bytealg.abigen_runtime_cmpstring", "slices.overlaps[cooperage/groups.Row]"], unfollowed := true, recurses := true, named := ["unicode/utf8.first", "unicode/utf8.acceptRanges"], apart := false, laid := [("unicode/utf8.acceptRanges", laid_unicode_utf8_acceptRanges), ("unicode/utf8.first", laid_unicode_utf8_first)], narrowed := true }
def GroupsManyUptoSaid : Prop := groupsManyUptoRow.holds Tryd.pinned (OpenSpec.upto groupsManySpec)

/-- 'cooperagelaw12.GroupsPlay', WHERE WHAT IT READS IS OF BULK AT MOST 1048576: true; the input reads as it did. -/
def groupsPlayUptoRow : OpenClaim := { program := "ytpkjlefincabiaadoor", sum := "7fa41a3a996201e579da2bd558887ea2c85ca55c66c16d2818e49f9743da7504", func := "cooperage/cooperagelaw12.GroupsPlay", spec := "groupsPlay", inPlace := ["internal/bytealg.abigen_runtime_cmpstring", "slices.overlaps[cooperage/groups.Row]"], unfollowed := true, recurses := true, named := ["unicode/utf8.first", "unicode/utf8.acceptRanges"], apart := false, laid := [("unicode/utf8.acceptRanges", laid_unicode_utf8_acceptRanges), ("unicode/utf8.first", laid_unicode_utf8_first)], narrowed := true }
def GroupsPlayUptoSaid : Prop := groupsPlayUptoRow.holds Tryd.pinned (OpenSpec.upto groupsPlaySpec)

end Rows
end Go.Proofs.YtpkjlefincabiaaDoor
