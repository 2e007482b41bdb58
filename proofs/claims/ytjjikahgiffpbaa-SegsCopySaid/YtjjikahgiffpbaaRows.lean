/-
  No cell of these rows narrows 'for every input' (looked for: loops, veiled, ifaces, maps, wideKeys, modest, calm, conditions, laid).
  DERIVED. THE GIVEN ROWS OF THIS SEAT. 8 by the template 'for every input the law returns true; each argument reads behind the call as it read before'; 0 by the template 'total and deterministic' (their statements: YtjjikahgiffpbaaTotals.lean).
  GIVEN WITH THE SEED: the statements are not yours to turn. If you find one false, say at which input.
  Laid BY PROGRAM, IN A SANDBOX (cutbox-rows.mjs): the forced cells as the released guide's own fill.sh prints them over the translation 61b9a43e22e3c629… (all of the seat's roots in one cut). By AI agents, Wed Nov 11 2026. No macro, syntax, notation, axiom, sorry.
-/
import Derived.Test.YtjjikahgiffpbaaChecked
import GoSem.Claim
import GoSem.ClaimJoined
import GoSem.ClaimMapViews
import Derived.JoinedTies
import Derived.KernelRfl
namespace Go.Proofs.Ytjjikahgiffpbaa
/- THE CELL 'sum', in the pinned program and in every row, IS THE sha256 OF THE DUMP (.gsa) THAT YtjjikahgiffpbaaProg.lean LOADS. Nothing in Lean hashes anything: it is a label: what it is worth is what the hold of that sum in a sandbox is worth. -/
noncomputable def Try.pinned : Pinned := { name := "ytjjikahgiffpbaa", sum := "61b9a43e22e3c62978c862f0bd5ae3222e09c8a5cd2d368fd185e954c91a6600", checked := Try.checked }
namespace Rows
def none {H : Type} : Left H := { results := [], args := [] }

/-- 'cooperagelaw15.SegsSeals': WHATEVER THE INPUT: true; the input reads as it did. -/
def segsSealsSpec : ChangeSpec := { name := "segsSeals", fn := fun _ => fun
  | [d1, d2, d3] => { results := [.lit (.bool true)], args := [d1, d2, d3] }
  | _ => none }
def segsSealsRow : OpenClaim := { program := "ytjjikahgiffpbaa", sum := "61b9a43e22e3c62978c862f0bd5ae3222e09c8a5cd2d368fd185e954c91a6600", func := "cooperage/cooperagelaw15.SegsSeals", spec := "segsSeals", apart := false }
def SegsSealsSaid : Prop := segsSealsRow.holds Try.pinned (OpenSpec.ofChange segsSealsSpec)

/-- ITS FALSE NEIGHBOUR: 'it returns false'. Refute it at one input. -/
def segsSealsWrong : ChangeSpec := { name := "segsSeals", fn := fun _ => fun
  | [d1, d2, d3] => { results := [.lit (.bool false)], args := [d1, d2, d3] }
  | _ => none }
def SegsSealsWrongFalsely : Prop := segsSealsRow.holds Try.pinned (OpenSpec.ofChange segsSealsWrong)

/-- 'cooperagelaw15.SegsOf': WHATEVER THE INPUT: true; the input reads as it did. -/
def segsOfSpec : ChangeSpec := { name := "segsOf", fn := fun _ => fun
  | [d] => { results := [.lit (.bool true)], args := [d] }
  | _ => none }
def segsOfRow : OpenClaim := { program := "ytjjikahgiffpbaa", sum := "61b9a43e22e3c62978c862f0bd5ae3222e09c8a5cd2d368fd185e954c91a6600", func := "cooperage/cooperagelaw15.SegsOf", spec := "segsOf", apart := false }
def SegsOfSaid : Prop := segsOfRow.holds Try.pinned (OpenSpec.ofChange segsOfSpec)

/-- ITS FALSE NEIGHBOUR: 'it returns false'. Refute it at one input. -/
def segsOfWrong : ChangeSpec := { name := "segsOf", fn := fun _ => fun
  | [d] => { results := [.lit (.bool false)], args := [d] }
  | _ => none }
def SegsOfWrongFalsely : Prop := segsOfRow.holds Try.pinned (OpenSpec.ofChange segsOfWrong)

/-- 'cooperagelaw15.SegsMerges': WHATEVER THE INPUT: true; the input reads as it did. -/
def segsMergesSpec : ChangeSpec := { name := "segsMerges", fn := fun _ => fun
  | [d1, d2] => { results := [.lit (.bool true)], args := [d1, d2] }
  | _ => none }
def segsMergesRow : OpenClaim := { program := "ytjjikahgiffpbaa", sum := "61b9a43e22e3c62978c862f0bd5ae3222e09c8a5cd2d368fd185e954c91a6600", func := "cooperage/cooperagelaw15.SegsMerges", spec := "segsMerges", inPlace := ["slices.overlaps[cooperage/api.Segment]"], unfollowed := true, recurses := true, apart := false }
def SegsMergesSaid : Prop := segsMergesRow.holds Try.pinned (OpenSpec.ofChange segsMergesSpec)

/-- ITS FALSE NEIGHBOUR: 'it returns false'. Refute it at one input. -/
def segsMergesWrong : ChangeSpec := { name := "segsMerges", fn := fun _ => fun
  | [d1, d2] => { results := [.lit (.bool false)], args := [d1, d2] }
  | _ => none }
def SegsMergesWrongFalsely : Prop := segsMergesRow.holds Try.pinned (OpenSpec.ofChange segsMergesWrong)

/-- 'cooperagelaw15.SegsFold': WHATEVER THE INPUT: true; the input reads as it did. -/
def segsFoldSpec : ChangeSpec := { name := "segsFold", fn := fun _ => fun
  | [d] => { results := [.lit (.bool true)], args := [d] }
  | _ => none }
def segsFoldRow : OpenClaim := { program := "ytjjikahgiffpbaa", sum := "61b9a43e22e3c62978c862f0bd5ae3222e09c8a5cd2d368fd185e954c91a6600", func := "cooperage/cooperagelaw15.SegsFold", spec := "segsFold", inPlace := ["slices.overlaps[cooperage/api.Segment]"], unfollowed := true, recurses := true, apart := false }
def SegsFoldSaid : Prop := segsFoldRow.holds Try.pinned (OpenSpec.ofChange segsFoldSpec)

/-- ITS FALSE NEIGHBOUR: 'it returns false'. Refute it at one input. -/
def segsFoldWrong : ChangeSpec := { name := "segsFold", fn := fun _ => fun
  | [d] => { results := [.lit (.bool false)], args := [d] }
  | _ => none }
def SegsFoldWrongFalsely : Prop := segsFoldRow.holds Try.pinned (OpenSpec.ofChange segsFoldWrong)

/-- 'cooperagelaw15.SegsRetains': WHATEVER THE INPUT: true; the input reads as it did. -/
def segsRetainsSpec : ChangeSpec := { name := "segsRetains", fn := fun _ => fun
  | [d1, d2, d3] => { results := [.lit (.bool true)], args := [d1, d2, d3] }
  | _ => none }
def segsRetainsRow : OpenClaim := { program := "ytjjikahgiffpbaa", sum := "61b9a43e22e3c62978c862f0bd5ae3222e09c8a5cd2d368fd185e954c91a6600", func := "cooperage/cooperagelaw15.SegsRetains", spec := "segsRetains", inPlace := ["slices.overlaps[cooperage/api.Segment]"], unfollowed := true, recurses := true, apart := false }
def SegsRetainsSaid : Prop := segsRetainsRow.holds Try.pinned (OpenSpec.ofChange segsRetainsSpec)

/-- ITS FALSE NEIGHBOUR: 'it returns false'. Refute it at one input. -/
def segsRetainsWrong : ChangeSpec := { name := "segsRetains", fn := fun _ => fun
  | [d1, d2, d3] => { results := [.lit (.bool false)], args := [d1, d2, d3] }
  | _ => none }
def SegsRetainsWrongFalsely : Prop := segsRetainsRow.holds Try.pinned (OpenSpec.ofChange segsRetainsWrong)

/-- 'cooperagelaw15.SegsRight': WHATEVER THE INPUT: true; the input reads as it did. -/
def segsRightSpec : ChangeSpec := { name := "segsRight", fn := fun _ => fun
  | [d] => { results := [.lit (.bool true)], args := [d] }
  | _ => none }
def segsRightRow : OpenClaim := { program := "ytjjikahgiffpbaa", sum := "61b9a43e22e3c62978c862f0bd5ae3222e09c8a5cd2d368fd185e954c91a6600", func := "cooperage/cooperagelaw15.SegsRight", spec := "segsRight", inPlace := ["slices.overlaps[cooperage/api.Segment]"], unfollowed := true, recurses := true, apart := false }
def SegsRightSaid : Prop := segsRightRow.holds Try.pinned (OpenSpec.ofChange segsRightSpec)

/-- ITS FALSE NEIGHBOUR: 'it returns false'. Refute it at one input. -/
def segsRightWrong : ChangeSpec := { name := "segsRight", fn := fun _ => fun
  | [d] => { results := [.lit (.bool false)], args := [d] }
  | _ => none }
def SegsRightWrongFalsely : Prop := segsRightRow.holds Try.pinned (OpenSpec.ofChange segsRightWrong)

/-- 'cooperagelaw15.SegsStored': WHATEVER THE INPUT: true; the input reads as it did. -/
def segsStoredSpec : ChangeSpec := { name := "segsStored", fn := fun _ => fun
  | [d1, d2] => { results := [.lit (.bool true)], args := [d1, d2] }
  | _ => none }
def segsStoredRow : OpenClaim := { program := "ytjjikahgiffpbaa", sum := "61b9a43e22e3c62978c862f0bd5ae3222e09c8a5cd2d368fd185e954c91a6600", func := "cooperage/cooperagelaw15.SegsStored", spec := "segsStored", inPlace := ["slices.overlaps[cooperage/api.Segment]"], unfollowed := true, recurses := true, apart := false }
def SegsStoredSaid : Prop := segsStoredRow.holds Try.pinned (OpenSpec.ofChange segsStoredSpec)

/-- ITS FALSE NEIGHBOUR: 'it returns false'. Refute it at one input. -/
def segsStoredWrong : ChangeSpec := { name := "segsStored", fn := fun _ => fun
  | [d1, d2] => { results := [.lit (.bool false)], args := [d1, d2] }
  | _ => none }
def SegsStoredWrongFalsely : Prop := segsStoredRow.holds Try.pinned (OpenSpec.ofChange segsStoredWrong)

/-- 'cooperagelaw15.SegsCopy': WHATEVER THE INPUT: true; the input reads as it did. -/
def segsCopySpec : ChangeSpec := { name := "segsCopy", fn := fun _ => fun
  | [d1, d2] => { results := [.lit (.bool true)], args := [d1, d2] }
  | _ => none }
def segsCopyRow : OpenClaim := { program := "ytjjikahgiffpbaa", sum := "61b9a43e22e3c62978c862f0bd5ae3222e09c8a5cd2d368fd185e954c91a6600", func := "cooperage/cooperagelaw15.SegsCopy", spec := "segsCopy", inPlace := ["slices.overlaps[cooperage/api.Segment]"], unfollowed := true, recurses := true, apart := false }
def SegsCopySaid : Prop := segsCopyRow.holds Try.pinned (OpenSpec.ofChange segsCopySpec)

/-- ITS FALSE NEIGHBOUR: 'it returns false'. Refute it at one input. -/
def segsCopyWrong : ChangeSpec := { name := "segsCopy", fn := fun _ => fun
  | [d1, d2] => { results := [.lit (.bool false)], args := [d1, d2] }
  | _ => none }
def SegsCopyWrongFalsely : Prop := segsCopyRow.holds Try.pinned (OpenSpec.ofChange segsCopyWrong)

/- THE SECOND FORM. 'bulk': how many values and letters a reading holds, each counted each time it is reached (what is shared counts as often as it is met; a slice's spare places count too). A statement '..UptoSaid' is the law's where the arguments, and the package variables that the reading takes, are together of bulk at most 1048576: NARROWER than '..Said'. Prove '..Said' where nothing that the law and all that it calls make is longer than what came in: it says more and counts as full. Else prove '..UptoSaid'. A law counts once. -/
mutual
def uptoBulk {H : Type} : DataW H → Nat
  | .lit (.string bytes) => bytes.length + 1
  | .lit _ => 1
  | .nil => 1
  | .ptr d => uptoBulk d + 1
  | .slice elems spare => uptoBulkAll elems + uptoBulkAll spare + 1
  | .agg parts => uptoBulkAll parts + 1
  | .iface _ d => uptoBulk d + 1
  | .map entries => uptoBulkEntries entries + 1
  | .held _ => 1
def uptoBulkAll {H : Type} : List (DataW H) → Nat
  | [] => 0
  | d :: r => uptoBulk d + uptoBulkAll r
def uptoBulkEntries {H : Type} : List (Lit × DataW H) → Nat
  | [] => 0
  | x :: r => uptoBulkEntry x + uptoBulkEntries r
def uptoBulkEntry {H : Type} : Lit × DataW H → Nat
  | (.string bytes, d) => bytes.length + uptoBulk d + 1
  | (_, d) => uptoBulk d + 1
 end
def uptoSmall : (H : Type) → List (DataW H) → Bool := fun _ ds => decide (uptoBulkAll ds ≤ 1048576)
def OpenSpec.upto (s : _root_.Go.ChangeSpec) : _root_.Go.OpenSpec := { _root_.Go.OpenSpec.ofChange s with cond := some uptoSmall }

/-- 'cooperagelaw15.SegsSeals', WHERE WHAT IT READS IS OF BULK AT MOST 1048576: true; the input reads as it did. -/
def segsSealsUptoRow : OpenClaim := { program := "ytjjikahgiffpbaa", sum := "61b9a43e22e3c62978c862f0bd5ae3222e09c8a5cd2d368fd185e954c91a6600", func := "cooperage/cooperagelaw15.SegsSeals", spec := "segsSeals", apart := false, narrowed := true }
def SegsSealsUptoSaid : Prop := segsSealsUptoRow.holds Try.pinned (OpenSpec.upto segsSealsSpec)

/-- 'cooperagelaw15.SegsOf', WHERE WHAT IT READS IS OF BULK AT MOST 1048576: true; the input reads as it did. -/
def segsOfUptoRow : OpenClaim := { program := "ytjjikahgiffpbaa", sum := "61b9a43e22e3c62978c862f0bd5ae3222e09c8a5cd2d368fd185e954c91a6600", func := "cooperage/cooperagelaw15.SegsOf", spec := "segsOf", apart := false, narrowed := true }
def SegsOfUptoSaid : Prop := segsOfUptoRow.holds Try.pinned (OpenSpec.upto segsOfSpec)

/-- 'cooperagelaw15.SegsMerges', WHERE WHAT IT READS IS OF BULK AT MOST 1048576: true; the input reads as it did. -/
def segsMergesUptoRow : OpenClaim := { program := "ytjjikahgiffpbaa", sum := "61b9a43e22e3c62978c862f0bd5ae3222e09c8a5cd2d368fd185e954c91a6600", func := "cooperage/cooperagelaw15.SegsMerges", spec := "segsMerges", inPlace := ["slices.overlaps[cooperage/api.Segment]"], unfollowed := true, recurses := true, apart := false, narrowed := true }
def SegsMergesUptoSaid : Prop := segsMergesUptoRow.holds Try.pinned (OpenSpec.upto segsMergesSpec)

/-- 'cooperagelaw15.SegsFold', WHERE WHAT IT READS IS OF BULK AT MOST 1048576: true; the input reads as it did. -/
def segsFoldUptoRow : OpenClaim := { program := "ytjjikahgiffpbaa", sum := "61b9a43e22e3c62978c862f0bd5ae3222e09c8a5cd2d368fd185e954c91a6600", func := "cooperage/cooperagelaw15.SegsFold", spec := "segsFold", inPlace := ["slices.overlaps[cooperage/api.Segment]"], unfollowed := true, recurses := true, apart := false, narrowed := true }
def SegsFoldUptoSaid : Prop := segsFoldUptoRow.holds Try.pinned (OpenSpec.upto segsFoldSpec)

/-- 'cooperagelaw15.SegsRetains', WHERE WHAT IT READS IS OF BULK AT MOST 1048576: true; the input reads as it did. -/
def segsRetainsUptoRow : OpenClaim := { program := "ytjjikahgiffpbaa", sum := "61b9a43e22e3c62978c862f0bd5ae3222e09c8a5cd2d368fd185e954c91a6600", func := "cooperage/cooperagelaw15.SegsRetains", spec := "segsRetains", inPlace := ["slices.overlaps[cooperage/api.Segment]"], unfollowed := true, recurses := true, apart := false, narrowed := true }
def SegsRetainsUptoSaid : Prop := segsRetainsUptoRow.holds Try.pinned (OpenSpec.upto segsRetainsSpec)

/-- 'cooperagelaw15.SegsRight', WHERE WHAT IT READS IS OF BULK AT MOST 1048576: true; the input reads as it did. -/
def segsRightUptoRow : OpenClaim := { program := "ytjjikahgiffpbaa", sum := "61b9a43e22e3c62978c862f0bd5ae3222e09c8a5cd2d368fd185e954c91a6600", func := "cooperage/cooperagelaw15.SegsRight", spec := "segsRight", inPlace := ["slices.overlaps[cooperage/api.Segment]"], unfollowed := true, recurses := true, apart := false, narrowed := true }
def SegsRightUptoSaid : Prop := segsRightUptoRow.holds Try.pinned (OpenSpec.upto segsRightSpec)

/-- 'cooperagelaw15.SegsStored', WHERE WHAT IT READS IS OF BULK AT MOST 1048576: true; the input reads as it did. -/
def segsStoredUptoRow : OpenClaim := { program := "ytjjikahgiffpbaa", sum := "61b9a43e22e3c62978c862f0bd5ae3222e09c8a5cd2d368fd185e954c91a6600", func := "cooperage/cooperagelaw15.SegsStored", spec := "segsStored", inPlace := ["slices.overlaps[cooperage/api.Segment]"], unfollowed := true, recurses := true, apart := false, narrowed := true }
def SegsStoredUptoSaid : Prop := segsStoredUptoRow.holds Try.pinned (OpenSpec.upto segsStoredSpec)

/-- 'cooperagelaw15.SegsCopy', WHERE WHAT IT READS IS OF BULK AT MOST 1048576: true; the input reads as it did. -/
def segsCopyUptoRow : OpenClaim := { program := "ytjjikahgiffpbaa", sum := "61b9a43e22e3c62978c862f0bd5ae3222e09c8a5cd2d368fd185e954c91a6600", func := "cooperage/cooperagelaw15.SegsCopy", spec := "segsCopy", inPlace := ["slices.overlaps[cooperage/api.Segment]"], unfollowed := true, recurses := true, apart := false, narrowed := true }
def SegsCopyUptoSaid : Prop := segsCopyUptoRow.holds Try.pinned (OpenSpec.upto segsCopySpec)

end Rows
end Go.Proofs.Ytjjikahgiffpbaa
