/-
  No cell of these rows narrows 'for every input' (looked for: loops, veiled, ifaces, maps, wideKeys, modest, calm, conditions, laid).
  DERIVED. THE GIVEN ROWS OF THIS SEAT. 5 by the template 'for every input the law returns true; each argument reads behind the call as it read before'; 0 by the template 'total and deterministic' (their statements: YtpkjlefincabiaaTotals.lean).
  GIVEN WITH THE SEED: the statements are not yours to turn. If you find one false, say at which input.
  Laid BY PROGRAM, IN A SANDBOX (cutbox-rows.mjs): the forced cells as the released guide's own fill.sh prints them over the translation 4ca52116dc955d1f… (all of the seat's roots in one cut). By AI agents, Wed Nov 11 2026. No macro, syntax, notation, axiom, sorry.
-/
import Derived.Test.YtpkjlefincabiaaChecked
import GoSem.Claim
import GoSem.ClaimJoined
import GoSem.ClaimMapViews
import Derived.JoinedTies
import Derived.KernelRfl
namespace Go.Proofs.Ytpkjlefincabiaa
/- THE CELL 'sum', in the pinned program and in every row, IS THE sha256 OF THE DUMP (.gsa) THAT YtpkjlefincabiaaProg.lean LOADS. Nothing in Lean hashes anything: it is a label: what it is worth is what the hold of that sum in a sandbox is worth. -/
noncomputable def Try.pinned : Pinned := { name := "ytpkjlefincabiaa", sum := "4ca52116dc955d1f30b53659fa29bca1a43f8d5e62feb682fdaf9cc79c162a66", checked := Try.checked }
namespace Rows
def none {H : Type} : Left H := { results := [], args := [] }

/-- 'cooperagelaw26.TraceParts': WHATEVER THE INPUT: true; the input reads as it did. -/
def tracePartsSpec : ChangeSpec := { name := "traceParts", fn := fun _ => fun
  | [d1, d2, d3] => { results := [.lit (.bool true)], args := [d1, d2, d3] }
  | _ => none }
def tracePartsRow : OpenClaim := { program := "ytpkjlefincabiaa", sum := "4ca52116dc955d1f30b53659fa29bca1a43f8d5e62feb682fdaf9cc79c162a66", func := "cooperage/cooperagelaw26.TraceParts", spec := "traceParts", apart := false }
def TracePartsSaid : Prop := tracePartsRow.holds Try.pinned (OpenSpec.ofChange tracePartsSpec)

/-- ITS FALSE NEIGHBOUR: 'it returns false'. Refute it at one input. -/
def tracePartsWrong : ChangeSpec := { name := "traceParts", fn := fun _ => fun
  | [d1, d2, d3] => { results := [.lit (.bool false)], args := [d1, d2, d3] }
  | _ => none }
def TracePartsWrongFalsely : Prop := tracePartsRow.holds Try.pinned (OpenSpec.ofChange tracePartsWrong)

/-- 'cooperagelaw11.DedupTurns': WHATEVER THE INPUT: true; the input reads as it did. -/
def dedupTurnsSpec : ChangeSpec := { name := "dedupTurns", fn := fun _ => fun
  | [d1, d2, d3] => { results := [.lit (.bool true)], args := [d1, d2, d3] }
  | _ => none }
def dedupTurnsRow : OpenClaim := { program := "ytpkjlefincabiaa", sum := "4ca52116dc955d1f30b53659fa29bca1a43f8d5e62feb682fdaf9cc79c162a66", func := "cooperage/cooperagelaw11.DedupTurns", spec := "dedupTurns", inPlace := ["slices.overlaps[cooperage/dedup.Row]"], unfollowed := true, recurses := true, apart := false }
def DedupTurnsSaid : Prop := dedupTurnsRow.holds Try.pinned (OpenSpec.ofChange dedupTurnsSpec)

/-- ITS FALSE NEIGHBOUR: 'it returns false'. Refute it at one input. -/
def dedupTurnsWrong : ChangeSpec := { name := "dedupTurns", fn := fun _ => fun
  | [d1, d2, d3] => { results := [.lit (.bool false)], args := [d1, d2, d3] }
  | _ => none }
def DedupTurnsWrongFalsely : Prop := dedupTurnsRow.holds Try.pinned (OpenSpec.ofChange dedupTurnsWrong)

/-- 'cooperagelaw11.DedupPlays': WHATEVER THE INPUT: true; the input reads as it did. -/
def dedupPlaysSpec : ChangeSpec := { name := "dedupPlays", fn := fun _ => fun
  | [d] => { results := [.lit (.bool true)], args := [d] }
  | _ => none }
def dedupPlaysRow : OpenClaim := { program := "ytpkjlefincabiaa", sum := "4ca52116dc955d1f30b53659fa29bca1a43f8d5e62feb682fdaf9cc79c162a66", func := "cooperage/cooperagelaw11.DedupPlays", spec := "dedupPlays", inPlace := ["slices.overlaps[cooperage/dedup.Row]"], unfollowed := true, recurses := true, apart := false }
def DedupPlaysSaid : Prop := dedupPlaysRow.holds Try.pinned (OpenSpec.ofChange dedupPlaysSpec)

/-- ITS FALSE NEIGHBOUR: 'it returns false'. Refute it at one input. -/
def dedupPlaysWrong : ChangeSpec := { name := "dedupPlays", fn := fun _ => fun
  | [d] => { results := [.lit (.bool false)], args := [d] }
  | _ => none }
def DedupPlaysWrongFalsely : Prop := dedupPlaysRow.holds Try.pinned (OpenSpec.ofChange dedupPlaysWrong)

/-- 'cooperagelaw11.DedupMany': WHATEVER THE INPUT: true; the input reads as it did. -/
def dedupManySpec : ChangeSpec := { name := "dedupMany", fn := fun _ => fun
  | [d] => { results := [.lit (.bool true)], args := [d] }
  | _ => none }
def dedupManyRow : OpenClaim := { program := "ytpkjlefincabiaa", sum := "4ca52116dc955d1f30b53659fa29bca1a43f8d5e62feb682fdaf9cc79c162a66", func := "cooperage/cooperagelaw11.DedupMany", spec := "dedupMany", inPlace := ["slices.overlaps[cooperage/dedup.Row]"], unfollowed := true, recurses := true, apart := false }
def DedupManySaid : Prop := dedupManyRow.holds Try.pinned (OpenSpec.ofChange dedupManySpec)

/-- ITS FALSE NEIGHBOUR: 'it returns false'. Refute it at one input. -/
def dedupManyWrong : ChangeSpec := { name := "dedupMany", fn := fun _ => fun
  | [d] => { results := [.lit (.bool false)], args := [d] }
  | _ => none }
def DedupManyWrongFalsely : Prop := dedupManyRow.holds Try.pinned (OpenSpec.ofChange dedupManyWrong)

/-- 'cooperagelaw11.DedupApart': WHATEVER THE INPUT: true; the input reads as it did. -/
def dedupApartSpec : ChangeSpec := { name := "dedupApart", fn := fun _ => fun
  | [d1, d2] => { results := [.lit (.bool true)], args := [d1, d2] }
  | _ => none }
def dedupApartRow : OpenClaim := { program := "ytpkjlefincabiaa", sum := "4ca52116dc955d1f30b53659fa29bca1a43f8d5e62feb682fdaf9cc79c162a66", func := "cooperage/cooperagelaw11.DedupApart", spec := "dedupApart", inPlace := ["slices.overlaps[cooperage/dedup.Row]"], unfollowed := true, recurses := true, apart := false }
def DedupApartSaid : Prop := dedupApartRow.holds Try.pinned (OpenSpec.ofChange dedupApartSpec)

/-- ITS FALSE NEIGHBOUR: 'it returns false'. Refute it at one input. -/
def dedupApartWrong : ChangeSpec := { name := "dedupApart", fn := fun _ => fun
  | [d1, d2] => { results := [.lit (.bool false)], args := [d1, d2] }
  | _ => none }
def DedupApartWrongFalsely : Prop := dedupApartRow.holds Try.pinned (OpenSpec.ofChange dedupApartWrong)

/- THE SECOND FORM. 'bulk': how many values and letters a reading holds, each counted each time it is reached (what is shared counts as often as it is met; a slice's spare places count too). A statement '..UptoSaid' is the law's where the arguments, and the package variables that the reading takes, are together of bulk at most 1048576: NARROWER than '..Said'. Prove '..Said' where nothing that the law and all that it calls make is longer than what came in: it says more and counts as full. Else prove '..UptoSaid'. A law counts once. -/
mutual
def uptoBulk {H : Type} : DataW H → Nat
  | .lit (.string bytes) => bytes.length + 1
  | .lit _ => 1
  | .nil => 1
  | .ptr d => uptoBulk d + 1
  | .slice elems spare => uptoBulkAll elems + uptoBulkAll spare + 1
  | .agg parts => uptoBulkAll parts + 1
  | .iface _ d => uptoBulk d + 1
  | .map entries => uptoBulkEntries entries + 1
  | .held _ => 1
def uptoBulkAll {H : Type} : List (DataW H) → Nat
  | [] => 0
  | d :: r => uptoBulk d + uptoBulkAll r
def uptoBulkEntries {H : Type} : List (Lit × DataW H) → Nat
  | [] => 0
  | x :: r => uptoBulkEntry x + uptoBulkEntries r
def uptoBulkEntry {H : Type} : Lit × DataW H → Nat
  | (.string bytes, d) => bytes.length + uptoBulk d + 1
  | (_, d) => uptoBulk d + 1
 end
def uptoSmall : (H : Type) → List (DataW H) → Bool := fun _ ds => decide (uptoBulkAll ds ≤ 1048576)
def OpenSpec.upto (s : _root_.Go.ChangeSpec) : _root_.Go.OpenSpec := { _root_.Go.OpenSpec.ofChange s with cond := some uptoSmall }

/-- 'cooperagelaw26.TraceParts', WHERE WHAT IT READS IS OF BULK AT MOST 1048576: true; the input reads as it did. -/
def tracePartsUptoRow : OpenClaim := { program := "ytpkjlefincabiaa", sum := "4ca52116dc955d1f30b53659fa29bca1a43f8d5e62feb682fdaf9cc79c162a66", func := "cooperage/cooperagelaw26.TraceParts", spec := "traceParts", apart := false, narrowed := true }
def TracePartsUptoSaid : Prop := tracePartsUptoRow.holds Try.pinned (OpenSpec.upto tracePartsSpec)

/-- 'cooperagelaw11.DedupTurns', WHERE WHAT IT READS IS OF BULK AT MOST 1048576: true; the input reads as it did. -/
def dedupTurnsUptoRow : OpenClaim := { program := "ytpkjlefincabiaa", sum := "4ca52116dc955d1f30b53659fa29bca1a43f8d5e62feb682fdaf9cc79c162a66", func := "cooperage/cooperagelaw11.DedupTurns", spec := "dedupTurns", inPlace := ["slices.overlaps[cooperage/dedup.Row]"], unfollowed := true, recurses := true, apart := false, narrowed := true }
def DedupTurnsUptoSaid : Prop := dedupTurnsUptoRow.holds Try.pinned (OpenSpec.upto dedupTurnsSpec)

/-- 'cooperagelaw11.DedupPlays', WHERE WHAT IT READS IS OF BULK AT MOST 1048576: true; the input reads as it did. -/
def dedupPlaysUptoRow : OpenClaim := { program := "ytpkjlefincabiaa", sum := "4ca52116dc955d1f30b53659fa29bca1a43f8d5e62feb682fdaf9cc79c162a66", func := "cooperage/cooperagelaw11.DedupPlays", spec := "dedupPlays", inPlace := ["slices.overlaps[cooperage/dedup.Row]"], unfollowed := true, recurses := true, apart := false, narrowed := true }
def DedupPlaysUptoSaid : Prop := dedupPlaysUptoRow.holds Try.pinned (OpenSpec.upto dedupPlaysSpec)

/-- 'cooperagelaw11.DedupMany', WHERE WHAT IT READS IS OF BULK AT MOST 1048576: true; the input reads as it did. -/
def dedupManyUptoRow : OpenClaim := { program := "ytpkjlefincabiaa", sum := "4ca52116dc955d1f30b53659fa29bca1a43f8d5e62feb682fdaf9cc79c162a66", func := "cooperage/cooperagelaw11.DedupMany", spec := "dedupMany", inPlace := ["slices.overlaps[cooperage/dedup.Row]"], unfollowed := true, recurses := true, apart := false, narrowed := true }
def DedupManyUptoSaid : Prop := dedupManyUptoRow.holds Try.pinned (OpenSpec.upto dedupManySpec)

/-- 'cooperagelaw11.DedupApart', WHERE WHAT IT READS IS OF BULK AT MOST 1048576: true; the input reads as it did. -/
def dedupApartUptoRow : OpenClaim := { program := "ytpkjlefincabiaa", sum := "4ca52116dc955d1f30b53659fa29bca1a43f8d5e62feb682fdaf9cc79c162a66", func := "cooperage/cooperagelaw11.DedupApart", spec := "dedupApart", inPlace := ["slices.overlaps[cooperage/dedup.Row]"], unfollowed := true, recurses := true, apart := false, narrowed := true }
def DedupApartUptoSaid : Prop := dedupApartUptoRow.holds Try.pinned (OpenSpec.upto dedupApartSpec)

end Rows
end Go.Proofs.Ytpkjlefincabiaa
