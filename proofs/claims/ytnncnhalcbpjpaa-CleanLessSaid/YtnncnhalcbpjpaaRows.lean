/-
  No cell of these rows narrows 'for every input' (looked for: loops, veiled, ifaces, maps, wideKeys, modest, calm, conditions, laid).
  DERIVED. THE GIVEN ROWS OF THIS SEAT. 6 by the template 'for every input the law returns true; each argument reads behind the call as it read before'; 0 by the template 'total and deterministic' (their statements: YtnncnhalcbpjpaaTotals.lean).
  GIVEN WITH THE SEED: the statements are not yours to turn. If you find one false, say at which input.
  Laid BY PROGRAM, IN A SANDBOX (cutbox-rows.mjs): the forced cells as the released guide's own fill.sh prints them over the translation aa50998462bdc253… (all of the seat's roots in one cut). By AI agents, Wed Nov 11 2026. No macro, syntax, notation, axiom, sorry.
-/
import Derived.Test.YtnncnhalcbpjpaaChecked
import GoSem.Claim
import GoSem.ClaimJoined
import GoSem.ClaimMapViews
import Derived.JoinedTies
import Derived.KernelRfl
namespace Go.Proofs.Ytnncnhalcbpjpaa
/- THE CELL 'sum', in the pinned program and in every row, IS THE sha256 OF THE DUMP (.gsa) THAT YtnncnhalcbpjpaaProg.lean LOADS. Nothing in Lean hashes anything: it is a label: what it is worth is what the hold of that sum in a sandbox is worth. -/
noncomputable def Try.pinned : Pinned := { name := "ytnncnhalcbpjpaa", sum := "aa50998462bdc25372eda6a4757025287f030728587962ba4d81c76b7a0cb7e7", checked := Try.checked }
namespace Rows
def none {H : Type} : Left H := { results := [], args := [] }

/-- 'cooperagelaw14.RetainDrops': WHATEVER THE INPUT: true; the input reads as it did. -/
def retainDropsSpec : ChangeSpec := { name := "retainDrops", fn := fun _ => fun
  | [d1, d2, d3] => { results := [.lit (.bool true)], args := [d1, d2, d3] }
  | _ => none }
def retainDropsRow : OpenClaim := { program := "ytnncnhalcbpjpaa", sum := "aa50998462bdc25372eda6a4757025287f030728587962ba4d81c76b7a0cb7e7", func := "cooperage/cooperagelaw14.RetainDrops", spec := "retainDrops", apart := false }
def RetainDropsSaid : Prop := retainDropsRow.holds Try.pinned (OpenSpec.ofChange retainDropsSpec)

/-- ITS FALSE NEIGHBOUR: 'it returns false'. Refute it at one input. -/
def retainDropsWrong : ChangeSpec := { name := "retainDrops", fn := fun _ => fun
  | [d1, d2, d3] => { results := [.lit (.bool false)], args := [d1, d2, d3] }
  | _ => none }
def RetainDropsWrongFalsely : Prop := retainDropsRow.holds Try.pinned (OpenSpec.ofChange retainDropsWrong)

/-- 'cooperagelaw14.RetainWhole': WHATEVER THE INPUT: true; the input reads as it did. -/
def retainWholeSpec : ChangeSpec := { name := "retainWhole", fn := fun _ => fun
  | [d1, d2, d3] => { results := [.lit (.bool true)], args := [d1, d2, d3] }
  | _ => none }
def retainWholeRow : OpenClaim := { program := "ytnncnhalcbpjpaa", sum := "aa50998462bdc25372eda6a4757025287f030728587962ba4d81c76b7a0cb7e7", func := "cooperage/cooperagelaw14.RetainWhole", spec := "retainWhole", apart := false }
def RetainWholeSaid : Prop := retainWholeRow.holds Try.pinned (OpenSpec.ofChange retainWholeSpec)

/-- ITS FALSE NEIGHBOUR: 'it returns false'. Refute it at one input. -/
def retainWholeWrong : ChangeSpec := { name := "retainWhole", fn := fun _ => fun
  | [d1, d2, d3] => { results := [.lit (.bool false)], args := [d1, d2, d3] }
  | _ => none }
def RetainWholeWrongFalsely : Prop := retainWholeRow.holds Try.pinned (OpenSpec.ofChange retainWholeWrong)

/-- 'cooperagelaw14.RetainAges': WHATEVER THE INPUT: true; the input reads as it did. -/
def retainAgesSpec : ChangeSpec := { name := "retainAges", fn := fun _ => fun
  | [d1, d2, d3, d4] => { results := [.lit (.bool true)], args := [d1, d2, d3, d4] }
  | _ => none }
def retainAgesRow : OpenClaim := { program := "ytnncnhalcbpjpaa", sum := "aa50998462bdc25372eda6a4757025287f030728587962ba4d81c76b7a0cb7e7", func := "cooperage/cooperagelaw14.RetainAges", spec := "retainAges", apart := false }
def RetainAgesSaid : Prop := retainAgesRow.holds Try.pinned (OpenSpec.ofChange retainAgesSpec)

/-- ITS FALSE NEIGHBOUR: 'it returns false'. Refute it at one input. -/
def retainAgesWrong : ChangeSpec := { name := "retainAges", fn := fun _ => fun
  | [d1, d2, d3, d4] => { results := [.lit (.bool false)], args := [d1, d2, d3, d4] }
  | _ => none }
def RetainAgesWrongFalsely : Prop := retainAgesRow.holds Try.pinned (OpenSpec.ofChange retainAgesWrong)

/-- 'cooperagelaw13.CleanLess': WHATEVER THE INPUT: true; the input reads as it did. -/
def cleanLessSpec : ChangeSpec := { name := "cleanLess", fn := fun _ => fun
  | [d1, d2, d3, d4, d5, d6] => { results := [.lit (.bool true)], args := [d1, d2, d3, d4, d5, d6] }
  | _ => none }
def cleanLessRow : OpenClaim := { program := "ytnncnhalcbpjpaa", sum := "aa50998462bdc25372eda6a4757025287f030728587962ba4d81c76b7a0cb7e7", func := "cooperage/cooperagelaw13.CleanLess", spec := "cleanLess", apart := false }
def CleanLessSaid : Prop := cleanLessRow.holds Try.pinned (OpenSpec.ofChange cleanLessSpec)

/-- ITS FALSE NEIGHBOUR: 'it returns false'. Refute it at one input. -/
def cleanLessWrong : ChangeSpec := { name := "cleanLess", fn := fun _ => fun
  | [d1, d2, d3, d4, d5, d6] => { results := [.lit (.bool false)], args := [d1, d2, d3, d4, d5, d6] }
  | _ => none }
def CleanLessWrongFalsely : Prop := cleanLessRow.holds Try.pinned (OpenSpec.ofChange cleanLessWrong)

/-- 'cooperagelaw13.CleanAgain': WHATEVER THE INPUT: true; the input reads as it did. -/
def cleanAgainSpec : ChangeSpec := { name := "cleanAgain", fn := fun _ => fun
  | [d1, d2, d3, d4, d5] => { results := [.lit (.bool true)], args := [d1, d2, d3, d4, d5] }
  | _ => none }
def cleanAgainRow : OpenClaim := { program := "ytnncnhalcbpjpaa", sum := "aa50998462bdc25372eda6a4757025287f030728587962ba4d81c76b7a0cb7e7", func := "cooperage/cooperagelaw13.CleanAgain", spec := "cleanAgain", apart := false }
def CleanAgainSaid : Prop := cleanAgainRow.holds Try.pinned (OpenSpec.ofChange cleanAgainSpec)

/-- ITS FALSE NEIGHBOUR: 'it returns false'. Refute it at one input. -/
def cleanAgainWrong : ChangeSpec := { name := "cleanAgain", fn := fun _ => fun
  | [d1, d2, d3, d4, d5] => { results := [.lit (.bool false)], args := [d1, d2, d3, d4, d5] }
  | _ => none }
def CleanAgainWrongFalsely : Prop := cleanAgainRow.holds Try.pinned (OpenSpec.ofChange cleanAgainWrong)

/-- 'cooperagelaw13.CleanKeeps': WHATEVER THE INPUT: true; the input reads as it did. -/
def cleanKeepsSpec : ChangeSpec := { name := "cleanKeeps", fn := fun _ => fun
  | [d1, d2, d3, d4, d5] => { results := [.lit (.bool true)], args := [d1, d2, d3, d4, d5] }
  | _ => none }
def cleanKeepsRow : OpenClaim := { program := "ytnncnhalcbpjpaa", sum := "aa50998462bdc25372eda6a4757025287f030728587962ba4d81c76b7a0cb7e7", func := "cooperage/cooperagelaw13.CleanKeeps", spec := "cleanKeeps", unfollowed := true, recurses := true, apart := false }
def CleanKeepsSaid : Prop := cleanKeepsRow.holds Try.pinned (OpenSpec.ofChange cleanKeepsSpec)

/-- ITS FALSE NEIGHBOUR: 'it returns false'. Refute it at one input. -/
def cleanKeepsWrong : ChangeSpec := { name := "cleanKeeps", fn := fun _ => fun
  | [d1, d2, d3, d4, d5] => { results := [.lit (.bool false)], args := [d1, d2, d3, d4, d5] }
  | _ => none }
def CleanKeepsWrongFalsely : Prop := cleanKeepsRow.holds Try.pinned (OpenSpec.ofChange cleanKeepsWrong)

/- THE SECOND FORM. 'bulk': how many values and letters a reading holds, each counted each time it is reached (what is shared counts as often as it is met; a slice's spare places count too). A statement '..UptoSaid' is the law's where the arguments, and the package variables that the reading takes, are together of bulk at most 1048576: NARROWER than '..Said'. Prove '..Said' where nothing that the law and all that it calls make is longer than what came in: it says more and counts as full. Else prove '..UptoSaid'. A law counts once. -/
mutual
def uptoBulk {H : Type} : DataW H → Nat
  | .lit (.string bytes) => bytes.length + 1
  | .lit _ => 1
  | .nil => 1
  | .ptr d => uptoBulk d + 1
  | .slice elems spare => uptoBulkAll elems + uptoBulkAll spare + 1
  | .agg parts => uptoBulkAll parts + 1
  | .iface _ d => uptoBulk d + 1
  | .map entries => uptoBulkEntries entries + 1
  | .held _ => 1
def uptoBulkAll {H : Type} : List (DataW H) → Nat
  | [] => 0
  | d :: r => uptoBulk d + uptoBulkAll r
def uptoBulkEntries {H : Type} : List (Lit × DataW H) → Nat
  | [] => 0
  | x :: r => uptoBulkEntry x + uptoBulkEntries r
def uptoBulkEntry {H : Type} : Lit × DataW H → Nat
  | (.string bytes, d) => bytes.length + uptoBulk d + 1
  | (_, d) => uptoBulk d + 1
 end
def uptoSmall : (H : Type) → List (DataW H) → Bool := fun _ ds => decide (uptoBulkAll ds ≤ 1048576)
def OpenSpec.upto (s : _root_.Go.ChangeSpec) : _root_.Go.OpenSpec := { _root_.Go.OpenSpec.ofChange s with cond := some uptoSmall }

/-- 'cooperagelaw14.RetainDrops', WHERE WHAT IT READS IS OF BULK AT MOST 1048576: true; the input reads as it did. -/
def retainDropsUptoRow : OpenClaim := { program := "ytnncnhalcbpjpaa", sum := "aa50998462bdc25372eda6a4757025287f030728587962ba4d81c76b7a0cb7e7", func := "cooperage/cooperagelaw14.RetainDrops", spec := "retainDrops", apart := false, narrowed := true }
def RetainDropsUptoSaid : Prop := retainDropsUptoRow.holds Try.pinned (OpenSpec.upto retainDropsSpec)

/-- 'cooperagelaw14.RetainWhole', WHERE WHAT IT READS IS OF BULK AT MOST 1048576: true; the input reads as it did. -/
def retainWholeUptoRow : OpenClaim := { program := "ytnncnhalcbpjpaa", sum := "aa50998462bdc25372eda6a4757025287f030728587962ba4d81c76b7a0cb7e7", func := "cooperage/cooperagelaw14.RetainWhole", spec := "retainWhole", apart := false, narrowed := true }
def RetainWholeUptoSaid : Prop := retainWholeUptoRow.holds Try.pinned (OpenSpec.upto retainWholeSpec)

/-- 'cooperagelaw14.RetainAges', WHERE WHAT IT READS IS OF BULK AT MOST 1048576: true; the input reads as it did. -/
def retainAgesUptoRow : OpenClaim := { program := "ytnncnhalcbpjpaa", sum := "aa50998462bdc25372eda6a4757025287f030728587962ba4d81c76b7a0cb7e7", func := "cooperage/cooperagelaw14.RetainAges", spec := "retainAges", apart := false, narrowed := true }
def RetainAgesUptoSaid : Prop := retainAgesUptoRow.holds Try.pinned (OpenSpec.upto retainAgesSpec)

/-- 'cooperagelaw13.CleanLess', WHERE WHAT IT READS IS OF BULK AT MOST 1048576: true; the input reads as it did. -/
def cleanLessUptoRow : OpenClaim := { program := "ytnncnhalcbpjpaa", sum := "aa50998462bdc25372eda6a4757025287f030728587962ba4d81c76b7a0cb7e7", func := "cooperage/cooperagelaw13.CleanLess", spec := "cleanLess", apart := false, narrowed := true }
def CleanLessUptoSaid : Prop := cleanLessUptoRow.holds Try.pinned (OpenSpec.upto cleanLessSpec)

/-- 'cooperagelaw13.CleanAgain', WHERE WHAT IT READS IS OF BULK AT MOST 1048576: true; the input reads as it did. -/
def cleanAgainUptoRow : OpenClaim := { program := "ytnncnhalcbpjpaa", sum := "aa50998462bdc25372eda6a4757025287f030728587962ba4d81c76b7a0cb7e7", func := "cooperage/cooperagelaw13.CleanAgain", spec := "cleanAgain", apart := false, narrowed := true }
def CleanAgainUptoSaid : Prop := cleanAgainUptoRow.holds Try.pinned (OpenSpec.upto cleanAgainSpec)

/-- 'cooperagelaw13.CleanKeeps', WHERE WHAT IT READS IS OF BULK AT MOST 1048576: true; the input reads as it did. -/
def cleanKeepsUptoRow : OpenClaim := { program := "ytnncnhalcbpjpaa", sum := "aa50998462bdc25372eda6a4757025287f030728587962ba4d81c76b7a0cb7e7", func := "cooperage/cooperagelaw13.CleanKeeps", spec := "cleanKeeps", unfollowed := true, recurses := true, apart := false, narrowed := true }
def CleanKeepsUptoSaid : Prop := cleanKeepsUptoRow.holds Try.pinned (OpenSpec.upto cleanKeepsSpec)

end Rows
end Go.Proofs.Ytnncnhalcbpjpaa
