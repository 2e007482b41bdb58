/-
  PlNam: which texts are names, in plain Lean.
-/
import Derived.Test.YtpkjlefincabiaaDoorPlSkp
namespace Go.Sim
def lettersL : List UInt8 := [97, 98, 99, 100, 101, 102, 103, 104, 105, 106, 107, 108, 109, 110, 111, 112, 113, 114, 115, 116, 117, 118, 119, 120, 121, 122, 48, 49, 50, 51, 52, 53, 54, 55, 56, 57]
def signsL : List UInt8 := [45, 95, 46]
def mayR (c : Int) : Bool := hasR lettersL c || hasR signsL c || (decide (c ≥ 161) && decide (c ≤ 65535) && c != 173 && c != 65279)
/-- May this rune not stand here? -/
def badR (c : Int) (first : Bool) : Bool := !mayR c || (first && hasR signsL c)
/-- The first bad rune: how many stand ahead of it; how many bytes there are, it with them. -/
def failF : Nat → List UInt8 → Bool → Option (Nat × Nat)
  | 0, _, _ => none
  | m + 1, l, first => bif l.isEmpty then none else bif badR (((dec1 l).1 : Nat) : Int) first then some (0, (dec1 l).2) else (failF m (l.drop (dec1 l).2) false).map fun p => (p.1 + 1, (dec1 l).2 + p.2)
def validL (s : List UInt8) : Bool := !(failF s.length s true).isSome && (decide ((cnt s : Int) > 0) && decide ((cnt s : Int) ≤ 40) && okL s)
end Go.Sim
