/-
  PlTab: the tables of package utf8.
-/
import Derived.Test.YtpkjlefincabiaaDoorPlBase
namespace Go.Sim
def utf8F (b : Nat) : Int :=
  if b < 128 then 240 else if b < 194 then 241 else if b < 224 then 2 else if b = 224 then 19 else if b < 237 then 3 else if b = 237 then 35 else if b < 240 then 3
  else if b = 240 then 52 else if b < 244 then 4 else if b = 244 then 68 else 241
def utf8First : List Int := (List.range 256).map utf8F
def utf8Acc : List (Int × Int) := [(128, 191), (160, 191), (128, 159), (144, 191), (128, 143), (0, 0), (0, 0), (0, 0), (0, 0), (0, 0), (0, 0), (0, 0), (0, 0), (0, 0), (0, 0), (0, 0)]
theorem utf8First_get (n : Nat) (h : n < 256) : utf8First.getD n 0 = utf8F n := by
  unfold utf8First
  rw [List.getD_eq_getElem?_getD, List.getElem?_map, List.getElem?_range h]
  rfl
theorem utf8First_length : utf8First.length = 256 := by simp [utf8First]
end Go.Sim
