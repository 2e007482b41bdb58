/-
  SimA: the words of an abstract machine over the model's code: typed values, abstract values and objects, and the evaluation of operations. No theorem on programs. · SimB: the abstract machine: renumbering, regions, code, functions. · SimC: what an abstract value says of a value in a world: 'V'; of an object: 'ObjRel'; of a world: 'WInv'. Small laws. · SimD: objects and worlds; what an operation does; operations that leave the world alone. · SimE: each operation does what the abstract machine says: those that leave the world alone. · SimF: further operations that leave the world alone. · SimG: further operations that leave the world alone: conversions, fields, elements, parts, lengths. · SimH: parts of rows and strings, lengths, maps that are read, assertions. · SimI: rows cut with three bounds, lengths, the smaller and the greater, maps that are read, assertions, structs that are built. · SimJ: how objects are made and changed. · SimK: stores, rows that are made, maps, strings that are ranged over. · SimL: append, rows that are made.
-/
import Derived.Orders
import Derived.Laws.Closers25b
import Derived.Laws.Cells
import Derived.Laws.Append
import Derived.Laws.Tables
import Derived.Laws.StructEq
import Derived.Laws.Slices
import Derived.Laws.MakeOwn
import Derived.Laws.BytesString
import Derived.Lib.ConvBytes
import Derived.Laws.IdiomCopy
namespace Go.Sim
set_option linter.unusedSectionVars false
inductive Ty where
  | bool
  | int (k : IntKind)
  | str
  | sl (e : Ty)
  | pair (a b : Ty)
  | raw
  deriving DecidableEq
@[reducible] def Ty.den : Ty → Type
  | .bool => Bool
  | .int _ => Int
  | .str => List UInt8
  | .sl e => List e.den
  | .pair a b => a.den × b.den
  | .raw => Value
def Ty.sz : Ty → Nat
  | .pair a b => a.sz + b.sz
  | _ => 1
def Ty.zero : (t : Ty) → t.den
  | .bool => false
  | .int _ => (0 : Int)
  | .str => ([] : List UInt8)
  | .sl _ => []
  | .pair a b => (a.zero, b.zero)
  | .raw => Value.slice none 0 0
inductive Elt where
  | ty (i : Nat)
  | tl (p : Nat)
inductive AV where
  | bool (b : Bool)
  | int (k : IntKind) (n : Int)
  | str (s : List UInt8)
  | nilp
  | ptr (l : Nat) (e : Elt) (j : Nat)
  | eptr (cs : List AV)
  | vl (t : Ty) (xs : List t.den)
  | ap (t : Ty) (xs : List t.den)
  | nils
  | hw (l : Nat)
  | hs (l off len : Nat)
  | hc (l off len cap : Nat)
  | agg (cs : List AV)
  | tup (vs : List AV)
  | iface (t : TypeId) (v : AV)
  | nilif
  | fn (f : Fn) (first cap : List AV)
  | mp (l : Nat)
  | it (l : Nat)
  | ve (b : Bool)
  | rv (v : Value)
  | undef
inductive AObj where
  | arr (sz : Nat) (t : Ty) (xs : List t.den) (tail : List (List AV))
  | map (kt vt : Ty) (es : List (kt.den × vt.den))
  | siter (s : List UInt8) (pos : Nat)
  | log (t : Ty) (xs : List t.den)
  | dead
def enc : (t : Ty) → t.den → List AV
  | .bool, b => [.bool b]
  | .int k, n => [.int k n]
  | .str, s => [.str s]
  | .sl e, xs => [.vl e xs]
  | .pair a b, x => enc a x.1 ++ enc b x.2
  | .raw, v => [.rv v]
def asVl (t : Ty) : AV → Option (List t.den)
  | .vl t' xs => if h : t' = t then some (h ▸ xs) else none
  | .nils => some []
  | _ => none
def dec : (t : Ty) → List AV → Option t.den
  | .bool, [.bool b] => some b
  | .int k, [.int k' n] => if k = k' then some n else none
  | .str, [.str s] => some s
  | .sl e, [v] => asVl e v
  | .pair a b, cs => (dec a (cs.take a.sz)).bind fun x => (dec b (cs.drop a.sz)).bind fun y => some (x, y)
  | .raw, [.rv v] => some v
  | _, _ => none
def decAll (t : Ty) : List (List AV) → Option (List t.den)
  | [] => some []
  | c :: cs => (dec t c).bind fun x => (decAll t cs).bind fun xs => some (x :: xs)
inductive Row where
  | flat
  | int (k : IntKind)
  | bool
  | str
  | struct (fs : List (Nat × Nat)) (eq : List Ty)
  | slice (e : TypeId)
  | ptr (e : TypeId)
  | map (k v : TypeId)
  | iface
  | array (n : Nat) (e : TypeId)
structure TRow where
  kind : Row
  size : Nat
  bytes : Nat
  zero : List AV
inductive Con : Type 1 where
  | none
  | pure (G : List AV → List (Bool × AV))
  | eff (F : List AV → List AObj → List (Bool × AV × List AObj))
  | apart
  | cps (G : (R : Type) → List AV → List AObj → (AV × List AObj → Option R) → Option R)
structure Hint where
  nt : Nat
  vs : List Nat := []
  nh : List (Nat × TypeId) := []
  join : List (Nat × Nat) := []
  loops : List (Nat × List Nat) := []
  hw : List Nat := []
  lg : List (Nat × TypeId) := []
  tp : List Nat := []
  jc : List (Nat × List (Nat × Ty)) := []
structure Env where
  rows : List (TypeId × TRow)
  ty : List (TypeId × Ty)
  con : FuncId → Con
  glob : List (Nat × AV) := []
def lk {β : Type} (d : β) : List (Nat × β) → Nat → β
  | [], _ => d
  | (k, v) :: r, i => cond (Nat.beq k i) v (lk d r i)
def lk? {β : Type} : List (Nat × β) → Nat → Option β
  | [], _ => none
  | (k, v) :: r, i => cond (Nat.beq k i) (some v) (lk? r i)
def has : List Nat → Nat → Bool
  | [], _ => false
  | k :: r, i => cond (Nat.beq k i) true (has r i)
def Env.row (E : Env) (t : TypeId) : Option TRow := lk? E.rows t
def Env.tyOf (E : Env) (t : TypeId) : Option Ty := lk? E.ty t
abbrev Slots := List (Nat × AV)
abbrev Objs := List (Nat × AObj)
def cst : Value → AV
  | .bool b => .bool b
  | .int k n => cond (decide (k.min ≤ n) && decide (n ≤ k.max)) (.int k n) .undef
  | .string s => cond (Nat.ble s.size 9223372036854775807) (.str s.data.toList) .undef
  | .pointer none => .nilp
  | .slice none 0 0 => .nils
  | .nilIface => .nilif
  | _ => .undef
def operand (E : Env) (s : Slots) : Operand → AV
  | .tmp t => lk .undef s t
  | .const v => cst v
  | .global g => lk .undef E.glob g
  | .func f => .fn (.func f) [] []
def AV.cells : AV → List AV
  | .agg cs => cs
  | .undef => []
  | v => [v]
def AV.solid : AV → Bool
  | .undef => false
  | .agg _ => false
  | .tup _ => false
  | _ => true
def solidL : List AV → Bool
  | [] => true
  | c :: cs => c.solid && solidL cs
def offAdd : Nat → Nat → Nat
  | 0, i => i
  | o + 1, i => o + 1 + i
def alen {t : Ty} (xs : List t.den) : List (List AV) → Nat
  | [] => xs.length
  | c :: cs => xs.length + (c :: cs).length
def eltCells (t : Ty) (xs : List t.den) (tail : List (List AV)) : Elt → List AV
  | .ty i => enc t (xs.getD i t.zero)
  | .tl p => tail.getD p []
def whole (isAgg : Bool) (cs : List AV) : Option AV :=
  cond isAgg (some (.agg cs)) (match cs with | [c] => some c | _ => none)
def Row.isAgg : Row → Bool
  | .struct _ _ => true
  | .array _ _ => true
  | _ => false
def splice (cs : List AV) (j : Nat) (vs : List AV) : List AV := cs.take j ++ vs ++ cs.drop (j + vs.length)
def fillC (place : Nat → Option (Nat × Nat)) (cells : List AV) : List (Nat × AV) → Option (List AV)
  | [] => some cells
  | (i, v) :: rest =>
    match place i with
    | none => none
    | some (off, size) => cond (Nat.blt 0 size && Nat.beq v.cells.length size && Nat.ble (off + size) cells.length) (fillC place (splice cells off v.cells) rest) none
def eqCells : List Ty → List AV → List AV → Option Bool
  | [], [], [] => some true
  | .bool :: ts, .bool a :: r, .bool b :: s => (eqCells ts r s).bind fun q => some ((a == b) && q)
  | .int k :: ts, .int k1 a :: r, .int k2 b :: s => cond (decide (k1 = k) && decide (k2 = k)) ((eqCells ts r s).bind fun q => some ((a == b) && q)) none
  | .str :: ts, .str a :: r, .str b :: s => (eqCells ts r s).bind fun q => some ((a == b) && q)
  | _, _, _ => none
def strLess : List UInt8 → List UInt8 → Bool
  | _, [] => false
  | [], _ :: _ => true
  | a :: x, b :: y => a < b || (a == b && strLess x y)
def intBits (op : BinOp) (k : IntKind) (x y : Int) : Option Int :=
  match op with
  | .and => some (k.wrap (BitVec.ofInt k.bits x &&& BitVec.ofInt k.bits y).toNat)
  | .or => some (k.wrap (BitVec.ofInt k.bits x ||| BitVec.ofInt k.bits y).toNat)
  | .xor => some (k.wrap (BitVec.ofInt k.bits x ^^^ BitVec.ofInt k.bits y).toNat)
  | .andNot => some (k.wrap (BitVec.ofInt k.bits x &&& ~~~BitVec.ofInt k.bits y).toNat)
  | _ => none
mutual
def AV.locs : AV → List Nat
  | .ptr l _ _ => [l]
  | .eptr cs => locsL cs
  | .hw l => [l]
  | .hs l _ _ => [l]
  | .hc l _ _ _ => [l]
  | .agg cs => locsL cs
  | .tup vs => locsL vs
  | .iface _ v => v.locs
  | .fn _ first cap => locsL first ++ locsL cap
  | .mp l => [l]
  | .it l => [l]
  | _ => []
def locsL : List AV → List Nat
  | [] => []
  | c :: cs => c.locs ++ locsL cs
end
mutual
def AV.ren (f : Nat → Option Nat) : AV → AV
  | .ptr l e j => match f l with | some m => .ptr m e j | none => .undef
  | .eptr cs => .eptr (renL f cs)
  | .hw l => match f l with | some m => .hw m | none => .undef
  | .hs l o n => match f l with | some m => .hs m o n | none => .undef
  | .hc l o n c => match f l with | some m => .hc m o n c | none => .undef
  | .agg cs => .agg (renL f cs)
  | .tup vs => .tup (renL f vs)
  | .iface t v => .iface t (v.ren f)
  | .fn g first cap => .fn g (renL f first) (renL f cap)
  | .mp l => match f l with | some m => .mp m | none => .undef
  | .it l => match f l with | some m => .it m | none => .undef
  | v => v
def renL (f : Nat → Option Nat) : List AV → List AV
  | [] => []
  | c :: cs => c.ren f :: renL f cs
end
def renLL (f : Nat → Option Nat) : List (List AV) → List (List AV)
  | [] => []
  | c :: cs => renL f c :: renLL f cs
def locsLL : List (List AV) → List Nat
  | [] => []
  | c :: cs => locsL c ++ locsLL cs
def AObj.locs : AObj → List Nat
  | .arr _ _ _ tail => locsLL tail
  | _ => []
def AObj.ren (f : Nat → Option Nat) : AObj → AObj
  | .arr sz t xs tail => .arr sz t xs (renLL f tail)
  | o => o
def reach (get : Nat → AObj) : Nat → List Nat → List Nat → List Nat
  | 0, _, acc => acc
  | _, [], acc => acc
  | k + 1, l :: r, acc => cond (has acc l) (reach get k r acc) (reach get k ((get l).locs ++ r) (acc ++ [l]))
def idx : List Nat → Nat → Nat → Option Nat
  | [], _, _ => none
  | m :: r, i, l => cond (Nat.beq m l) (some i) (idx r (i + 1) l)
def nodupB : List Nat → Bool
  | [] => true
  | m :: r => !has r m && nodupB r
def numbered {β : Type} : Nat → List β → List (Nat × β)
  | _, [] => []
  | i, x :: r => (i, x) :: numbered (i + 1) r
def reachFuel : Nat := 200
def startsNum : Nat → Nat → List Nat → Bool
  | 0, _, _ => true
  | k + 1, i, l :: r => Nat.beq l i && startsNum k (i + 1) r
  | _ + 1, _, [] => false
def backI (ls : List Nat) (nx : Nat) (n : Nat) (i : Nat) : Option Nat :=
  cond (Nat.blt i ls.length) (ls[i]?) (cond (Nat.blt i n) (some (nx + (i - ls.length))) none)
def allBelow : List Nat → Nat → Bool
  | [], _ => true
  | l :: r, n => Nat.blt l n && allBelow r n
mutual
def AV.closed : AV → Bool
  | .ptr _ _ _ => false
  | .eptr cs => closedL cs
  | .hw _ => false
  | .hs _ _ _ => false
  | .hc _ _ _ _ => false
  | .agg cs => closedL cs
  | .tup vs => closedL vs
  | .iface _ v => v.closed
  | .fn _ first cap => closedL first && closedL cap
  | .mp _ => false
  | .it _ => false
  | _ => true
def closedL : List AV → Bool
  | [] => true
  | c :: cs => c.closed && closedL cs
end
def closeV (get : Nat → AObj) : AV → AV
  | .hw l => match get l with
    | .log t xs => .vl t xs
    | _ => .hw l
  | v => v
def closeA (get : Nat → AObj) : AV → AV
  | .agg cs => .agg (cs.map (closeV get))
  | v => closeV get v
def closeL (get : Nat → AObj) : List AV → List AV
  | [] => []
  | c :: cs => closeA get c :: closeL get cs
def pick {α : Type} : List (Bool × α) → Option α
  | [] => none
  | (c, v) :: r => cond c (some v) (pick r)
section
variable {R : Type}
def binK (op : BinOp) (x y : AV) (K : AV → Option R) : Option R :=
  match x, y with
  | .int k a, .int k' b =>
    match op with
    | .shl => cond (decide (b < 0)) none (K (.int k (k.wrap (a * 2 ^ (min b.toNat k.bits)))))
    | .shr => cond (decide (b < 0)) none (K (.int k (a.fdiv (2 ^ (min b.toNat k.bits)))))
    | _ =>
    cond (decide (k = k')) (match op with
      | .add => K (.int k (k.wrap (a + b)))
      | .sub => K (.int k (k.wrap (a - b)))
      | .mul => K (.int k (k.wrap (a * b)))
      | .quo => cond (decide (b = 0)) none (K (.int k (k.wrap (a.tdiv b))))
      | .rem => cond (decide (b = 0)) none (K (.int k (a.tmod b)))
      | .eql => K (.bool (a == b))
      | .neq => K (.bool (a != b))
      | .lss => K (.bool (decide (a < b)))
      | .leq => K (.bool (decide (a ≤ b)))
      | .gtr => K (.bool (decide (a > b)))
      | .geq => K (.bool (decide (a ≥ b)))
      | _ => (intBits op k a b).bind fun n => K (.int k n)) none
  | .str a, .str b =>
    match op with
    | .add => cond (decide (a.length + b.length ≤ 9223372036854775807)) (K (.str (a ++ b))) none
    | .eql => K (.bool (a == b))
    | .neq => K (.bool (!(a == b)))
    | .lss => K (.bool (strLess a b))
    | .leq => K (.bool (strLess a b || (a == b)))
    | .gtr => K (.bool (!(strLess a b || (a == b))))
    | .geq => K (.bool (!strLess a b))
    | _ => none
  | _, _ => none
def unK (op : UnOp) (x : AV) (K : AV → Option R) : Option R :=
  match op, x with
  | .neg, .int k n => K (.int k (k.wrap (0 - n)))
  | .xor, .int k n => K (.int k (k.wrap (BitVec.ofInt k.bits (if k.signed then -1 else k.max) ^^^ BitVec.ofInt k.bits n).toNat))
  | .not, .bool b => K (.bool (!b))
  | _, _ => none
def tlK (m : Nat) (K : Nat → Option R) : Nat → List (List AV) → Option R
  | _, [] => none
  | p, _ :: r => cond (decide (m = p)) (K p) (tlK m K (p + 1) r)
def frontE (t e : Ty) (xs : List t.den) : Option (List e.den) :=
  if h : t = e then some (h ▸ xs) else match xs with
    | [] => some []
    | _ :: _ => none
def placeK (l : Nat) {t : Ty} (xs : List t.den) (tail : List (List AV)) (m : Nat) (K : AV → Option R) : Option R :=
  match tail with
  | [] => K (.ptr l (.ty m) 0)
  | c :: cs => cond (decide (m < xs.length)) (K (.ptr l (.ty m) 0)) (tlK (m - xs.length) (fun p => K (.ptr l (.tl p) 0)) 0 (c :: cs))
def bytesOf (s : List UInt8) : List Int := s.map fun b => (b.toNat : Int)
def ofBytes (l : List Int) : List UInt8 := l.map fun n => UInt8.ofNat n.toNat
def elems (get : Nat → AObj) (t : Ty) : AV → Option (List t.den × List Nat)
  | .nils => some ([], [])
  | .ve _ => some ([], [])
  | .vl t' xs => if h : t' = t then some (h ▸ xs, []) else none
  | .hw l => match get l with
    | .arr sz t' xs tail => cond (Nat.beq sz t.sz) (if h : t' = t then (match tail with | [] => some (h ▸ xs, [l]) | c :: cs => (decAll t (c :: cs)).bind fun ys => some ((h ▸ xs) ++ ys, [l])) else
        (match xs with | [] => (decAll t tail).bind fun ys => some (ys, [l]) | _ => none)) none
    | _ => none
  | .hs l o n => match get l with
    | .arr sz t' xs tail => cond (Nat.beq sz t.sz) (if h : t' = t then (match tail with | [] => some ((xs.drop o).take n |> (h ▸ ·), [l]) | _ => none) else none) none
    | _ => none
  | .hc l o n _ => match get l with
    | .arr sz t' xs tail => cond (Nat.beq sz t.sz) (if h : t' = t then (match tail with | [] => some ((xs.drop o).take n |> (h ▸ ·), [l]) | _ => none) else none) none
    | _ => none
  | .str s => if h : t = .int .u8 then some (h ▸ bytesOf s, []) else none
  | _ => none
def lowHigh (n : Nat) (lo hi : Option AV) (K : Option Nat → Option Nat → Option R) : Option R :=
  match lo, hi with
  | none, none => K none none
  | some (.int _ a), none => cond (decide (0 ≤ a) && decide (a ≤ (n : Int))) (K (some a.toNat) none) none
  | none, some (.int _ b) => cond (decide (0 ≤ b) && decide (b ≤ (n : Int))) (K none (some b.toNat)) none
  | some (.int _ a), some (.int _ b) => cond (decide (0 ≤ b) && decide (b ≤ (n : Int))) (cond (decide (0 ≤ a) && decide (a ≤ b)) (K (some a.toNat) (some b.toNat)) none) none
  | _, _ => none
def cutL {α : Type} (xs : List α) : Option Nat → Option Nat → List α
  | none, none => xs
  | some a, none => xs.drop a
  | none, some b => xs.take b
  | some a, some b => (xs.take b).drop a
def cutOff (o : Nat) : Option Nat → Nat
  | none => o
  | some a => offAdd o a
def cutLen (n : Nat) : Option Nat → Option Nat → Nat
  | none, none => n
  | some a, none => n - a
  | none, some b => b
  | some a, some b => b - a
def keyEq : (t : Ty) → t.den → t.den → Bool
  | .bool, a, b => a == b
  | .int _, a, b => a == b
  | .str, a, b => a == b
  | _, _, _ => false
def mget {kt vt : Ty} (k : kt.den) : List (kt.den × vt.den) → Option vt.den
  | [] => none
  | e :: es => cond (keyEq kt k e.1) (some e.2) (mget k es)
def mset {kt vt : Ty} (k : kt.den) (v : vt.den) : List (kt.den × vt.den) → List (kt.den × vt.den)
  | [] => [(k, v)]
  | e :: es => cond (keyEq kt k e.1) ((k, v) :: es) (e :: mset k v es)
def mdel {kt vt : Ty} (k : kt.den) : List (kt.den × vt.den) → List (kt.den × vt.den)
  | [] => []
  | e :: es => cond (keyEq kt k e.1) es (e :: mdel k es)
def isTy (a : Option Ty) (b : Ty) : Bool := match a with
  | some c => decide (c = b)
  | none => false
def aggOk (c : AV) (n : Nat) : Bool := match c with
  | .agg _ => Nat.blt 1 n
  | _ => true
def okKey : Ty → Bool
  | .bool => true
  | .int _ => true
  | .str => true
  | _ => false
def valOf (t : Ty) (x : t.den) : AV := match enc t x with
  | [c] => c
  | cs => .agg cs
def viewTy (t : Ty) (v : AV) : Option t.den := cond (aggOk v t.sz) (dec t v.cells) none
@[reducible] def tysDen : List Ty → Type
  | [] => Unit
  | t :: r => t.den × tysDen r
def valsOf : (ts : List Ty) → tysDen ts → List AV
  | [], _ => []
  | t :: r, x => valOf t x.1 :: valsOf r x.2
def viewTys : (ts : List Ty) → List AV → Option (tysDen ts)
  | [], [] => some ()
  | t :: r, v :: vs => (viewTy t v).bind fun x => (viewTys r vs).bind fun y => some (x, y)
  | _, _ => none
abbrev Kont (R : Type) := AV → List (Nat × AObj) → List Nat → Nat → Option R
def sliceK (get : Nat → AObj) (sz : Nat) (x : AV) (lo hi mx : Option AV) (K : AV → List Nat → Option R) : Option R :=
  match mx with
  | some m => match x with
    | .nils => match lo, hi, m with
      | none, some (.int _ 0), .int _ 0 => K .nils []
      | _, _, _ => none
    | .vl t xs => match lo, hi, m with
      | none, some (.int _ a), .int _ b => cond (Nat.beq t.sz sz && decide (0 ≤ a) && decide (a = b) && decide (b ≤ (xs.length : Int))) (K (.vl t (xs.take a.toNat)) []) none
      | _, _, _ => none
    | _ => none
  | none => match x with
    | .vl t xs => cond (Nat.beq t.sz sz) (lowHigh xs.length lo hi fun a b => K (.vl t (cutL xs a b)) []) none
    | .nils => lowHigh 0 lo hi fun _ _ => K .nils []
    | .hw l => match get l with
      | .arr sz' _ xs tail => cond (Nat.beq sz' sz) (lowHigh (alen xs tail) lo hi fun a b => K (match a, b with | none, none => .hw l | _, _ => .hs l (cutOff 0 a) (cutLen (alen xs tail) a b)) [l]) none
      | _ => none
    | .hs l o n => match get l with
      | .arr sz' _ _ _ => cond (Nat.beq sz' sz) (lowHigh n lo hi fun a b => K (.hs l (cutOff o a) (cutLen n a b)) [l]) none
      | _ => none
    | _ => none
def appendK (E : Env) (get : Nat → AObj) (nx : Nat) (elem : TypeId) (base src : AV) (K : Kont R) : Option R :=
  match E.row elem, E.tyOf elem with
  | some rw, some t =>
    cond (Nat.blt 0 rw.bytes) (match base with
    | .nils => (elems get t src).bind fun (ys, rd) =>
        cond (decide (ys.length * rw.bytes ≤ 140737488355328)) (K (.hw nx) [(nx, .arr rw.size t ys [])] rd (nx + 1)) none
    | .hw l => (elems get t base).bind fun (xs, _) => (elems get t src).bind fun (ys, rd) =>
        cond (decide ((xs ++ ys).length * rw.bytes ≤ 140737488355328)) (K (.hw nx) [(nx, .arr rw.size t (xs ++ ys) []), (l, .dead)] (l :: rd) (nx + 1)) none
    | _ => none) none
  | _, _ => none
def pickK {α : Type} (K : α → Option R) : List (Bool × α) → Option R
  | [] => none
  | (c, v) :: r => cond c (K v) (pickK K r)
def patch (ls : List Nat) (nx : Nat) (objs : List AObj) : List (Nat × AObj) :=
  (List.range objs.length).filterMap fun i => (backI ls nx objs.length i).bind fun m => (objs[i]?).map fun o => (m, o.ren (backI ls nx objs.length))
def callK (E : Env) (get : Nat → AObj) (n : FuncId) (args : List AV) (nx : Nat) (K : Kont R) : Option R :=
  match E.con n with
  | .pure G => cond (closedL (closeL get args)) (pickK (fun r => cond r.closed (K r [] (locsL args) nx) none) (G (closeL get args))) none
  | .eff F => (fun ls => cond (nodupB ls && allBelow ls nx)
      (pickK (fun r => cond (Nat.ble ls.length r.2.length) (K (r.1.ren (backI ls nx r.2.length)) (patch ls nx r.2) ls (nx + (r.2.length - ls.length))) none)
        (F (renL (idx ls 0) args) (ls.map fun l => (get l).ren (idx ls 0)))) none) (reach get reachFuel (locsL args) [])
  | .cps G => (fun ls => cond (nodupB ls && allBelow ls nx)
      (G R (renL (idx ls 0) args) (ls.map fun l => (get l).ren (idx ls 0)) fun r => cond (Nat.ble ls.length r.2.length) (K (r.1.ren (backI ls nx r.2.length)) (patch ls nx r.2) ls (nx + (r.2.length - ls.length))) none) none) (reach get reachFuel (locsL args) [])
  | _ => none
def evalOp (E : Env) (get : Nat → AObj) (nx : Nat) (ρ : Operand → AV) (o : Oper) (K : Kont R) : Option R :=
  match o.op with
  | .move x => K (ρ x) [] [] nx
  | .assign x => K (ρ x) [] [] nx
  | .pick c a b => match ρ c with
    | .bool q => cond q (K (ρ a) [] [] nx) (K (ρ b) [] [] nx)
    | _ => none
  | .alloc t => (E.row t).bind fun rw => K (.ptr nx (.tl 0) 0) [(nx, .arr rw.size .bool [] [rw.zero])] [] (nx + 1)
  | .box t x => (E.row t).bind fun rw => cond (Nat.blt 0 rw.size && Nat.beq (ρ x).cells.length rw.size) (K (.ptr nx (.tl 0) 0) [(nx, .arr rw.size .bool [] [(ρ x).cells])] [] (nx + 1)) none
  | .build t parts => (E.row t).bind fun rw => match rw.kind with
    | .struct fs _ => (fillC (fun i => fs[i]?) rw.zero (parts.toList.map fun p => (p.1, ρ p.2))).bind fun cs => K (.agg cs) [] [] nx
    | _ => none
  | .buildSlice t len parts => (E.row t).bind fun rw => match rw.kind with
    | .slice e => (E.row e).bind fun re =>
      cond (Nat.ble (len * re.size) 16777216 && Nat.ble len 16777216) ((fillC (fun i => some (i * re.size, re.size)) (List.replicate len re.zero).flatten (parts.toList.map fun p => (p.1, ρ p.2))).bind fun cs =>
        K (.hw nx) [(nx, .arr re.size .bool [] ((List.range len).map fun i => (cs.drop (i * re.size)).take re.size))] [] (nx + 1)) none
    | _ => none
  | .load t x => (E.row t).bind fun rw => match ρ x with
    | .ptr l e j => match get l with
      | .arr _ ty xs tail => let cs := ((eltCells ty xs tail e).drop j).take rw.size
          cond (Nat.beq cs.length rw.size) ((whole rw.kind.isAgg cs).bind fun v => K v [] [l] nx) none
      | _ => none
    | .eptr cs0 => let cs := cs0.take rw.size
          cond (Nat.beq cs.length rw.size) ((whole rw.kind.isAgg cs).bind fun v => K v [] [] nx) none
    | _ => none
  | .store t x y => (E.row t).bind fun rw => cond (Nat.blt 0 rw.size && Nat.beq (ρ y).cells.length rw.size && solidL (ρ y).cells) (match ρ x with
    | .ptr l e j => match get l with
      | .arr sz ty xs tail => match e with
        | .tl p => let old := tail.getD p []
            cond (Nat.ble (j + rw.size) old.length) (K .undef [(l, .arr sz ty xs (tail.set p (splice old j (ρ y).cells)))] [l] nx) none
        | .ty i => let old := enc ty (xs.getD i ty.zero)
            cond (Nat.ble (j + rw.size) old.length) ((dec ty (splice old j (ρ y).cells)).bind fun v =>
              (cond (Nat.ble xs.length xs.length) (some (xs.set i v)) none).bind fun ys => K .undef [(l, .arr sz ty ys tail)] [l] nx) none
      | _ => none
    | _ => none) none
  | .nilCheck x => match ρ x with
    | .ptr l e j => K (.ptr l e j) [] [] nx
    | .eptr cs => K (.eptr cs) [] [] nx
    | _ => none
  | .binOp op t x y _ => match ρ x with
    | .agg cs => (E.row t).bind fun rw => match rw.kind with
      | .struct _ (k :: ks) => match ρ y, op with
        | .agg ds, .eql => (eqCells (k :: ks) cs ds).bind fun q => K (.bool q) [] [] nx
        | .agg ds, .neq => (eqCells (k :: ks) cs ds).bind fun q => K (.bool (!q)) [] [] nx
        | _, _ => none
      | _ => none
    | .bool a => (E.row t).bind fun rw => match rw.kind, ρ y, op with
      | .bool, .bool b, .eql => K (.bool (a == b)) [] [] nx
      | .bool, .bool b, .neq => K (.bool (!(a == b))) [] [] nx
      | _, _, _ => none
    | .nilp => (E.row t).bind fun rw => match rw.kind, ρ y, op with
      | .ptr _, .nilp, .eql => K (.bool true) [] [] nx
      | .ptr _, .nilp, .neq => K (.bool false) [] [] nx
      | .ptr _, .ptr _ _ _, .eql => K (.bool false) [] [] nx
      | .ptr _, .ptr _ _ _, .neq => K (.bool true) [] [] nx
      | _, _, _ => none
    | .ptr _ _ _ => (E.row t).bind fun rw => match rw.kind, ρ y, op with
      | .ptr _, .nilp, .eql => K (.bool false) [] [] nx
      | .ptr _, .nilp, .neq => K (.bool true) [] [] nx
      | _, _, _ => none
    | a => binK op a (ρ y) fun v => K v [] [] nx
  | .unOp op _ x => unK op (ρ x) fun v => K v [] [] nx
  | .convert src dst x => (E.row src).bind fun rs => (E.row dst).bind fun rd => match rs.kind, rd.kind, ρ x with
    | .int _, .int k, .int _ n => K (.int k (k.wrap n)) [] [] nx
    | .str, .str, .str s => K (.str s) [] [] nx
    | .str, .slice e, .str s => (E.row e).bind fun re => match re.kind with
      | .int .u8 => K (.vl (.int .u8) (bytesOf s)) [] [] nx
      | _ => none
    | .slice e, .str, v => (E.row e).bind fun re => match re.kind, v with
      | _, .str _ => none
      | .int .u8, v => (elems get (.int .u8) v).bind fun (xs, rdl) => K (.str (ofBytes xs)) [] rdl nx
      | _, _ => none
    | .int _, .str, .int _ n => cond (Nat.ble (Utf8.encode n).data.toList.length 4) (K (.str (Utf8.encode n).data.toList) [] [] nx) none
    | _, _, _ => none
  | .makeInterface t x => (E.row t).bind fun rw => match rw.kind with
    | .iface => none
    | _ => K (.iface t (ρ x)) [] [] nx
  | .makeFunc f first cap => K (.fn f (first.toList.map ρ) (cap.toList.map ρ)) [] [] nx
  | .makeMap t none => (E.row t).bind fun rw => match rw.kind with
    | .map k v => (E.tyOf k).bind fun kt => (E.tyOf v).bind fun vt => cond (okKey kt) (K (.mp nx) [(nx, .map kt vt [])] [] (nx + 1)) none
    | _ => none
  | .makeSlice t l c => (E.row t).bind fun rw => match rw.kind with
    | .slice e => (E.row e).bind fun re => (E.tyOf e).bind fun te => match ρ l, ρ c with
      | .int .i64 n, .int .i64 m => cond (decide (0 ≤ n) && decide (n = m) && decide (n.toNat * re.bytes ≤ 140737488355328) && decide (n ≤ 9223372036854775807))
          (K (.hw nx) [(nx, .arr re.size te (List.replicate n.toNat te.zero) [])] [] (nx + 1)) none
      | _, _ => none
    | _ => none
  | .slice t x lo hi mx => (E.row t).bind fun rw => match rw.kind with
    | .str => match ρ x, mx with
      | .str s, none => lowHigh s.length (lo.map ρ) (hi.map ρ) fun a b => K (.str (cutL s a b)) [] [] nx
      | _, _ => none
    | .slice e => (E.row e).bind fun re => sliceK get re.size (ρ x) (lo.map ρ) (hi.map ρ) (mx.map ρ) fun v rd => K v [] rd nx
    | _ => none
  | .fieldAddr t x f => (E.row t).bind fun rw => match rw.kind with
    | .struct fs _ => (fs[f]?).bind fun p => match ρ x with
      | .ptr l e j => K (.ptr l e (j + p.1)) [] [] nx
      | .eptr cs => K (.eptr (cs.drop p.1)) [] [] nx
      | _ => none
    | _ => none
  | .field t x f => (E.row t).bind fun rw => match rw.kind with
    | .struct fs _ => (fs[f]?).bind fun p => match ρ x with
      | .agg cs => cond (Nat.ble (p.1 + p.2) cs.length) (match p.2 with | 1 => (match cs.drop p.1 with | c :: _ => K c [] [] nx | _ => none) | n => K (.agg ((cs.drop p.1).take n)) [] [] nx) none
      | _ => none
    | _ => none
  | .indexAddr t x i => (E.row t).bind fun rw => match rw.kind with
    | .slice e => (E.row e).bind fun re => match ρ i with
      | .int _ n => match ρ x with
        | .vl t xs => cond (Nat.beq t.sz re.size) (cond (decide (0 ≤ n) && decide (n < (xs.length : Int))) (K (.eptr (enc t (xs.getD n.toNat t.zero))) [] [] nx) none) none
        | .hw l => match get l with
          | .arr sz _ xs tail => cond (Nat.beq sz re.size) (cond (decide (0 ≤ n) && decide (n < (alen xs tail : Int))) (placeK l xs tail n.toNat fun v => K v [] [l] nx) none) none
          | _ => none
        | .hs l o m => match get l with
          | .arr sz _ xs tail => cond (Nat.beq sz re.size) (cond (decide (0 ≤ n) && decide (n < (m : Int))) (placeK l xs tail (offAdd o n.toNat) fun v => K v [] [l] nx) none) none
          | _ => none
        | _ => none
      | _ => none
    | .array m e => (E.row e).bind fun re => match ρ i with
      | .int _ n => match ρ x with
        | .ap t xs => cond (Nat.beq t.sz re.size && Nat.beq m xs.length) (cond (decide (0 ≤ n) && decide (n < (xs.length : Int))) (K (.eptr (enc t (xs.getD n.toNat t.zero))) [] [] nx) none) none
        | _ => none
      | _ => none
    | _ => none
  | .index t x i => (E.row t).bind fun rw => match rw.kind, ρ i, ρ x with
    | .str, .int _ n, .str s => cond (decide (0 ≤ n) && decide (n < (s.length : Int))) (K (.int .u8 ((s.getD n.toNat 0).toNat : Int)) [] [] nx) none
    | .array m e, .int _ n, .agg cs => (E.row e).bind fun re => cond (decide (0 ≤ n) && decide (n < (m : Int)))
        (match n with
          | .ofNat j => let ds := (cs.drop (j * re.size)).take re.size
              cond (Nat.beq ds.length re.size) ((whole re.kind.isAgg ds).bind fun v => K v [] [] nx) none
          | _ => none) none
    | _, _, _ => none
  | .lookup t x k ok => (E.row t).bind fun rw => match rw.kind with
    | .map kt0 vt0 => match ρ x with
      | .mp l => match get l with
        | .map kt vt es => cond (isTy (E.tyOf kt0) kt && isTy (E.tyOf vt0) vt) ((dec kt [ρ k]).bind fun key =>
            (whole (Nat.blt 1 vt.sz) (enc vt ((mget key es).getD vt.zero))).bind fun v =>
            K (cond ok (.tup [v, .bool (mget key es).isSome]) v) [] [l] nx) none
        | _ => none
      | _ => none
    | _ => none
  | .mapUpdate t x k v => (E.row t).bind fun rw => match rw.kind with
    | .map kt0 vt0 => match ρ x with
      | .mp l => match get l with
        | .map kt vt es => cond (isTy (E.tyOf kt0) kt && isTy (E.tyOf vt0) vt && decide (es.length < 9223372036854775807)) ((dec kt [ρ k]).bind fun key => cond (aggOk (ρ v) vt.sz) ((dec vt (ρ v).cells).bind fun val => K .undef [(l, .map kt vt (mset key val es))] [l] nx) none) none
        | _ => none
      | _ => none
    | _ => none
  | .range t x => (E.row t).bind fun rw => match rw.kind, ρ x with
    | .str, .str s => K (.it nx) [(nx, .siter s 0)] [] (nx + 1)
    | _, _ => none
  | .next x true => match ρ x with
    | .it l => match get l with
      | .siter s pos => cond (decide (pos < s.length))
          (K (.tup [.bool true, .int .i64 (pos : Int), .int .i32 ((Utf8.decode ⟨s.toArray⟩ pos).1 : Int)]) [(l, .siter s (pos + (Utf8.decode ⟨s.toArray⟩ pos).2))] [l] nx)
          (K (.tup [.bool false]) [] [l] nx)
      | _ => none
    | _ => none
  | .typeAssert x _ t ok => (E.row t).bind fun rw => match rw.kind with
    | .iface => none
    | _ => match ρ x with
      | .iface u v => cond (Nat.beq u t) (K (cond ok (.tup [v, .bool true]) v) [] [] nx)
          (cond ok ((whole rw.kind.isAgg rw.zero).bind fun z => K (.tup [z, .bool false]) [] [] nx) none)
      | .nilif => cond ok ((whole rw.kind.isAgg rw.zero).bind fun z => K (.tup [z, .bool false]) [] [] nx) none
      | _ => none
  | .extract x i => match ρ x with
    | .tup vs => (vs[i]?).bind fun v => K v [] [] nx
    | _ => none
  | .call c => match c.callee with
    | .builtin .len => (c.argTypes[0]?).bind fun t => (E.row t).bind fun rw => match rw.kind, c.args.toList.map ρ with
      | .str, [.str s] => K (.int .i64 (s.length : Int)) [] [] nx
      | .slice _, [.vl _ xs] => K (.int .i64 (xs.length : Int)) [] [] nx
      | .slice _, [.nils] => K (.int .i64 0) [] [] nx
      | .slice _, [.hs l _ n] => K (.int .i64 (n : Int)) [] [l] nx
      | .slice _, [.hw l] => match get l with
        | .arr _ _ xs tail => K (.int .i64 (alen xs tail : Int)) [] [l] nx
        | _ => none
      | .map _ _, [.mp l] => match get l with
        | .map _ _ es => K (.int .i64 (es.length : Int)) [] [l] nx
        | _ => none
      | _, _ => none
    | .builtin .append => match c.argTypes.toList, c.args.toList.map ρ with
      | [t, u], [b, s] => (E.row t).bind fun rw => (E.row u).bind fun ru => match rw.kind, ru.kind with
        | .slice e, .slice _ => appendK E get nx e b s K
        | .slice e, .str => appendK E get nx e b s K
        | _, _ => none
      | _, _ => none
    | .builtin .min => match c.args.toList.map ρ with
      | [.int k a, .int k' b] => cond (decide (k' = k)) (K (.int k (cond (decide (b < a)) b a)) [] [] nx) none
      | _ => none
    | .builtin .max => match c.args.toList.map ρ with
      | [.int k a, .int k' b] => cond (decide (k' = k)) (K (.int k (cond (decide (b > a)) b a)) [] [] nx) none
      | _ => none
    | .builtin .delete => (c.argTypes[0]?).bind fun t => (E.row t).bind fun rw => match rw.kind with
      | .map kt0 _ => match c.args.toList.map ρ with
        | [.mp l, k] => match get l with
          | .map kt vt es => cond (isTy (E.tyOf kt0) kt) ((dec kt [k]).bind fun key => K (.tup []) [(l, .map kt vt (mdel key es))] [l] nx) none
          | _ => none
        | _ => none
      | _ => none
    | .value f => match ρ f with
      | .fn (.func n) first cap => callK E get n (first ++ c.args.toList.map ρ ++ cap) nx K
      | _ => none
    | _ => none
  | _ => none
def partOf : AV → Option (Nat × Nat × Nat × Option Nat)
  | .hs l o n => some (l, o, n, none)
  | .hc l o n c => some (l, o, n, some c)
  | _ => none
def cutCap (c : Nat) : Option Nat → Nat
  | none => c
  | some a => c - a
def growK (nx l off n c sz : Nat) (b : Int) (y : Ty) (xs : List y.den) (tail : List (List AV)) (K : Kont R) : Option R :=
  cond (decide (0 ≤ b) && decide (b ≤ (n : Int))) (K (.hc l off b.toNat c) [] [l] nx)
    (match tail with
      | [] => cond (decide (b = (n : Int) + 1) && decide (n + 1 ≤ c) && decide (off + n = xs.length) && decide (xs.length < 9223372036854775807) && Nat.blt 0 sz) (K (.hc nx off (n + 1) c) [(nx, .arr sz y xs [List.replicate sz .undef]), (l, .dead)] [l] (nx + 1)) none
      | _ => none)
def appPartK (E : Env) (get : Nat → AObj) (nx : Nat) (e : TypeId) (l off n : Nat) (s : AV) (K : Kont R) : Option R :=
  match E.row e, E.tyOf e, get l with
  | some re, some t, .arr sz y zs [] => if h : y = t then (elems get t s).bind fun (ys, rd) =>
      cond (Nat.blt 0 re.bytes && Nat.beq sz t.sz && decide ((((h ▸ zs : List t.den).drop off).take n ++ ys).length * re.bytes ≤ 140737488355328))
        (K (.hw nx) [(nx, .arr re.size t (((h ▸ zs : List t.den).drop off).take n ++ ys) []), (l, .dead)] (l :: rd) (nx + 1)) none else none
  | _, _, _ => none
def appZeroK (E : Env) (get : Nat → AObj) (nx : Nat) (e : TypeId) (l off n c : Nat) (k : Int) (K : Kont R) : Option R :=
  match E.row e, E.tyOf e, get l with
  | some re, some t, .arr sz y zs [] => if h : y = t then
      cond (Nat.blt 0 re.bytes && Nat.beq sz t.sz && decide (0 < k) && decide (c < n + k.toNat) && decide (off + n ≤ zs.length) && decide ((n + k.toNat) * re.bytes ≤ 140737488355328))
        (K (.hw nx) [(nx, .arr re.size t (((h ▸ zs : List t.den).drop off).take n ++ List.replicate k.toNat t.zero) [])] [l] (nx + 1)) none else none
  | _, _, _ => none
def appNilZeroK (E : Env) (nx : Nat) (e : TypeId) (k : Int) (K : Kont R) : Option R :=
  match E.row e, E.tyOf e with
  | some re, some t => cond (Nat.blt 0 re.bytes && decide (0 < k) && decide (k.toNat * re.bytes ≤ 140737488355328)) (K (.hw nx) [(nx, .arr re.size t (List.replicate k.toNat t.zero) [])] [] (nx + 1)) none
  | _, _ => none
def copyK (E : Env) (get : Nat → AObj) (nx : Nat) (e : TypeId) (l off n : Nat) (s : AV) (K : Kont R) : Option R :=
  match E.row e, E.tyOf e, get l with
  | some _, some t, .arr sz y zs0 tail => if h : y = t then cond (Nat.beq sz t.sz) ((fun (zs : List t.den) => match tail with
      | [.undef :: _] => match partOf s with
        | some (l', so, m, _) => cond (Nat.beq l' l && decide (off + n = zs.length + 1) && decide (off ≤ zs.length) && decide (so + n ≤ zs.length) && decide (n ≤ m))
            (K (.int .i64 ((n : Nat) : Int)) [(l, .arr sz t ((zs.take off ++ (zs.drop so).take n).take zs.length) [enc t ((zs.take off ++ (zs.drop so).take n).getD zs.length t.zero)])] [l] nx) none
        | none => none
      | _ => (elems get t s).bind fun (ys, rd) => cond (decide (ys.length ≤ n) && decide (off + ys.length ≤ zs.length)) (K (.int .i64 ((ys.length : Nat) : Int)) [(l, .arr sz t (zs.take off ++ ys ++ zs.drop (off + ys.length)) tail)] (l :: rd) nx) none)
      (h ▸ zs0)) none else none
  | _, _, _ => none
def clearK (E : Env) (get : Nat → AObj) (nx : Nat) (e : TypeId) (l off n : Nat) (K : Kont R) : Option R :=
  match E.row e, E.tyOf e, get l with
  | some _, some t, .arr sz y zs0 [] => if h : y = t then cond (Nat.beq sz t.sz && decide (n = 1) && decide (off < zs0.length)) ((fun (zs : List t.den) => K (.tup []) [(l, .arr sz t (zs.take off ++ [t.zero] ++ zs.drop (off + 1)) [])] [l] nx) (h ▸ zs0)) none else none
  | _, _, _ => none
def appLogK (E : Env) (nx : Nat) (get : Nat → AObj) (e : TypeId) (l : Nat) (y : Ty) (zs : List y.den) (s : AV) (K : Kont R) : Option R :=
  match E.row e, E.tyOf e with
  | some re, some t => if h : y = t then (elems get t s).bind fun (ys, rd) =>
      cond (Nat.blt 0 re.bytes && decide (((h ▸ zs : List t.den) ++ ys).length * re.bytes ≤ 140737488355328)) (K (.hw nx) [(nx, .log t ((h ▸ zs : List t.den) ++ ys)), (l, .dead)] (l :: rd) (nx + 1)) none else none
  | _, _ => none
def nilK (get : Nat → AObj) (x : AV) (K : Bool → List Nat → Option R) : Option R := match x with
  | .nils => K true []
  | .ve b => K b []
  | .vl _ xs => cond (decide (0 < xs.length)) (K false []) none
  | .hw l => match get l with
    | .arr _ _ xs tail => cond (decide (0 < alen xs tail)) (K false [l]) none
    | _ => none
  | .hs _ _ n => cond (decide (0 < n)) (K false []) none
  | _ => none
def anyHw : List AV → Bool
  | [] => false
  | c :: r => match c with
    | .hw _ => true
    | _ => anyHw r
def anyHwT : List (List AV) → Bool
  | [] => false
  | c :: r => anyHw c || anyHwT r
def appTailK (E : Env) (nx : Nat) (get : Nat → AObj) (e : TypeId) (l m : Nat) (c : List AV) (K : Kont R) : Option R :=
  match E.row e, E.tyOf e, get l, get m with
  | some re, some t, .arr sz y0 xs0 [_], .arr sz' _ [] [d] => cond (Nat.blt 0 re.bytes && Nat.beq sz t.sz && Nat.beq sz' t.sz)
      ((frontE y0 t xs0).bind fun xs => (dec t (closeL get c)).bind fun z => (dec t (closeL get d)).bind fun _ =>
        cond (decide ((xs.length + 2) * re.bytes ≤ 140737488355328)) (K (.hw nx) [(nx, .arr re.size t (xs ++ [z]) [d]), (l, .dead)] (l :: m :: (locsL c ++ locsL d)) (nx + 1)) none) none
  | _, _, _, _ => none
def appTail0K (E : Env) (nx : Nat) (get : Nat → AObj) (e : TypeId) (l m : Nat) (K : Kont R) : Option R :=
  match E.row e, E.tyOf e, get l, get m with
  | some re, some t, .arr sz y0 xs0 [], .arr sz' _ [] [d] => cond (Nat.blt 0 re.bytes && Nat.beq sz t.sz && Nat.beq sz' t.sz)
      ((frontE y0 t xs0).bind fun xs => (dec t (closeL get d)).bind fun _ =>
        cond (decide ((xs.length + 1) * re.bytes ≤ 140737488355328)) (K (.hw nx) [(nx, .arr re.size t xs [d]), (l, .dead)] (l :: m :: locsL d) (nx + 1)) none) none
  | _, _, _, _ => none
def newK (E : Env) (get : Nat → AObj) (nx : Nat) (ρ : Operand → AV) (o : Oper) (K : Kont R) : Option (Option R) :=
  match o.op with
  | .slice t x lo hi none => match ρ x with
    | .hc l off n c => some ((E.row t).bind fun rw => match rw.kind with
      | .slice e => (E.row e).bind fun re => match get l with
        | .arr sz y xs tail => cond (Nat.beq sz re.size) (match lo.map ρ, hi.map ρ with
            | none, some (.int _ b) => growK nx l off n c sz b y xs tail K
            | lo', hi' => lowHigh n lo' hi' fun a b => K (.hc l (cutOff off a) (cutLen n a b) (cutCap c a)) [] [l] nx) none
        | _ => none
      | _ => none)
    | _ => none
  | .binOp op t x y _ => match ρ y with
    | .nils => some ((E.row t).bind fun rw => match rw.kind with
      | .slice _ => match op with
        | .eql => nilK get (ρ x) fun b rd => K (.bool b) [] rd nx
        | .neq => nilK get (ρ x) fun b rd => K (.bool (!b)) [] rd nx
        | _ => none
      | _ => none)
    | _ => none
  | .indexAddr t x i => match ρ x with
    | .hc l off m _ => some ((E.row t).bind fun rw => match rw.kind with
      | .slice e => (E.row e).bind fun re => match ρ i with
        | .int _ n => match get l with
          | .arr sz _ xs tail => cond (Nat.beq sz re.size) (cond (decide (0 ≤ n) && decide (n < (m : Int))) (placeK l xs tail (offAdd off n.toNat) fun v => K v [] [l] nx) none) none
          | _ => none
        | _ => none
      | _ => none)
    | .ptr l el j => some ((E.row t).bind fun rw => match rw.kind with
      | .array m e => (E.row e).bind fun re => match ρ i with
        | .int _ (.ofNat a) => cond (Nat.blt a m) (K (.ptr l el (j + a * re.size)) [] [] nx) none
        | _ => none
      | _ => none)
    | .eptr cs => some ((E.row t).bind fun rw => match rw.kind with
      | .array m e => (E.row e).bind fun re => match ρ i with
        | .int _ (.ofNat a) => cond (Nat.blt a m) (K (.eptr (cs.drop (a * re.size))) [] [] nx) none
        | _ => none
      | _ => none)
    | _ => none
  | .call c => match c.callee with
    | .builtin .len => match c.args.toList.map ρ with
      | [.hc l _ n _] => some ((c.argTypes[0]?).bind fun t => (E.row t).bind fun rw => match rw.kind with
        | .slice _ => K (.int .i64 (n : Int)) [] [l] nx
        | _ => none)
      | _ => none
    | .builtin .cap => match c.args.toList.map ρ with
      | [.hc l _ _ k] => some ((c.argTypes[0]?).bind fun t => (E.row t).bind fun rw => match rw.kind with
        | .slice _ => K (.int .i64 (k : Int)) [] [l] nx
        | _ => none)
      | [.nils] => some ((c.argTypes[0]?).bind fun t => (E.row t).bind fun rw => match rw.kind with
        | .slice _ => K (.int .i64 0) [] [] nx
        | _ => none)
      | _ => none
    | .builtin .append => match c.argTypes.toList, c.args.toList.map ρ with
      | [t, u], [b, s] => match partOf b with
        | some (l, off, n, cp) => some ((E.row t).bind fun rw => (E.row u).bind fun ru => match rw.kind, ru.kind with
          | .slice e, .slice _ => appPartK E get nx e l off n s K
          | .slice e, .str => appPartK E get nx e l off n s K
          | .slice e, .int _ => match cp, s with
            | some cc, .int _ k => appZeroK E get nx e l off n cc k K
            | _, _ => none
          | _, _ => none)
        | none => match b, s with
          | .nils, .int _ k => some ((E.row t).bind fun rw => (E.row u).bind fun ru => match rw.kind, ru.kind with
            | .slice e, .int _ => appNilZeroK E nx e k K
            | _, _ => none)
          | .hw l, s => match get l with
            | .log y zs => some ((E.row t).bind fun rw => (E.row u).bind fun ru => match rw.kind, ru.kind with
              | .slice e, .slice _ => appLogK E nx get e l y zs s K
              | .slice e, .str => appLogK E nx get e l y zs s K
              | _, _ => none)
            | .arr _ y0 xs0 (c :: []) => match anyHw c, s with
              | true, .hw m => some ((E.row t).bind fun rw => (E.row u).bind fun ru => match rw.kind, ru.kind with
                | .slice e, .slice _ => appTailK E nx get e l m c K
                | _, _ => none)
              | _, _ => none
            | .arr _ y0 xs0 [] => match s with
              | .hw m => match get m with
                | .arr _ ym zs (d :: []) => match anyHw d with
                  | true => some ((E.row t).bind fun rw => (E.row u).bind fun ru => match rw.kind, ru.kind with
                    | .slice e, .slice _ => appTail0K E nx get e l m K
                    | _, _ => none)
                  | false => none
                | _ => none
              | _ => none
            | _ => none
          | _, _ => none
      | _, _ => none
    | .builtin .copy => match c.argTypes.toList, c.args.toList.map ρ with
      | [t, u], [d, s] => some ((E.row t).bind fun rw => match rw.kind with
        | .slice e => match partOf d with
          | some (l, off, n, _) => copyK E get nx e l off n s K
          | none => match d with
            | .hw l => match get l with
              | .arr _ _ zs [] => copyK E get nx e l 0 zs.length s K
              | _ => none
            | _ => none
        | _ => none)
      | _, _ => none
    | .builtin .clear => match c.argTypes.toList, c.args.toList.map ρ with
      | [t], [a] => match partOf a with
        | some (l, off, n, _) => some ((E.row t).bind fun rw => match rw.kind with
          | .slice e => clearK E get nx e l off n K
          | _ => none)
        | none => none
      | _, _ => none
    | .value f => match ρ f with
      | .fn (.func n) [] [] => match E.con n with
        | .apart => some (match c.args.toList.map ρ with
          | [.hw l1, .hc l2 _ _ k] => cond (!(Nat.beq l1 l2) && decide (0 < k)) (match get l1, get l2 with
              | .arr sz1 _ _ (_ :: _), .arr sz2 _ _ _ => cond (Nat.blt 0 sz1 && Nat.blt 0 sz2) (K (.bool false) [] [l1, l2] nx) none
              | _, _ => none) none
          | _ => none)
        | _ => none
      | _ => none
    | _ => none
  | _ => none
def evalOp2 (E : Env) (get : Nat → AObj) (nx : Nat) (ρ : Operand → AV) (o : Oper) (K : Kont R) : Option R :=
  match newK E get nx ρ o K with
  | some r => r
  | none => evalOp E get nx ρ o K
end
end Go.Sim
namespace Go.Sim
set_option linter.unusedSectionVars false
structure St where
  slots : Slots
  objs : Objs
  nx : Nat
def getO (objs : Objs) (l : Nat) : AObj := lk .dead objs l
def locsK (get : Nat → AObj) (k0 : Nat) : List Nat := ((List.range k0).map fun l => (get l).locs).flatten
def canonK {R : Type} (k0 : Nat) (live : List Nat) (s : St) (K : St → Option R) : Option R :=
  let ls := reach (getO s.objs) reachFuel (locsK (getO s.objs) k0 ++ locsL (live.map fun t => lk .undef s.slots t)) (List.range k0)
  cond (nodupB ls && startsNum k0 0 ls) (K { slots := live.map fun t => (t, (lk .undef s.slots t).ren (idx ls 0)), objs := numbered 0 (ls.map fun l => (getO s.objs l).ren (idx ls 0)), nx := ls.length }) none
def hwK {R : Type} (get : Nat → AObj) (nx : Nat) (v : AV) (K : AV → List (Nat × AObj) → List Nat → Nat → Option R) : Option R := match v with
  | .hc l 0 n c => match get l with
    | .arr _ _ xs tail => cond (decide (n = alen xs tail) && decide (0 < c)) (K (.hw l) [] [l] nx) none
    | _ => none
  | v => K v [] [] nx
def thaw1 (nx : Nat) : List AV → Option (List AV)
  | [] => none
  | c :: cs => match c with
    | .nils => some (.hw nx :: cs)
    | c => (thaw1 nx cs).map fun ds => c :: ds
def lgK {R : Type} (E : Env) (e : TypeId) (get : Nat → AObj) (nx : Nat) (v : AV) (K : AV → List (Nat × AObj) → List Nat → Nat → Option R) : Option R :=
  (E.tyOf e).bind fun t => match v with
  | .nils => K (.hw nx) [(nx, .log t [])] [] (nx + 1)
  | .hw l => match get l with
    | .log _ _ => K v [] [] nx
    | _ => (elems get t (.hw l)).bind fun (xs, _) => K (.hw l) [(l, .log t xs)] [l] nx
  | .agg cs => match thaw1 nx cs with
    | some ds => K (.agg ds) [(nx, .log t [])] [] (nx + 1)
    | none => K v [] [] nx
  | v => K v [] [] nx
def adjK {R : Type} (E : Env) (H : Hint) (o : Oper) (get : Nat → AObj) (nx : Nat) (v : AV) (K : AV → List (Nat × AObj) → List Nat → Nat → Option R) : Option R :=
  match o.dst with
  | none => K v [] [] nx
  | some d =>
    cond (has H.tp d) (match v with
      | .ptr _ (.tl _) _ => K v [] [] nx
      | _ => none)
    (cond (has H.hw d) (hwK get nx v K)
    (match lk? H.lg d with
    | some e => lgK E e get nx v K
    | none =>
    (cond (has H.vs d) (match E.row o.type with
      | some rw => match rw.kind with
        | .slice e => (E.tyOf e).bind fun t => match v with
          | .hw l => match get l with
            | .log y xs => K (.vl y xs) [] [l] nx
            | _ => (elems get t (.hw l)).bind fun (xs, _) => K (.vl t xs) [(l, .dead)] [l] nx
          | .nils => K (.vl t []) [] [] nx
          | .hc l 0 n c => match get l with
            | .arr _ _ ys tail => cond (decide (n = alen ys tail) && decide (0 < c)) ((elems get t (.hw l)).bind fun (xs, _) => K (.vl t xs) [(l, .dead)] [l] nx) none
            | _ => none
          | v => K v [] [] nx
        | .struct _ _ => match v with
          | .agg cs => K (closeA get (.agg cs)) [] (locsL cs) nx
          | v => K v [] [] nx
        | _ => none
      | none => none)
    (match lk? H.nh d with
      | some e => match E.row e, E.tyOf e with
        | some re, some t => match v with
          | .nils => K (.hw nx) [(nx, .arr re.size t [] [])] [] (nx + 1)
          | .hw l => match get l with
            | .arr sz t' _ tail => cond (decide (t' = t) && (tail.isEmpty || anyHwT tail)) (K v [] [] nx) ((elems get t (.hw l)).bind fun (ys, _) => K (.hw nx) [(nx, .arr sz t ys []), (l, .dead)] [l] (nx + 1))
            | _ => none
          | v => K v [] [] nx
        | _, _ => none
      | none => K v [] [] nx))))
def putS (dst : Option Tmp) (v : AV) (s : Slots) : Slots :=
  match dst with
  | some d => (d, v) :: s
  | none => s
def dstOk (H : Hint) (o : Oper) : Bool :=
  match o.dst with
  | some d => Nat.blt d H.nt
  | none => true
structure Tr where
  i : Nat
  rd : List Nat
  wr : List Nat
  n0 : Nat
  n1 : Nat
def keysOf : List (Nat × AObj) → List Nat
  | [] => []
  | (k, _) :: r => k :: keysOf r
def below : List (Nat × AObj) → Nat → Bool
  | [], _ => true
  | (k, _) :: r, n => Nat.blt k n && below r n
section
variable {R : Type}
def runK (E : Env) (H : Hint) (i : Nat) (o : Oper) (s : St) (K : St → Tr → Option R) : Option R :=
  evalOp2 E (getO s.objs) s.nx (operand E s.slots) o fun v pat rd nx =>
    cond (below pat nx) (adjK E H o (getO (pat ++ s.objs)) nx v fun v' pat' rd' nx' =>
      cond (below pat' nx') (K { slots := putS o.dst v' s.slots, objs := pat' ++ (pat ++ s.objs), nx := nx' } { i := i, rd := rd' ++ rd, wr := keysOf (pat' ++ pat), n0 := s.nx, n1 := nx' }) none) none
def skipK (i : Nat) (o : Oper) (s : St) (K : St → Tr → Option R) : Option R :=
  K { s with slots := putS o.dst (.tup []) s.slots } { i := i, rd := [], wr := [], n0 := s.nx, n1 := s.nx }
def opK (E : Env) (H : Hint) (all : Array Oper) (i : Nat) (o : Oper) (s : St) (K : St → Tr → Option R) : Option R :=
  cond (dstOk H o) (match o.guard with
    | none => runK E H i o s K
    | some (j, want) =>
      match (all[j]?).bind (·.dst) with
      | some d => cond (Nat.blt d H.nt) (match lk .undef s.slots d with
        | .bool g => cond g (cond want (runK E H i o { s with slots := (d, .bool true) :: s.slots } K) (skipK i o { s with slots := (d, .bool true) :: s.slots } K))
            (cond want (skipK i o { s with slots := (d, .bool false) :: s.slots } K) (runK E H i o { s with slots := (d, .bool false) :: s.slots } K))
        | .tup [] => skipK i o s K
        | _ => none) none
      | none => none) none
def evalOps (E : Env) (H : Hint) (all : Array Oper) : List Oper → Nat → St → List Tr → (St → List Tr → Option R) → Option R
  | [], _, s, tr, K => K s tr
  | o :: r, i, s, tr, K => opK E H all i o s fun s' t => evalOps E H all r (i + 1) s' (t :: tr) K
def anyIn : List Nat → List Nat → Bool
  | [], _ => false
  | x :: r, l => has l x || anyIn r l
def pairOk (bits : Array Nat) (a b : Tr) : Bool :=
  cond (anyIn a.wr b.rd || anyIn a.wr b.wr || anyIn a.rd b.wr) ((bits.getD b.i 0).testBit a.i) true
def pairsOk (bits : Array Nat) : List Tr → Bool
  | [] => true
  | b :: r => (r.all fun a => pairOk bits a b) && pairsOk bits r
def slotPair (all : Array Oper) (bits : Array Nat) (i j : Nat) (a b : Oper) : Bool :=
  cond ((match a.dst with | some d => has (Oper.looksAt all b) d || (match b.dst with | some e => Nat.beq d e | none => false) | none => false) ||
      (match b.dst with | some d => has (Oper.looksAt all a) d | none => false)) ((bits.getD j 0).testBit i) true
def slotsOkFrom (all : Array Oper) (bits : Array Nat) (j : Nat) (b : Oper) : Nat → List Oper → Bool
  | _, [] => true
  | i, a :: r => cond (Nat.blt i j) (slotPair all bits i j a b && slotsOkFrom all bits j b (i + 1) r) true
def slotsOk (all : Array Oper) (bits : Array Nat) : Nat → List Oper → Bool
  | _, [] => true
  | j, b :: r => slotsOkFrom all bits j b 0 all.toList && slotsOk all bits (j + 1) r
def edgesOk : Nat → List Oper → Bool
  | _, [] => true
  | j, b :: r => (b.after.all fun e => !Region.binds .any e || Nat.blt e.on j) && (match b.guard with | some (g, _) => Nat.blt g j | none => true) && edgesOk (j + 1) r
def newIn (wr : List Nat) : Nat → Nat → Bool
  | _, 0 => true
  | i, k + 1 => has wr i && newIn wr (i + 1) k
def drawOk (ops : Array Oper) (tr : List Tr) : Bool :=
  (tr.all fun t => newIn t.wr t.n0 (t.n1 - t.n0)) && pairsOk (Region.before ops) tr && slotsOk ops (Region.before ops) 0 ops.toList && edgesOk 0 ops.toList
def opsK (E : Env) (H : Hint) (ops : Array Oper) (draw : Bool) (s : St) (K : St → Option R) : Option R :=
  evalOps E H ops ops.toList 0 s [] fun s' tr => cond (!draw || drawOk ops tr) (K s') none
def regionK (E : Env) (H : Hint) (id : Nat) (ops : Array Oper) (draw : Bool) (s : St) (K : St → Option R) : Option R :=
  match lk? H.join id with
  | some c =>
    (opsK (R := Bool) E H ops draw s fun s' =>
      cond (Nat.beq s'.objs.length s.objs.length && Nat.beq s'.nx s.nx) (match lk .undef s'.slots c with | .bool b => some b | _ => none) none).bind fun b =>
    K { s with slots := (c, .bool b) :: ((ops.toList.filterMap (·.dst)).map fun d => (d, AV.undef)) ++ s.slots }
  | none => opsK E H ops draw s K
inductive Ex where
  | normal
  | exit (id : Nat)
  | ret
def firstRegion : Code → Nat
  | .region id _ _ => id
  | .seq a _ => firstRegion a
  | .block _ b => firstRegion b
  | .loop b => firstRegion b
  | .scope b => firstRegion b
  | _ => 0
def loopN (k0 : Nat) (live : List Nat) (step : St → (Ex → St → Option R) → Option R) : Nat → St → (Ex → St → Option R) → Option R
  | 0, _, _ => none
  | n + 1, s, K => step s fun e s' => match e with
    | .normal => canonK k0 live s' fun s2 => loopN k0 live step n s2 K
    | e => canonK k0 live s' fun s2 => K e s2
abbrev Loops (R : Type) := Nat → St → (Ex → St → Option R) → Option R
def turns (H : Hint) : Code → List Nat
  | .region id ops _ => (match lk? H.join id with | some c => [c] | none => []) ++ ops.toList.filterMap (·.dst)
  | .seq a b => (match lk? H.jc (firstRegion a) with | some js => js.map (·.1) | none => []) ++ turns H a ++ turns H b
  | .cond _ a b => turns H a ++ turns H b
  | .block _ b => turns H b
  | .scope b => turns H b
  | _ => []
def loopFree : Code → Bool
  | .seq a b => loopFree a && loopFree b
  | .cond _ a b => loopFree a && loopFree b
  | .block _ b => loopFree b
  | .scope b => loopFree b
  | .loop _ => false
  | _ => true
def undefs (l : List Nat) : Slots := l.map fun d => (d, AV.undef)
def jSlots : (js : List (Nat × Ty)) → tysDen (js.map (·.2)) → Slots
  | [], _ => []
  | (t, y) :: r, x => (t, valOf y x.1) :: jSlots r x.2
def noLP {R : Type} : Loops R := fun _ _ _ => none
def ev (E : Env) (H : Hint) (k0 : Nat) : {R : Type} → (LP : Loops R) → Code → St → (Ex → St → Option R) → Option R
  | _, _, .skip, s, K => K .normal s
  | _, _, .label _, s, K => K .normal s
  | _, _, .region id ops draw, s, K => regionK E H id ops draw s fun s' => K .normal s'
  | _, LP, .seq a b, s, K => match cond (loopFree a) (lk? H.jc (firstRegion a)) none with
    | some js => (ev E H k0 (R := tysDen (js.map (·.2))) noLP a s fun e s' => match e with
        | .normal => cond (Nat.beq s'.objs.length s.objs.length && Nat.beq s'.nx s.nx) (viewTys (js.map (·.2)) (js.map fun j => lk .undef s'.slots j.1)) none
        | _ => none).bind fun x => ev E H k0 LP b { s with slots := jSlots js x ++ undefs (turns H a) ++ s.slots } K
    | none => ev E H k0 LP a s fun e s' => match e with
      | .normal => ev E H k0 LP b s' K
      | e => K e s'
  | _, LP, .cond c x y, s, K => match operand E s.slots c with
    | .bool b => cond b (ev E H k0 LP x s K) (ev E H k0 LP y s K)
    | _ => none
  | _, LP, .block id b, s, K => ev E H k0 LP b s fun e s' => match e with
    | .exit i => cond (Nat.beq i id) (K .normal s') (K (.exit i) s')
    | e => K e s'
  | _, LP, .loop b, s, K => match lk? H.loops (firstRegion b) with
    | some live => canonK k0 live s fun s2 => LP (firstRegion b) s2 K
    | none => none
  | _, _, .exit id, s, K => K (.exit id) s
  | _, _, .ret, s, K => K .ret s
  | _, LP, .scope b, s, K => ev E H k0 LP b s K
  | _, _, _, _, _ => none
def loopsIn : Code → List Code
  | .seq a b => loopsIn a ++ loopsIn b
  | .cond _ a b => loopsIn a ++ loopsIn b
  | .block _ b => loopsIn b
  | .scope b => loopsIn b
  | .loop b => b :: loopsIn b
  | _ => []
def findL (id : Nat) : List Code → Code
  | [] => .skip
  | b :: r => cond (Nat.beq (firstRegion b) id) b (findL id r)
def resultOf (E : Env) (s : St) : ResultVar → Option AV
  | .tmp t => some (lk .undef s.slots t)
  | .cell a t => (E.row t).bind fun rw => match lk .undef s.slots a with
    | .ptr l e j => match getO s.objs l with
      | .arr _ ty xs tail => let cs := ((eltCells ty xs tail e).drop j).take rw.size
          cond (Nat.beq cs.length rw.size) (whole rw.kind.isAgg cs) none
      | _ => none
    | _ => none
def resultsOf (E : Env) (s : St) : List ResultVar → Option (List AV)
  | [] => some []
  | r :: rs => (resultOf E s r).bind fun v => (resultsOf E s rs).bind fun vs => some (v :: vs)
def oneOr : List AV → AV
  | [v] => v
  | vs => .tup vs
def initSt (args : List AV) (objs : List AObj) : St := { slots := numbered 0 args, objs := numbered 0 objs, nx := objs.length }
def evFn (E : Env) (H : Hint) (LP : Loops R) (fn : Func) (args : List AV) (objs : List AObj) (K : AV → St → Option R) : Option R :=
  match fn.body with
  | none => none
  | some c => ev E H objs.length LP c (initSt args objs) fun e s => match e with
    | .exit _ => none
    | _ => (resultsOf E s fn.results.toList).bind fun vs => K (oneOr vs) s
end
end Go.Sim
namespace Go.Sim
set_option linter.unusedSectionVars false
structure Place where
  block : Nat
  off : Nat
  sz : Nat
  nty : Nat
  len : Nat
abbrev Beta := Nat → Option (Option Place)
def In (k : IntKind) (n : Int) : Prop := k.min ≤ n ∧ n ≤ k.max
def maxL : Nat := 9223372036854775807
theorem In.wrap (k : IntKind) (n : Int) : In k (k.wrap n) := wrap_within k n
theorem In.nat {n : Nat} (h : n ≤ maxL) : In .i64 (n : Int) := by
  have e1 : IntKind.i64.min = -9223372036854775808 := by decide
  have e2 : IntKind.i64.max = 9223372036854775807 := by decide
  unfold maxL at h
  unfold In
  rw [e1, e2]; omega
theorem In.u8 (b : UInt8) : In .u8 (b.toNat : Int) := by
  have e1 : IntKind.u8.min = 0 := by decide
  have e2 : IntKind.u8.max = 255 := by decide
  have := b.toNat_lt
  unfold In
  rw [e1, e2]; omega
theorem In.zero (k : IntKind) : In k 0 := by unfold In; cases k <;> decide
def RowAt (φ : Nat → Nat) (w : World) (b o : Nat) (cs : List Value) : Prop :=
  ∀ i v, cs[i]? = some v → w.cell? ⟨b, o + i, none⟩ = some v ∧ o + i < φ b
def Vt (φ : Nat → Nat) (w : World) : (t : Ty) → t.den → List Value → Prop
  | .bool, b, cs => cs = [.bool b]
  | .int k, n, cs => cs = [.int k n] ∧ In k n
  | .str, s, cs => cs = [.string ⟨s.toArray⟩] ∧ s.length ≤ maxL
  | .sl e, xs, cs => xs.length ≤ maxL ∧ ∃ A cap, cs = [.slice A xs.length cap] ∧ xs.length ≤ cap ∧
      ∀ i x, xs[i]? = some x → ∃ a ds, A = some a ∧ a.spot = none ∧ Vt φ w e x ds ∧ RowAt φ w a.block (a.off + i * e.sz) ds
  | .pair a b, x, cs => ∃ c1 c2, cs = c1 ++ c2 ∧ Vt φ w a x.1 c1 ∧ Vt φ w b x.2 c2
  | .raw, v, cs => cs = [v] ∧ v.oneCell' = true
def Elt.num (nty : Nat) : Elt → Nat
  | .ty i => i
  | .tl p => nty + p
def Room (w : World) (b n : Nat) : Prop := ∃ c t fr, w.heap[b]? = some (.cells c t fr) ∧ n ≤ c.size
mutual
def V (φ : Nat → Nat) (β : Beta) (w : World) : AV → Value → Prop
  | .bool b, v => v = .bool b
  | .int k n, v => v = .int k n ∧ In k n
  | .str s, v => v = .string ⟨s.toArray⟩ ∧ s.length ≤ maxL
  | .nilp, v => v = .pointer none
  | .ptr l e j, v => ∃ p, β l = some (some p) ∧ v = .pointer (some ⟨p.block, p.off + e.num p.nty * p.sz + j, none⟩) ∧ e.num p.nty < p.len ∧ (∀ i, e = .ty i → i < p.nty)
  | .eptr cs, v => ∃ a vs, v = .pointer (some a) ∧ a.spot = none ∧ VL φ β w cs vs ∧ RowAt φ w a.block a.off vs
  | .vl t xs, v => Vt φ w (.sl t) xs [v]
  | .ap t xs, v => ∃ a cap, v = .pointer (some a) ∧ a.spot = none ∧ Vt φ w (.sl t) xs [.slice (some a) xs.length cap]
  | .nils, v => v = .slice none 0 0
  | .hw l, v => match β l with
    | some (some p) => ∃ cap, v = .slice (some ⟨p.block, p.off, none⟩) p.len cap ∧ p.len ≤ cap ∧ cap ≤ maxL ∧ Room w p.block (p.off + cap * p.sz)
    | some none => ∃ A, v = .slice A 0 0
    | none => False
  | .hs l o n, v => n ≤ maxL ∧ match β l with
    | some (some p) => ∃ A cap, v = .slice A n cap ∧ n ≤ cap ∧ cap ≤ maxL ∧ o + n ≤ p.len ∧ (cap ≠ 0 → A = some ⟨p.block, p.off + o * p.sz, none⟩ ∧ Room w p.block (p.off + (o + cap) * p.sz))
    | some none => n = 0 ∧ ∃ A, v = .slice A 0 0
    | none => False
  | .hc l o n c, v => n ≤ c ∧ c ≤ maxL ∧ match β l with
    | some (some p) => ∃ A, v = .slice A n c ∧ o + n ≤ p.len ∧ (c ≠ 0 → A = some ⟨p.block, p.off + o * p.sz, none⟩ ∧ Room w p.block (p.off + (o + c) * p.sz))
    | some none => n = 0 ∧ c = 0 ∧ ∃ A, v = .slice A 0 0
    | none => False
  | .agg cs, v => ∃ vs, v = .agg vs.toArray ∧ VL φ β w cs vs
  | .tup cs, v => ∃ vs, v = .tuple vs.toArray ∧ VL φ β w cs vs
  | .iface t c, v => ∃ u, v = .iface t u ∧ V φ β w c u
  | .nilif, v => v = .nilIface
  | .fn f first cap, v => ∃ us vs, v = .func f us.toArray vs.toArray ∧ VL φ β w first us ∧ VL φ β w cap vs
  | .mp l, v => ∃ p, β l = some (some p) ∧ v = .map (some p.block)
  | .it l, v => ∃ p, β l = some (some p) ∧ v = .pointer (some ⟨p.block, 0, none⟩)
  | .ve b, v => ∃ A cap, v = .slice A 0 cap ∧ A.isNone = b
  | .rv x, v => v = x ∧ x.oneCell' = true
  | .undef, _ => True
def VL (φ : Nat → Nat) (β : Beta) (w : World) : List AV → List Value → Prop
  | [], vs => vs = []
  | c :: cs, vs => ∃ u us, vs = u :: us ∧ V φ β w c u ∧ VL φ β w cs us
end
structure Keeps (φ : Nat → Nat) (w : World) (φ' : Nat → Nat) (w' : World) : Prop where
  le : ∀ b, φ b ≤ φ' b
  cell : ∀ b o v, o < φ b → w.cell? ⟨b, o, none⟩ = some v → w'.cell? ⟨b, o, none⟩ = some v
  room : ∀ b n, Room w b n → Room w' b n
  out : w'.os = w.os ∧ w'.output = w.output
theorem Keeps.refl (φ : Nat → Nat) (w : World) : Keeps φ w φ w := ⟨fun _ => Nat.le_refl _, fun _ _ _ _ h => h, fun _ _ h => h, rfl, rfl⟩
theorem Keeps.trans {φ φ' φ'' : Nat → Nat} {w w' w'' : World} (h : Keeps φ w φ' w') (h' : Keeps φ' w' φ'' w'') : Keeps φ w φ'' w'' :=
  ⟨fun b => Nat.le_trans (h.le b) (h'.le b), fun b o v ho hv => h'.cell b o v (Nat.lt_of_lt_of_le ho (h.le b)) (h.cell b o v ho hv), fun b n hr => h'.room b n (h.room b n hr), h'.out.1.trans h.out.1, h'.out.2.trans h.out.2⟩
theorem RowAt.keep {φ φ' : Nat → Nat} {w w' : World} (h : Keeps φ w φ' w') {b o : Nat} {cs : List Value} (hr : RowAt φ w b o cs) : RowAt φ' w' b o cs :=
  fun i v hv => let ⟨h1, h2⟩ := hr i v hv; ⟨h.cell b _ v h2 h1, Nat.lt_of_lt_of_le h2 (h.le b)⟩
theorem Vt.keep {φ φ' : Nat → Nat} {w w' : World} (h : Keeps φ w φ' w') : ∀ (t : Ty) (x : t.den) (cs : List Value), Vt φ w t x cs → Vt φ' w' t x cs
  | .bool, _, _, hv => hv
  | .int _, _, _, hv => hv
  | .str, _, _, hv => hv
  | .sl e, xs, cs, hv => by
    obtain ⟨hm, A, cap, h1, h2, h3⟩ := hv
    refine ⟨hm, A, cap, h1, h2, fun i x hx => ?_⟩
    obtain ⟨a, ds, ha, hs, hd, hr⟩ := h3 i x hx
    exact ⟨a, ds, ha, hs, Vt.keep h e x ds hd, hr.keep h⟩
  | .pair a b, x, cs, hv => by
    obtain ⟨c1, c2, h1, h2, h3⟩ := hv
    exact ⟨c1, c2, h1, Vt.keep h a _ _ h2, Vt.keep h b _ _ h3⟩
  | .raw, _, _, hv => hv
def Ext (β β' : Beta) : Prop := ∀ l x, β l = some x → β' l = some x
theorem Ext.refl (β : Beta) : Ext β β := fun _ _ h => h
theorem Ext.trans {β β' β'' : Beta} (h : Ext β β') (h' : Ext β' β'') : Ext β β'' := fun l x hx => h' l x (h l x hx)
mutual
theorem V.keep {φ φ' : Nat → Nat} {β β' : Beta} {w w' : World} (h : Keeps φ w φ' w') (ha : Ext β β') : ∀ (c : AV) (v : Value), V φ β w c v → V φ' β' w' c v
  | .bool _, _, hv => hv
  | .int _ _, _, hv => hv
  | .str _, _, hv => hv
  | .nilp, _, hv => hv
  | .ptr l e j, v, hv => by
    simp only [V] at hv ⊢
    obtain ⟨p, h1, h2⟩ := hv
    exact ⟨p, ha _ _ h1, h2⟩
  | .eptr cs, v, hv => by
    simp only [V] at hv ⊢
    obtain ⟨a, vs, h1, h2, h3, h4⟩ := hv
    exact ⟨a, vs, h1, h2, VL.keep h ha cs vs h3, h4.keep h⟩
  | .vl t xs, v, hv => by
    simp only [V] at hv ⊢
    exact Vt.keep h (.sl t) xs _ hv
  | .ap t xs, v, hv => by
    simp only [V] at hv ⊢
    obtain ⟨a, cap, h1, h2, h3⟩ := hv
    exact ⟨a, cap, h1, h2, Vt.keep h (.sl t) xs _ h3⟩
  | .nils, _, hv => hv
  | .hw l, v, hv => by
    simp only [V] at hv ⊢
    rcases hb : β l with _ | (_ | p)
    · simp only [hb] at hv
    · simp only [hb] at hv
      rw [ha _ _ hb]
      exact hv
    · simp only [hb] at hv
      rw [ha _ _ hb]
      obtain ⟨cap, h1, h2, hm, h3⟩ := hv
      exact ⟨cap, h1, h2, hm, h.room _ _ h3⟩
  | .hs l o n, v, hv => by
    simp only [V] at hv ⊢
    obtain ⟨hm, hv⟩ := hv
    refine ⟨hm, ?_⟩
    rcases hb : β l with _ | (_ | p)
    · simp only [hb] at hv
    · simp only [hb] at hv
      rw [ha _ _ hb]
      exact hv
    · simp only [hb] at hv
      rw [ha _ _ hb]
      obtain ⟨A, cap, h1, h2, h3, h4, h5⟩ := hv
      exact ⟨A, cap, h1, h2, h3, h4, fun hc => ⟨(h5 hc).1, h.room _ _ (h5 hc).2⟩⟩
  | .hc l o n c, v, hv => by
    simp only [V] at hv ⊢
    obtain ⟨hm, hm2, hv⟩ := hv
    refine ⟨hm, hm2, ?_⟩
    rcases hb : β l with _ | (_ | p)
    · simp only [hb] at hv
    · simp only [hb] at hv
      rw [ha _ _ hb]
      exact hv
    · simp only [hb] at hv
      rw [ha _ _ hb]
      obtain ⟨A, h1, h4, h5⟩ := hv
      exact ⟨A, h1, h4, fun hc => ⟨(h5 hc).1, h.room _ _ (h5 hc).2⟩⟩
  | .agg cs, v, hv => by
    simp only [V] at hv ⊢
    obtain ⟨vs, h1, h2⟩ := hv
    exact ⟨vs, h1, VL.keep h ha cs vs h2⟩
  | .tup cs, v, hv => by
    simp only [V] at hv ⊢
    obtain ⟨vs, h1, h2⟩ := hv
    exact ⟨vs, h1, VL.keep h ha cs vs h2⟩
  | .iface t c, v, hv => by
    simp only [V] at hv ⊢
    obtain ⟨u, h1, h2⟩ := hv
    exact ⟨u, h1, V.keep h ha c u h2⟩
  | .nilif, _, hv => hv
  | .fn f first cap, v, hv => by
    simp only [V] at hv ⊢
    obtain ⟨us, vs, h1, h2, h3⟩ := hv
    exact ⟨us, vs, h1, VL.keep h ha first us h2, VL.keep h ha cap vs h3⟩
  | .mp l, v, hv => by
    simp only [V] at hv ⊢
    obtain ⟨p, h1, h2⟩ := hv
    exact ⟨p, ha _ _ h1, h2⟩
  | .it l, v, hv => by
    simp only [V] at hv ⊢
    obtain ⟨p, h1, h2⟩ := hv
    exact ⟨p, ha _ _ h1, h2⟩
  | .ve _, _, hv => hv
  | .rv _, _, hv => hv
  | .undef, _, _ => by simp [V]
theorem VL.keep {φ φ' : Nat → Nat} {β β' : Beta} {w w' : World} (h : Keeps φ w φ' w') (ha : Ext β β') : ∀ (cs : List AV) (vs : List Value), VL φ β w cs vs → VL φ' β' w' cs vs
  | [], _, hv => hv
  | c :: cs, vs, hv => by
    simp only [VL] at hv ⊢
    obtain ⟨u, us, h1, h2, h3⟩ := hv
    exact ⟨u, us, h1, V.keep h ha c u h2, VL.keep h ha cs us h3⟩
end
theorem V.hc_hs {φ : Nat → Nat} {β : Beta} {w : World} {l o n c : Nat} {v : Value} (h : V φ β w (.hc l o n c) v) : V φ β w (.hs l o n) v := by
  simp only [V] at h ⊢
  obtain ⟨h1, h2, h⟩ := h
  refine ⟨by omega, ?_⟩
  rcases hb : β l with _ | (_ | p)
  · simp only [hb] at h
  · simp only [hb] at h
    exact ⟨h.1, h.2.2⟩
  · simp only [hb] at h
    obtain ⟨A, g1, g2, g3⟩ := h
    exact ⟨A, c, g1, h1, h2, g2, g3⟩
theorem VL.nil {φ : Nat → Nat} {β : Beta} {w : World} : VL φ β w [] [] := rfl
theorem VL.cons {φ : Nat → Nat} {β : Beta} {w : World} {c : AV} {cs : List AV} {u : Value} {us : List Value} (h : V φ β w c u) (h' : VL φ β w cs us) : VL φ β w (c :: cs) (u :: us) := by
  simp only [VL]; exact ⟨u, us, rfl, h, h'⟩
theorem VL.append {φ : Nat → Nat} {β : Beta} {w : World} : ∀ {cs ds : List AV} {us vs : List Value}, VL φ β w cs us → VL φ β w ds vs → VL φ β w (cs ++ ds) (us ++ vs)
  | [], _, _, _, h, h' => by simp only [VL] at h; subst h; simpa using h'
  | c :: cs, ds, us, vs, h, h' => by
    simp only [VL] at h
    obtain ⟨u, us', rfl, h1, h2⟩ := h
    simpa using VL.cons h1 (VL.append h2 h')
theorem VL.length {φ : Nat → Nat} {β : Beta} {w : World} : ∀ {cs : List AV} {us : List Value}, VL φ β w cs us → us.length = cs.length
  | [], _, h => by simp only [VL] at h; simp [h]
  | c :: cs, us, h => by
    simp only [VL] at h
    obtain ⟨u, us', rfl, _, h2⟩ := h
    simp [VL.length h2]
theorem VL.get {φ : Nat → Nat} {β : Beta} {w : World} : ∀ {cs : List AV} {us : List Value} {i : Nat} {c : AV}, VL φ β w cs us → cs[i]? = some c → ∃ u, us[i]? = some u ∧ V φ β w c u
  | [], _, _, _, _, hc => by simp at hc
  | d :: cs, us, i, c, h, hc => by
    simp only [VL] at h
    obtain ⟨u, us', rfl, h1, h2⟩ := h
    cases i with
    | zero => simp at hc; subst hc; exact ⟨u, rfl, h1⟩
    | succ i => simpa using VL.get h2 (by simpa using hc)
theorem VL.take {φ : Nat → Nat} {β : Beta} {w : World} : ∀ {cs : List AV} {us : List Value} (n : Nat), VL φ β w cs us → VL φ β w (cs.take n) (us.take n)
  | _, _, 0, _ => by simp [VL]
  | [], us, n + 1, h => by simp only [VL] at h; simp [h, VL]
  | c :: cs, us, n + 1, h => by
    simp only [VL] at h
    obtain ⟨u, us', rfl, h1, h2⟩ := h
    simpa using VL.cons h1 (VL.take n h2)
theorem VL.drop {φ : Nat → Nat} {β : Beta} {w : World} : ∀ {cs : List AV} {us : List Value} (n : Nat), VL φ β w cs us → VL φ β w (cs.drop n) (us.drop n)
  | _, _, 0, h => by simpa using h
  | [], us, n + 1, h => by simp only [VL] at h; simp [h, VL]
  | c :: cs, us, n + 1, h => by
    simp only [VL] at h
    obtain ⟨u, us', rfl, h1, h2⟩ := h
    simpa using VL.drop n h2
theorem enc_length : ∀ (t : Ty) (x : t.den), (enc t x).length = t.sz
  | .bool, _ => rfl
  | .int _, _ => rfl
  | .str, _ => rfl
  | .sl _, _ => rfl
  | .pair a b, x => by simp [enc, Ty.sz, enc_length a, enc_length b]
  | .raw, _ => rfl
theorem Vt.length {φ : Nat → Nat} {w : World} : ∀ (t : Ty) (x : t.den) (cs : List Value), Vt φ w t x cs → cs.length = t.sz
  | .bool, _, _, h => by simp only [Vt] at h; simp [h, Ty.sz]
  | .int _, _, _, h => by simp only [Vt] at h; simp [h.1, Ty.sz]
  | .str, _, _, h => by simp only [Vt] at h; simp [h.1, Ty.sz]
  | .sl _, _, _, h => by simp only [Vt] at h; obtain ⟨_, A, cap, h1, _⟩ := h; simp [h1, Ty.sz]
  | .pair a b, x, cs, h => by
    simp only [Vt] at h
    obtain ⟨c1, c2, h1, h2, h3⟩ := h
    simp [h1, Ty.sz, Vt.length a _ _ h2, Vt.length b _ _ h3]
  | .raw, _, _, h => by simp only [Vt] at h; simp [h.1, Ty.sz]
theorem Vt.enc {φ : Nat → Nat} {β : Beta} {w : World} : ∀ (t : Ty) (x : t.den) (cs : List Value), Vt φ w t x cs → VL φ β w (enc t x) cs
  | .bool, _, _, h => by simp only [Vt] at h; subst h; exact VL.cons rfl rfl
  | .int _, _, _, h => by simp only [Vt] at h; obtain ⟨rfl, h2⟩ := h; exact VL.cons ⟨rfl, h2⟩ rfl
  | .str, _, _, h => by simp only [Vt] at h; obtain ⟨rfl, h2⟩ := h; exact VL.cons ⟨rfl, h2⟩ rfl
  | .sl e, xs, cs, h => by
    have h' := h
    simp only [Vt] at h
    obtain ⟨_, A, cap, h1, _⟩ := h
    subst h1
    exact VL.cons (by simp only [V]; exact h') rfl
  | .pair a b, x, cs, h => by
    simp only [Vt] at h
    obtain ⟨c1, c2, h1, h2, h3⟩ := h
    subst h1
    exact VL.append (Vt.enc a _ _ h2) (Vt.enc b _ _ h3)
  | .raw, _, _, h => by simp only [Vt] at h; obtain ⟨rfl, h2⟩ := h; exact VL.cons ⟨rfl, h2⟩ rfl
theorem Vt.nilSl {φ : Nat → Nat} {w : World} (e : Ty) (A : Option Addr) : Vt φ w (.sl e) [] [.slice A 0 0] :=
  ⟨Nat.zero_le _, A, 0, rfl, Nat.le_refl _, fun i x hx => by simp at hx⟩
theorem asVl_sound {φ : Nat → Nat} {β : Beta} {w : World} {t : Ty} {c : AV} {xs : List t.den} {v : Value} (hc : asVl t c = some xs) (h : V φ β w c v) : Vt φ w (.sl t) xs [v] := by
  cases c with
  | vl t' ys =>
    simp only [asVl] at hc
    split at hc
    · rename_i he
      subst he
      simp at hc
      subst hc
      simpa only [V] using h
    · simp at hc
  | nils =>
    simp [asVl] at hc
    subst hc
    simp only [V] at h
    subst h
    exact Vt.nilSl _ _
  | _ => simp [asVl] at hc
theorem dec_sound {φ : Nat → Nat} {β : Beta} {w : World} : ∀ (t : Ty) (cs : List AV) (x : t.den) (vs : List Value), dec t cs = some x → VL φ β w cs vs → Vt φ w t x vs := by
  intro t
  induction t with
  | bool =>
    intro cs x vs hd hv
    match cs, hd with
    | [.bool b], hd =>
      simp [dec] at hd
      subst hd
      simp only [VL, V] at hv
      obtain ⟨u, us, rfl, rfl, rfl⟩ := hv
      simp [Vt]
  | int k =>
    intro cs x vs hd hv
    match cs, hd with
    | [.int k' b], hd =>
      simp [dec] at hd
      obtain ⟨rfl, rfl⟩ := hd
      simp only [VL, V] at hv
      obtain ⟨u, us, rfl, ⟨rfl, h2⟩, rfl⟩ := hv
      exact ⟨rfl, h2⟩
  | str =>
    intro cs x vs hd hv
    match cs, hd with
    | [.str b], hd =>
      simp [dec] at hd
      subst hd
      simp only [VL, V] at hv
      obtain ⟨u, us, rfl, ⟨rfl, h2⟩, rfl⟩ := hv
      exact ⟨rfl, h2⟩
  | sl e _ =>
    intro cs x vs hd hv
    match cs, hd with
    | [c], hd =>
      simp only [dec] at hd
      simp only [VL] at hv
      obtain ⟨u, us, rfl, hu, rfl⟩ := hv
      exact asVl_sound hd hu
  | pair a b iha ihb =>
    intro cs x vs hd hv
    simp only [dec] at hd
    obtain ⟨x1, h1, hd⟩ := Option.bind_eq_some_iff.1 hd
    obtain ⟨x2, h2, hd⟩ := Option.bind_eq_some_iff.1 hd
    simp at hd
    subst hd
    exact ⟨vs.take a.sz, vs.drop a.sz, by simp, iha _ _ _ h1 (hv.take _), ihb _ _ _ h2 (hv.drop _)⟩
  | raw =>
    intro cs x vs hd hv
    match cs, hd with
    | [.rv b], hd =>
      simp [dec] at hd
      subst hd
      simp only [VL, V] at hv
      obtain ⟨u, us, rfl, ⟨rfl, h2⟩, rfl⟩ := hv
      exact ⟨rfl, h2⟩
end Go.Sim
namespace Go.Sim
set_option linter.unusedSectionVars false
def CellsAt (w : World) (b o : Nat) (cs : List Value) : Prop := ∀ i v, cs[i]? = some v → w.cell? ⟨b, o + i, none⟩ = some v
def Free (w : World) (b : Nat) : Prop := ∀ o, w.frozen? ⟨b, o, none⟩ = false
def Entries (φ : Nat → Nat) (w : World) (kt vt : Ty) : List (kt.den × vt.den) → List MapEntry → Prop
  | [], es => es = []
  | x :: xs, es => ∃ e r, es = e :: r ∧ Vt φ w kt x.1 [e.key] ∧ Vt φ w vt x.2 e.val.cells.toList ∧ (vt.sz = 1 → e.val.cells = #[e.val]) ∧ (1 < vt.sz → e.val = .agg e.val.cells) ∧ Entries φ w kt vt xs r
def ObjRel (φ : Nat → Nat) (β : Beta) (w : World) (l : Nat) : AObj → Prop
  | .dead => True
  | .arr sz t xs tail => match β l with
    | none => False
    | some none => xs = [] ∧ tail = []
    | some (some p) => p.sz = sz ∧ p.nty = xs.length ∧ p.len = xs.length + tail.length ∧ p.len ≤ maxL ∧ (xs ≠ [] → sz = t.sz) ∧ φ p.block = 0 ∧ Free w p.block ∧
        Room w p.block (p.off + p.len * sz) ∧
        (∀ i x, xs[i]? = some x → ∃ ds, Vt φ w t x ds ∧ CellsAt w p.block (p.off + i * sz) ds) ∧
        (∀ q e, tail[q]? = some e → e.length = sz ∧ ∃ ds, VL φ β w e ds ∧ CellsAt w p.block (p.off + (xs.length + q) * sz) ds)
  | .map kt vt es => es.length ≤ maxL ∧ ∃ p ents clock, β l = some (some p) ∧ w.heap[p.block]? = some (.map ents clock) ∧ φ p.block = 0 ∧ okKey kt = true ∧ Entries φ w kt vt es ents.toList
  | .log t xs => match β l with
    | none => False
    | some none => xs = []
    | some (some p) => p.sz = t.sz ∧ p.len = xs.length ∧ p.len ≤ maxL ∧ φ p.block = p.off + p.len * t.sz ∧ Free w p.block ∧ Room w p.block (p.off + p.len * t.sz) ∧
        ∀ i x, xs[i]? = some x → ∃ ds, Vt φ w t x ds ∧ CellsAt w p.block (p.off + i * t.sz) ds
  | .siter s pos => s.length ≤ maxL ∧ ∃ p, β l = some (some p) ∧ w.heap[p.block]? = some (.stringIter ⟨s.toArray⟩ pos) ∧ φ p.block = 0
structure Tab where
  block : Nat
  ty : Ty
  xs : List ty.den
class Tabs (P : Program) where
  tab : List Tab
@[reducible] def Own (_ : Program) : Type := Nat → Prop
def LaidT (P : Program) [Tabs P] (φ : Nat → Nat) (w : World) : Prop := ∀ x ∈ Tabs.tab P, Vt φ w (.sl x.ty) x.xs [.slice (some ⟨x.block, 0, none⟩) x.xs.length x.xs.length]
structure WInv {P : Program} [Tabs P] (own : Own P) (φ : Nat → Nat) (β : Beta) (get : Nat → AObj) (w : World) : Prop where
  rel : ∀ l, ObjRel φ β w l (get l)
  mine : ∀ l p, get l ≠ .dead → β l = some (some p) → own p.block ∧ p.block < w.heap.size
  dist : ∀ l m p q, l ≠ m → get l ≠ .dead → get m ≠ .dead → β l = some (some p) → β m = some (some q) → p.block ≠ q.block
  fresh : ∀ b, w.heap.size ≤ b → own b ∧ φ b = 0
  laid : LaidT P φ w
structure Step (own : Nat → Prop) (new : Nat → Prop) (φ : Nat → Nat) (β : Beta) (w : World) (φ' : Nat → Nat) (β' : Beta) (w' : World) : Prop where
  keeps : Keeps φ w φ' w'
  ext : Ext β β'
  agree : ∀ l, ¬ new l → β' l = β l
  grow : w.heap.size ≤ w'.heap.size
  old : ∀ b, b < w.heap.size → ¬ own b → w'.heap[b]? = w.heap[b]? ∧ φ' b = φ b
theorem LaidT.keep {P : Program} [Tabs P] {φ φ' : Nat → Nat} {w w' : World} (h : LaidT P φ w) (hk : Keeps φ w φ' w') : LaidT P φ' w' := fun x hx => Vt.keep hk _ _ _ (h x hx)
theorem Step.refl {own new : Nat → Prop} {φ : Nat → Nat} {β : Beta} {w : World} : Step own new φ β w φ β w :=
  ⟨.refl _ _, .refl _, fun _ _ => rfl, Nat.le_refl _, fun _ _ _ => ⟨rfl, rfl⟩⟩
theorem Step.trans {own n1 n2 n3 : Nat → Prop} {φ φ1 φ2 : Nat → Nat} {β β1 β2 : Beta} {w w1 w2 : World} (h : Step own n1 φ β w φ1 β1 w1) (h' : Step own n2 φ1 β1 w1 φ2 β2 w2)
    (hn : ∀ l, n1 l ∨ n2 l → n3 l) : Step own n3 φ β w φ2 β2 w2 :=
  ⟨h.keeps.trans h'.keeps, h.ext.trans h'.ext, fun l hl => (h'.agree l (fun x => hl (hn l (.inr x)))).trans (h.agree l (fun x => hl (hn l (.inl x)))), Nat.le_trans h.grow h'.grow,
   fun b hb ho => ⟨(h'.old b (Nat.lt_of_lt_of_le hb h.grow) ho).1.trans (h.old b hb ho).1, (h'.old b (Nat.lt_of_lt_of_le hb h.grow) ho).2.trans (h.old b hb ho).2⟩⟩
theorem Step.mono {own n1 n2 : Nat → Prop} {φ φ1 : Nat → Nat} {β β1 : Beta} {w w1 : World} (h : Step own n1 φ β w φ1 β1 w1) (hn : ∀ l, n1 l → n2 l) : Step own n2 φ β w φ1 β1 w1 :=
  ⟨h.keeps, h.ext, fun l hl => h.agree l (fun x => hl (hn l x)), h.grow, h.old⟩
def Does (P : Program) (w : World) (s : Sem Next) (R : Value → World → Prop) : Prop :=
  match s.run P w with
  | .ok (.value v) w' => R v w'
  | .ok .skip w' => R undef w'
  | .ok (.enter f args) w' => Calls P f args w' fun e w'' => ∃ v, e = .returned v ∧ R v w''
  | _ => False
theorem Does.value {P : Program} {w w' : World} {s : Sem Next} {R : Value → World → Prop} {u : Value} (h : s.run P w = .ok (.value u) w') (hR : R u w') : Does P w s R := by
  unfold Does; rw [h]; exact hR
theorem Does.skip {P : Program} {w w' : World} {s : Sem Next} {R : Value → World → Prop} (h : s.run P w = .ok .skip w') (hR : R undef w') : Does P w s R := by
  unfold Does; rw [h]; exact hR
theorem Does.mono {P : Program} {w : World} {s : Sem Next} {R R' : Value → World → Prop} (h : Does P w s R) (hR : ∀ v w', R v w' → R' v w') : Does P w s R' := by
  unfold Does at *
  split at h
  · exact hR _ _ h
  · exact hR _ _ h
  · exact h.mono fun e w'' ⟨v, he, hr⟩ => ⟨v, he, hR _ _ hr⟩
  · exact h.elim
def upd (pat : List (Nat × AObj)) (get : Nat → AObj) (l : Nat) : AObj := (lk? pat l).getD (get l)
theorem upd_nil (get : Nat → AObj) : upd [] get = get := rfl
theorem lk?_append {α : Type} (a b : List (Nat × α)) (l : Nat) : lk? (a ++ b) l = (lk? a l).or (lk? b l) := by
  induction a with
  | nil => simp [lk?]
  | cons x r ih =>
    obtain ⟨k, v⟩ := x
    simp only [List.cons_append, lk?]
    cases Nat.beq k l <;> simp [ih]
theorem lk_append {α : Type} (d : α) (a b : List (Nat × α)) (l : Nat) : lk d (a ++ b) l = (lk? a l).getD (lk d b l) := by
  induction a with
  | nil => simp [lk?]
  | cons x r ih =>
    obtain ⟨k, v⟩ := x
    simp only [List.cons_append, lk, lk?]
    cases Nat.beq k l <;> simp [ih]
theorem getO_append (pat objs : Objs) : getO (pat ++ objs) = upd pat (getO objs) := by
  funext l; simp [getO, upd, lk_append]
theorem upd_append (a b : List (Nat × AObj)) (get : Nat → AObj) : upd (a ++ b) get = upd a (upd b get) := by
  funext l; simp only [upd, lk?_append]; cases lk? a l <;> simp
def OpGood (P : Program) [Tabs P] (o : Oper) (get : Nat → AObj) (nx : Nat) (ρ : Operand → AV) (v : AV) (pat : List (Nat × AObj)) (rd : List Nat) (nx' : Nat) : Prop :=
  nx ≤ nx' ∧ ∀ (own : Own P) get' φ β w (ρv : Operand → Value), (∀ l, l ∈ rd → get' l = get l) → (∀ l, nx ≤ l → l < nx' → get' l = .dead ∧ β l = none) → (∀ x, x ∈ o.op.operands.toList → V φ β w (ρ x) (ρv x)) →
    WInv own φ β get' w →
    Does P w (execOp ρv o) fun u w' => ∃ φ' β', Step own (fun l => nx ≤ l ∧ l < nx') φ β w φ' β' w' ∧ V φ' β' w' v u ∧ WInv own φ' β' (upd pat get') w'
theorem OpGood.pure {P : Program} [Tabs P] {o : Oper} {get : Nat → AObj} {nx : Nat} {ρ : Operand → AV} {v : AV} {rd : List Nat}
    (h : ∀ (own : Own P) get' φ β w (ρv : Operand → Value), (∀ l, l ∈ rd → get' l = get l) → (∀ x, x ∈ o.op.operands.toList → V φ β w (ρ x) (ρv x)) → WInv own φ β get' w →
      ∃ u, (execOp ρv o).run P w = .ok (.value u) w ∧ V φ β w v u) : OpGood P o get nx ρ v [] rd nx :=
  ⟨Nat.le_refl _, fun own get' φ β w ρv hr _ hv hw => by
    obtain ⟨u, hu, hV⟩ := h own get' φ β w ρv hr hv hw
    exact .value hu ⟨φ, β, .refl, hV, by rw [upd_nil]; exact hw⟩⟩
def aggB : TypeDesc → Bool
  | .struct _ => true
  | .array _ _ => true
  | _ => false
def EqFieldsOK (P : Program) : Nat → List Field → List Ty → Prop
  | _, [], [] => True
  | k, f :: fs, y :: ys => f.name ≠ "_" ∧ f.offset = k ∧ (match y with | .bool => P.underlying f.type = some .bool | .str => P.underlying f.type = some .string | .int n => P.underlying f.type = some (.int n) | _ => False) ∧ EqFieldsOK P (k + 1) fs ys
  | _, _, _ => False
structure RowOK (P : Program) (t : TypeId) (r : TRow) : Prop where
  info : ∃ i z, P.info? t = some i ∧ i.size = r.size ∧ i.bytes = r.bytes ∧ i.zero = some z ∧ z.cells.toList.length = r.size ∧ (r.kind.isAgg = true → z = .agg z.cells) ∧
    (r.kind.isAgg = false → z.cells = #[z]) ∧ ∀ φ β w, VL φ β w r.zero z.cells.toList
  kind : match r.kind with
    | .flat => ∃ d, P.underlying t = some d ∧ (match d with | .struct _ | .array _ _ | .interface _ => False | _ => True)
    | .int k => P.underlying t = some (.int k)
    | .bool => P.underlying t = some .bool
    | .str => P.underlying t = some .string
    | .struct fs eq => ∃ fields, P.underlying t = some (.struct fields) ∧ fields.toList.mapM (fun (f : Field) => (P.info? f.type).map fun i => (f.offset, i.size)) = some fs ∧
        (∀ (f : Field), f ∈ fields.toList → ∀ i, P.info? f.type = some i → i.size ≠ 0 ∧ ∃ d, P.underlying f.type = some d ∧ aggB d = !(i.size == 1)) ∧
        (eq ≠ [] → P.stoodInHeld t = false ∧ P.eqGuardType P.depth t = false ∧ EqFieldsOK P 0 fields.toList eq)
    | .slice e => P.underlying t = some (.slice e)
    | .ptr e => P.underlying t = some (.pointer e)
    | .map k v => P.underlying t = some (.map k v)
    | .iface => ∃ ms, P.underlying t = some (.interface ms)
    | .array n e => P.underlying t = some (.array n e)
def TyOK (P : Program) (t : TypeId) : Ty → Prop
  | .bool => P.underlying t = some .bool ∧ ∃ i, P.info? t = some i ∧ i.size = 1 ∧ i.zero = some (.bool false)
  | .int k => P.underlying t = some (.int k) ∧ ∃ i, P.info? t = some i ∧ i.size = 1 ∧ i.zero = some (.int k 0)
  | .str => P.underlying t = some .string ∧ ∃ i, P.info? t = some i ∧ i.size = 1 ∧ i.zero = some (.string ⟨#[]⟩)
  | y => ∃ i z, P.info? t = some i ∧ i.size = y.sz ∧ i.zero = some z ∧ (∀ φ w, Vt φ w y y.zero z.cells.toList) ∧ (1 < y.sz → z = .agg z.cells) ∧ (y.sz = 1 → z.cells = #[z])
def HoldsP (P : Program) [Tabs P] (n : FuncId) (G : List AV → List (Bool × AV)) : Prop :=
  ∀ args r, pick (G args) = some r → closedL args = true → r.closed = true → ∀ φ β w vs, VL φ β w args vs → (∀ b, w.heap.size ≤ b → φ b = 0) → LaidT P φ w →
    Calls P n vs.toArray w fun e w' => ∃ v φ', e = .returned v ∧ Keeps φ w φ' w' ∧ w.heap.size ≤ w'.heap.size ∧ (∀ b, b < w.heap.size → w'.heap[b]? = w.heap[b]? ∧ φ' b = φ b) ∧
      (∀ b, w'.heap.size ≤ b → φ' b = 0) ∧ V φ' β w' r v
structure Run (k0 : Nat) (own : Nat → Prop) (φ : Nat → Nat) (β : Beta) (w : World) (φ' : Nat → Nat) (β' : Beta) (w' : World) : Prop where
  keeps : Keeps φ w φ' w'
  agree : ∀ l, l < k0 → β' l = β l
  grow : w.heap.size ≤ w'.heap.size
  old : ∀ b, b < w.heap.size → ¬ own b → w'.heap[b]? = w.heap[b]? ∧ φ' b = φ b
def EffGood (P : Program) [Tabs P] (n : FuncId) (args : List AV) (objs : List AObj) (r : AV) (objs' : List AObj) : Prop :=
  ∀ (own : Own P) φ β w vs, VL φ β w args vs → WInv own φ β (fun l => (objs[l]?).getD .dead) w → (∀ l, objs.length ≤ l → β l = none) →
    Calls P n vs.toArray w fun e w' => ∃ v φ' β', e = .returned v ∧ Run objs.length own φ β w φ' β' w' ∧ V φ' β' w' r v ∧ WInv own φ' β' (fun l => (objs'[l]?).getD .dead) w' ∧ (∀ l, objs'.length ≤ l → β' l = none)
def Called (P : Program) (n : FuncId) : Prop := ∃ fn, P.funcs[n]? = some fn ∧ (fn.name == "runtime.NumGoroutine") = false ∧ fn.body.isNone = false
def ApartOK (P : Program) (n : FuncId) : Prop := ∀ (w : World) (a b : Addr) (la ca lb cb : Nat) (tA tB : TypeId) (kA kB : Nat), a.block ≠ b.block → w.shape? a.block = some (tA, kA) → w.shape? b.block = some (tB, kB) → kB ≠ 0 → w.frozen? a = false → w.frozen? { block := a.block, off := kA } = false →
  (callFunc n #[.slice (some a) la ca, .slice (some b) lb cb]).run P w = .ok (.value (.bool false)) w
def HoldsC (P : Program) [Tabs P] (n : FuncId) : Con → Prop
  | .none => True
  | .apart => ApartOK P n
  | .pure G => HoldsP P n G ∧ Called P n
  | .eff F => (∀ args objs r objs', pick (F args objs) = some (r, objs') → objs.length ≤ objs'.length → EffGood P n args objs r objs') ∧ Called P n
  | .cps G => (∀ (R : Type) args objs (K : AV × List AObj → Option R) x, G R args objs K = some x → ∃ r, K r = some x ∧ EffGood P n args objs r.1 r.2) ∧ Called P n
def GlobOK (P : Program) [Tabs P] (E : Env) : Prop := ∀ g, lk .undef E.glob g = .undef ∨ ∃ x ∈ Tabs.tab P, x.block = g ∧ lk .undef E.glob g = .ap x.ty x.xs
theorem GlobOK.none {P : Program} [Tabs P] {E : Env} (h : E.glob = []) : GlobOK P E := fun g => .inl (by rw [h]; rfl)
structure EnvOK (P : Program) [Tabs P] (E : Env) : Prop where
  row : ∀ t r, E.row t = some r → RowOK P t r
  ty : ∀ t y, E.tyOf t = some y → TyOK P t y
  con : ∀ n, HoldsC P n (E.con n)
end Go.Sim
namespace Go.Sim
set_option linter.unusedSectionVars false
set_option linter.unusedSimpArgs false
set_option linter.unusedVariables false
section
variable {P : Program} [Tabs P] {o : Oper} {get : Nat → AObj} {nx : Nat} {ρ : Operand → AV}
theorem V.bool_inv {φ : Nat → Nat} {β : Beta} {w : World} {b : Bool} {v : Value} (h : V φ β w (.bool b) v) : v = .bool b := h
theorem V.int_inv {φ : Nat → Nat} {β : Beta} {w : World} {k : IntKind} {n : Int} {v : Value} (h : V φ β w (.int k n) v) : v = .int k n := h.1
theorem V.int_in {φ : Nat → Nat} {β : Beta} {w : World} {k : IntKind} {n : Int} {v : Value} (h : V φ β w (.int k n) v) : In k n := h.2
theorem V.str_inv {φ : Nat → Nat} {β : Beta} {w : World} {s : List UInt8} {v : Value} (h : V φ β w (.str s) v) : v = .string ⟨s.toArray⟩ := h.1
theorem good_move {x : Operand} (ho : o.op = .move x ∨ o.op = .assign x) : OpGood P o get nx ρ (ρ x) [] [] nx :=
  .pure fun own get' φ β w ρv _ hv _ => by
    rcases ho with ho | ho <;> exact ⟨ρv x, by simp [execOp, ho], hv x (by simp [ho, Op.operands])⟩
theorem good_pick {c a b : Operand} {q : Bool} (ho : o.op = .pick c a b) (hc : ρ c = .bool q) : OpGood P o get nx ρ (cond q (ρ a) (ρ b)) [] [] nx :=
  .pure fun own get' φ β w ρv _ hv _ => by
    have h1 := hv c (by simp [ho, Op.operands])
    have h2 := hv a (by simp [ho, Op.operands])
    have h3 := hv b (by simp [ho, Op.operands])
    rw [hc] at h1
    have h1 := h1.bool_inv
    cases q
    · exact ⟨ρv b, by simp [execOp, ho, h1, Go.asBool], h3⟩
    · exact ⟨ρv a, by simp [execOp, ho, h1, Go.asBool], h2⟩
theorem toList_mk (s : List UInt8) : (⟨s.toArray⟩ : ByteArray).toList = s := by
  rw [ByteArray.toList_eq]
theorem bytesLess_eq : ∀ (a b : List UInt8), Op.bytesLess a b = strLess a b
  | _, [] => by simp [Op.bytesLess, strLess]
  | [], _ :: _ => by simp [Op.bytesLess, strLess]
  | a :: x, b :: y => by simp [Op.bytesLess, strLess, bytesLess_eq x y]
theorem run_intBits (op : BinOp) (k : IntKind) (x y n : Int) (h : intBits op k x y = some n) (w : World) : (Op.intBits op k x y).run P w = .ok (.int k n) w := by
  cases op <;> simp [intBits] at h <;> subst h <;> simp [Op.intBits]
theorem In.shr {k : IntKind} {a : Int} (h : In k a) (n : Nat) : In k (a.fdiv (2 ^ n)) := by
  have hp : (0 : Int) < 2 ^ n := Int.pow_pos (by decide)
  have h1 : (2 : Int) ^ n ≥ 1 := hp
  have hm : k.min ≤ 0 := (In.zero k).1
  have hM : 0 ≤ k.max := (In.zero k).2
  rw [Int.fdiv_eq_ediv_of_nonneg _ (Int.le_of_lt hp)]
  generalize (2 : Int) ^ n = d at hp h1
  unfold In at *
  refine ⟨?_, ?_⟩
  · rw [Int.le_ediv_iff_mul_le hp]
    have : k.min * d ≤ k.min * 1 := Int.mul_le_mul_of_nonpos_left hm h1
    omega
  · by_cases ha : 0 ≤ a
    · exact Int.le_trans (Int.ediv_le_self _ ha) h.2
    · have : a / d < 0 := Int.ediv_neg_of_neg_of_pos (by omega) hp
      omega
theorem In.rem {k : IntKind} {a : Int} (h : In k a) (b : Int) : In k (a.tmod b) := by
  have hm : k.min ≤ 0 := (In.zero k).1
  have hM : 0 ≤ k.max := (In.zero k).2
  have key : (0 ≤ a → 0 ≤ a.tmod b ∧ a.tmod b ≤ a) ∧ (a ≤ 0 → a ≤ a.tmod b ∧ a.tmod b ≤ 0) := by
    constructor
    · intro ha
      exact ⟨Int.tmod_nonneg b ha, by
        have := Int.natAbs_tmod a b
        have h1 := Int.tmod_nonneg b ha
        have h2 := Nat.mod_le a.natAbs b.natAbs
        omega⟩
    · intro ha
      have hn : (-a).tmod b = -(a.tmod b) := Int.neg_tmod a b
      have h1 := Int.tmod_nonneg b (show 0 ≤ -a by omega)
      have := Int.natAbs_tmod (-a) b
      have h2 := Nat.mod_le (-a).natAbs b.natAbs
      omega
  unfold In at *
  rcases Int.le_total 0 a with ha | ha
  · have := key.1 ha; omega
  · have := key.2 ha; omega
theorem In.bits {op : BinOp} {k : IntKind} {a b n : Int} (h : intBits op k a b = some n) : In k n := by
  unfold intBits at h
  split at h <;> first | (simp at h; subst h; exact In.wrap _ _) | cases h
theorem binK_sound {R : Type} {op : BinOp} {a b : AV} {K : AV → Option R} {r : R} (h : binK op a b K = some r) :
    ∃ v, K v = some r ∧ ∀ φ β (w : World) t x y u1 u2, V φ β w a u1 → V φ β w b u2 → ∃ u, (do eqGuard op t x y u1 u2; binOp op t u1 u2).run P w = .ok u w ∧ V φ β w v u := by
  unfold binK at h
  split at h
  · rename_i k a k' b
    have guard : ∀ (w : World) t x y, (eqGuard op t x y (.int k a) (.int k' b)).run P w = .ok () w := fun w t x y => by cases op <;> simp [eqGuard]
    split at h
    · by_cases hb : b < 0
      · simp [hb] at h
      · simp [hb] at h
        refine ⟨_, h, fun φ β w t x y u1 u2 h1 h2 => ?_⟩
        rw [h1.int_inv, h2.int_inv]
        exact ⟨_, by simp [guard, binOp, Op.shift, hb], rfl, In.wrap _ _⟩
    · by_cases hb : b < 0
      · simp [hb] at h
      · simp [hb] at h
        refine ⟨_, h, fun φ β w t x y u1 u2 h1 h2 => ?_⟩
        rw [h1.int_inv, h2.int_inv]
        exact ⟨_, by simp [guard, binOp, Op.shift, hb], rfl, In.shr h1.int_in _⟩
    · by_cases hk : k = k'
      · subst hk
        simp only [decide_true, cond_true] at h
        split at h
        case _ =>
          refine ⟨_, h, fun φ β w t x y u1 u2 h1 h2 => ?_⟩
          rw [h1.int_inv, h2.int_inv]
          exact ⟨_, by simp [guard, binOp, Op.intArith], rfl, In.wrap _ _⟩
        case _ =>
          refine ⟨_, h, fun φ β w t x y u1 u2 h1 h2 => ?_⟩
          rw [h1.int_inv, h2.int_inv]
          exact ⟨_, by simp [guard, binOp, Op.intArith], rfl, In.wrap _ _⟩
        case _ =>
          refine ⟨_, h, fun φ β w t x y u1 u2 h1 h2 => ?_⟩
          rw [h1.int_inv, h2.int_inv]
          exact ⟨_, by simp [guard, binOp, Op.intArith], rfl, In.wrap _ _⟩
        case _ =>
          by_cases hb : b = 0
          · simp [hb] at h
          · simp [hb] at h
            refine ⟨_, h, fun φ β w t x y u1 u2 h1 h2 => ?_⟩
            rw [h1.int_inv, h2.int_inv]
            exact ⟨_, by simp [guard, binOp, Op.intDiv, hb], rfl, In.wrap _ _⟩
        case _ =>
          by_cases hb : b = 0
          · simp [hb] at h
          · simp [hb] at h
            refine ⟨_, h, fun φ β w t x y u1 u2 h1 h2 => ?_⟩
            rw [h1.int_inv, h2.int_inv]
            exact ⟨_, by simp [guard, binOp, Op.intDiv, hb], rfl, In.rem h1.int_in _⟩
        all_goals first
          | (refine ⟨_, h, fun φ β w t x y u1 u2 h1 h2 => ?_⟩
             rw [h1.int_inv, h2.int_inv]
             exact ⟨_, by simp [guard, binOp, Op.intCmp], rfl⟩)
          | (obtain ⟨n, hn, h⟩ := Option.bind_eq_some_iff.1 h
             refine ⟨_, h, fun φ β w t x y u1 u2 h1 h2 => ?_⟩
             rw [h1.int_inv, h2.int_inv]
             refine ⟨.int k n, ?_, rfl, In.bits hn⟩
             have hr := run_intBits (P := P) op k a b n hn w
             cases op <;> simp_all [binOp, intBits])
      · simp [hk] at h
  · rename_i a b
    have guard : ∀ (w : World) t x y, (eqGuard op t x y (.string ⟨a.toArray⟩) (.string ⟨b.toArray⟩)).run P w = .ok () w := fun w t x y => by cases op <;> simp [eqGuard]
    have eqB : ((⟨a.toArray⟩ : ByteArray) ++ ⟨b.toArray⟩) = ⟨(a ++ b).toArray⟩ := by
      apply ByteArray.ext
      simp
    split at h
    · by_cases hb : a.length + b.length ≤ 9223372036854775807
      · simp [hb] at h
        refine ⟨_, h, fun φ β w t x y u1 u2 h1 h2 => ?_⟩
        rw [h1.str_inv, h2.str_inv]
        refine ⟨.string ⟨(a ++ b).toArray⟩, ?_, rfl, by simpa [maxL] using hb⟩
        have hm : ¬ ((9223372036854775807 : Int) < (a.length : Int) + (b.length : Int)) := by omega
        have hmax : IntKind.i64.max = 9223372036854775807 := by decide
        have hsz : ∀ s : List UInt8, (⟨s.toArray⟩ : ByteArray).size = s.length := fun s => by simp [ByteArray.size]
        simp [guard, binOp, Op.stringOp, hmax, hsz, hm, eqB]
      · simp [hb] at h
    all_goals first
      | (refine ⟨_, h, fun φ β w t x y u1 u2 h1 h2 => ?_⟩
         rw [h1.str_inv, h2.str_inv]
         exact ⟨_, by (simp [guard, binOp, Op.stringOp, toList_mk, bytesLess_eq]; try rfl), rfl⟩)
      | (cases h)
  · simp at h
theorem unK_sound {R : Type} {op : UnOp} {a : AV} {K : AV → Option R} {r : R} (h : unK op a K = some r) :
    ∃ v, K v = some r ∧ ∀ φ β (w : World) u1, V φ β w a u1 → ∃ u, (Op.unary op u1).run P w = .ok u w ∧ V φ β w v u := by
  unfold unK at h
  split at h
  · refine ⟨_, h, fun φ β w u1 h1 => ?_⟩
    rw [h1.int_inv]
    exact ⟨_, by simp [Op.unary, Op.intArith]; rfl, by rw [show (0 : Int) - _ = -_ from Int.zero_sub _]; exact ⟨rfl, In.wrap _ _⟩⟩
  · refine ⟨_, h, fun φ β w u1 h1 => ?_⟩
    rw [h1.int_inv]
    exact ⟨.int _ _, by simp only [Op.unary, Op.intBits]; rfl, rfl, In.wrap _ _⟩
  · refine ⟨_, h, fun φ β w u1 h1 => ?_⟩
    rw [h1.bool_inv]
    exact ⟨_, by simp [Op.unary], rfl⟩
  · cases h
theorem RowOK.bool_kind {t : TypeId} {r : TRow} (h : RowOK P t r) (hk : r.kind = .bool) : P.underlying t = some .bool := by have := h.kind; rw [hk] at this; exact this
theorem RowOK.str_kind {t : TypeId} {r : TRow} (h : RowOK P t r) (hk : r.kind = .str) : P.underlying t = some .string := by have := h.kind; rw [hk] at this; exact this
theorem RowOK.int_kind {t : TypeId} {r : TRow} {k : IntKind} (h : RowOK P t r) (hk : r.kind = .int k) : P.underlying t = some (.int k) := by have := h.kind; rw [hk] at this; exact this
theorem RowOK.slice_kind {t e : TypeId} {r : TRow} (h : RowOK P t r) (hk : r.kind = .slice e) : P.underlying t = some (.slice e) := by have := h.kind; rw [hk] at this; exact this
theorem RowOK.ptr_kind {t e : TypeId} {r : TRow} (h : RowOK P t r) (hk : r.kind = .ptr e) : P.underlying t = some (.pointer e) := by have := h.kind; rw [hk] at this; exact this
theorem RowOK.map_kind {t k e : TypeId} {r : TRow} (h : RowOK P t r) (hk : r.kind = .map k e) : P.underlying t = some (.map k e) := by have := h.kind; rw [hk] at this; exact this
theorem RowOK.array_kind {t e : TypeId} {n : Nat} {r : TRow} (h : RowOK P t r) (hk : r.kind = .array n e) : P.underlying t = some (.array n e) := by have := h.kind; rw [hk] at this; exact this
theorem RowOK.size {t : TypeId} {r : TRow} (h : RowOK P t r) (w : World) : (sizeOf t).run P w = .ok r.size w := by
  obtain ⟨i, z, hi, hs, _⟩ := h.info
  simp [sizeOf, typeInfo, hi, hs]
theorem RowOK.isAgg {t : TypeId} {r : TRow} (h : RowOK P t r) (w : World) : (isAgg t).run P w = .ok r.kind.isAgg w := by
  have hk := h.kind
  unfold Go.isAgg
  cases hr : r.kind with
  | flat =>
    rw [hr] at hk
    obtain ⟨d, hd, hm⟩ := hk
    cases d <;> simp_all [run_underlying hd, Row.isAgg]
  | iface =>
    rw [hr] at hk
    obtain ⟨ms, hd⟩ := hk
    simp [run_underlying hd, Row.isAgg]
  | struct fs eq =>
    rw [hr] at hk
    obtain ⟨fields, hd, _⟩ := hk
    simp [run_underlying hd, Row.isAgg]
  | _ => rw [hr] at hk; simp [run_underlying hk, Row.isAgg]
theorem addr_add (b o n : Nat) : (⟨b, o, none⟩ : Addr).add n = ⟨b, o + n, none⟩ := by
  cases n <;> simp [Addr.add]
theorem addr_add' {a : Addr} (h : a.spot = none) (n : Nat) : a.add n = ⟨a.block, a.off + n, none⟩ := by
  obtain ⟨b, o, s⟩ := a
  simp at h
  subst h
  exact addr_add b o n
theorem run_loadVar_cells {t : TypeId} {r : TRow} (h : RowOK P t r) (w : World) (b o : Nat) (cs : List Value) (hl : cs.length = r.size)
    (hc : CellsAt w b o cs) (h1 : r.kind.isAgg = false → r.size = 1) :
    (loadVar t ⟨b, o, none⟩).run P w = .ok (if r.kind.isAgg then .agg cs.toArray else cs.getD 0 undef) w := by
  have hcells : ∀ j v, cs[j]? = some v → w.cell? ((⟨b, o, none⟩ : Addr).add j) = some v := fun j v hv => by rw [addr_add]; exact hc j v hv
  simp only [loadVar, Sem.run_bind, h.isAgg w, Result.andThen_ok]
  cases hk : r.kind.isAgg with
  | true =>
    have hload := run_loadCells_list (P := P) w ⟨b, o, none⟩ cs hcells
    rw [hl] at hload
    simp [h.size w, hload]
  | false =>
    have hs := h1 hk
    rw [hs] at hl
    match cs, hl with
    | [c], _ =>
      have := hcells 0 c rfl
      rw [addr_add] at this
      simp at this
      simp [Go.load, Sem.run, this]
theorem whole_sound {φ : Nat → Nat} {β : Beta} {w : World} {q : Bool} {cs : List AV} {vs : List Value} {v : AV} (h : whole q cs = some v) (hv : VL φ β w cs vs) :
    V φ β w v (if q then .agg vs.toArray else vs.getD 0 undef) ∧ (q = false → vs.length = 1) := by
  cases q with
  | true => simp [whole] at h; subst h; simp only [V, if_true]; exact ⟨⟨vs, rfl, hv⟩, by simp⟩
  | false =>
    simp only [whole, cond_false] at h
    match cs, h with
    | [c], h =>
      simp at h
      subst h
      simp only [VL] at hv
      obtain ⟨u, us, rfl, hu, rfl⟩ := hv
      simpa using hu
theorem elt_cells {φ : Nat → Nat} {β : Beta} {w : World} {l sz : Nat} {t : Ty} {xs : List t.den} {tail : List (List AV)} {p : Place} (h : ObjRel φ β w l (.arr sz t xs tail)) (hp : β l = some (some p)) {e : Elt}
    (hn : e.num p.nty < p.len) (ht : ∀ i, e = .ty i → i < p.nty) :
    ∃ ds, VL φ β w (eltCells t xs tail e) ds ∧ CellsAt w p.block (p.off + e.num p.nty * p.sz) ds ∧ ds.length = p.sz ∧ p.sz = sz := by
  simp only [ObjRel, hp] at h
  obtain ⟨h1, h2, h3, hM, h4, h5, h6, h7, h8, h9⟩ := h
  cases e with
  | ty i =>
    have hi : i < xs.length := by have := ht i rfl; omega
    obtain ⟨ds, hd, hc⟩ := h8 i xs[i] (by simp [hi])
    refine ⟨ds, ?_, ?_, ?_, h1⟩
    · simp only [eltCells]
      rw [List.getD_eq_getElem?_getD, List.getElem?_eq_getElem hi]
      exact Vt.enc t _ _ hd
    · simpa [Elt.num, h1] using hc
    · rw [Vt.length t _ _ hd, h1]
      exact (h4 (by intro e; simp [e] at hi)).symm
  | tl q =>
    simp only [Elt.num] at hn
    have hq : q < tail.length := by omega
    obtain ⟨hl, ds, hd, hc⟩ := h9 q tail[q] (by simp [hq])
    refine ⟨ds, ?_, ?_, ?_, h1⟩
    · simp only [eltCells]
      rw [List.getD_eq_getElem?_getD, List.getElem?_eq_getElem hq]
      exact hd
    · simpa [Elt.num, h1, h2] using hc
    · rw [hd.length, hl, h1]
theorem CellsAt.take {w : World} {b o n : Nat} {cs : List Value} (h : CellsAt w b o cs) : CellsAt w b o (cs.take n) := fun i v hv => by
  rw [List.getElem?_take] at hv
  split at hv
  · exact h i v hv
  · cases hv
theorem CellsAt.drop {w : World} {b o n : Nat} {cs : List Value} (h : CellsAt w b o cs) : CellsAt w b (o + n) (cs.drop n) := fun i v hv => by
  rw [List.getElem?_drop] at hv
  have := h (n + i) v hv
  rwa [← Nat.add_assoc] at this
theorem RowAt.cells {φ : Nat → Nat} {w : World} {b o : Nat} {cs : List Value} (h : RowAt φ w b o cs) : CellsAt w b o cs := fun i v hv => (h i v hv).1
theorem RowAt.take {φ : Nat → Nat} {w : World} {b o n : Nat} {cs : List Value} (h : RowAt φ w b o cs) : RowAt φ w b o (cs.take n) := fun i v hv => by
  rw [List.getElem?_take] at hv
  split at hv
  · exact h i v hv
  · cases hv
theorem RowAt.drop {φ : Nat → Nat} {w : World} {b o n : Nat} {cs : List Value} (h : RowAt φ w b o cs) : RowAt φ w b (o + n) (cs.drop n) := fun i v hv => by
  rw [List.getElem?_drop] at hv
  have := h (n + i) v hv
  rwa [← Nat.add_assoc] at this
theorem good_load_ptr {E : Env} (hE : EnvOK P E) {t : TypeId} {x : Operand} {rw_ : TRow} (ho : o.op = .load t x) (hr : E.row t = some rw_) {l : Nat} {e : Elt} {j sz : Nat} {ty : Ty} {xs : List ty.den} {tail : List (List AV)}
    (hx : ρ x = .ptr l e j) (hg : get l = .arr sz ty xs tail) (hl : (((eltCells ty xs tail e).drop j).take rw_.size).length = rw_.size) {v : AV}
    (hw : whole rw_.kind.isAgg (((eltCells ty xs tail e).drop j).take rw_.size) = some v) : OpGood P o get nx ρ v [] [l] nx :=
  .pure fun own get' φ β w ρv hget hv hW => by
    have h1 := hv x (by simp [ho, Op.operands])
    rw [hx] at h1
    simp only [V] at h1
    obtain ⟨p, hp, hv1, hn, ht⟩ := h1
    have hrel := hW.rel l
    rw [hget l (by simp), hg] at hrel
    obtain ⟨ds, hd, hc, hlen, _⟩ := elt_cells hrel hp hn ht
    have hcut : VL φ β w (((eltCells ty xs tail e).drop j).take rw_.size) ((ds.drop j).take rw_.size) := (hd.drop j).take _
    obtain ⟨hV, h1c⟩ := whole_sound hw hcut
    have hlen2 : ((ds.drop j).take rw_.size).length = rw_.size := by rw [hcut.length]; exact hl
    have hload := run_loadVar_cells (hE.row t rw_ hr) w p.block (p.off + e.num p.nty * p.sz + j) ((ds.drop j).take rw_.size) hlen2 (hc.drop.take) (fun hk => by rw [← hlen2]; exact h1c hk)
    refine ⟨_, ?_, hV⟩
    simp [execOp, ho, hv1, Instr.loadAt, Instr.sureAddr, hload]
theorem good_load_eptr {E : Env} (hE : EnvOK P E) {t : TypeId} {x : Operand} {rw_ : TRow} (ho : o.op = .load t x) (hr : E.row t = some rw_) {cs : List AV}
    (hx : ρ x = .eptr cs) (hl : (cs.take rw_.size).length = rw_.size) {v : AV}
    (hw : whole rw_.kind.isAgg (cs.take rw_.size) = some v) : OpGood P o get nx ρ v [] [] nx :=
  .pure fun own get' φ β w ρv hget hv hW => by
    have h1 := hv x (by simp [ho, Op.operands])
    rw [hx] at h1
    simp only [V] at h1
    obtain ⟨a, vs, hv1, hs, hd, hrow⟩ := h1
    have hcut : VL φ β w (cs.take rw_.size) (vs.take rw_.size) := hd.take _
    obtain ⟨hV, h1c⟩ := whole_sound hw hcut
    have hlen2 : (vs.take rw_.size).length = rw_.size := by rw [hcut.length]; exact hl
    have hload := run_loadVar_cells (hE.row t rw_ hr) w a.block a.off (vs.take rw_.size) hlen2 (hrow.cells.take) (fun hk => by rw [← hlen2]; exact h1c hk)
    refine ⟨_, ?_, hV⟩
    obtain ⟨b, of, sp⟩ := a
    simp at hs
    subst hs
    simp [execOp, ho, hv1, Instr.loadAt, Instr.sureAddr, hload]
end
end Go.Sim
namespace Go.Sim
set_option linter.unusedSectionVars false
set_option linter.unusedSimpArgs false
set_option linter.unusedVariables false
section
variable {P : Program} [Tabs P] {o : Oper} {get : Nat → AObj} {nx : Nat} {ρ : Operand → AV}
theorem good_nilCheck {x : Operand} (ho : o.op = .nilCheck x) (hx : (∃ l e j, ρ x = .ptr l e j) ∨ ∃ cs, ρ x = .eptr cs) : OpGood P o get nx ρ (ρ x) [] [] nx :=
  .pure fun own get' φ β w ρv _ hv _ => by
    have h1 := hv x (by simp [ho, Op.operands])
    have hp : ∃ a, ρv x = .pointer (some a) := by
      rcases hx with ⟨l, e, j, hx⟩ | ⟨cs, hx⟩
      · rw [hx] at h1; simp only [V] at h1; obtain ⟨p, _, hv1, _⟩ := h1; exact ⟨_, hv1⟩
      · rw [hx] at h1; simp only [V] at h1; obtain ⟨a, _, hv1, _⟩ := h1; exact ⟨_, hv1⟩
    obtain ⟨a, ha⟩ := hp
    exact ⟨ρv x, by simp [execOp, ho, ha], h1⟩
theorem good_binOp {op : BinOp} {t t' : TypeId} {x y : Operand} (ho : o.op = .binOp op t x y t') {v : AV}
    (h : ∀ φ β (w : World) t x' y' u1 u2, V φ β w (ρ x) u1 → V φ β w (ρ y) u2 → ∃ u, (do eqGuard op t x' y' u1 u2; binOp op t u1 u2).run P w = .ok u w ∧ V φ β w v u) : OpGood P o get nx ρ v [] [] nx :=
  .pure fun own get' φ β w ρv _ hv _ => by
    obtain ⟨u, hu, hV⟩ := h φ β w t x y (ρv x) (ρv y) (hv x (by simp [ho, Op.operands])) (hv y (by simp [ho, Op.operands]))
    refine ⟨u, ?_, hV⟩
    simp only [execOp, ho]
    rw [Sem.run_bind, hu]
    simp
theorem good_binOp_at {op : BinOp} {t t' : TypeId} {x y : Operand} (ho : o.op = .binOp op t x y t') {v : AV}
    (h : ∀ φ β (w : World) u1 u2, V φ β w (ρ x) u1 → V φ β w (ρ y) u2 → ∃ u, (do eqGuard op t x y u1 u2; binOp op t u1 u2).run P w = .ok u w ∧ V φ β w v u) : OpGood P o get nx ρ v [] [] nx :=
  .pure fun own get' φ β w ρv _ hv _ => by
    obtain ⟨u, hu, hV⟩ := h φ β w (ρv x) (ρv y) (hv x (by simp [ho, Op.operands])) (hv y (by simp [ho, Op.operands]))
    refine ⟨u, ?_, hV⟩
    simp only [execOp, ho]
    rw [Sem.run_bind, hu]
    simp
theorem run_eqFields_cells (w : World) (φ : Nat → Nat) (β : Beta) (d : Nat) (us vs : List Value) : ∀ (fs : List Field) (ts : List Ty) (cs ds : List AV) (k : Nat) (q : Bool),
    EqFieldsOK P k fs ts → VL φ β w cs (us.drop k) → VL φ β w ds (vs.drop k) → eqCells ts cs ds = some q →
    (Op.eqFields (d + 1) us.toArray vs.toArray fs).run P w = .ok q w := by
  intro fs
  induction fs with
  | nil =>
    intro ts cs ds k q hf h1 h2 he
    cases ts with
    | cons y ys => exact hf.elim
    | nil =>
      match cs, ds, he with
      | [], [], he => simp [eqCells] at he; subst he; simp [Op.eqFields]
  | cons f fs ih =>
    intro ts cs ds k q hf h1 h2 he
    cases ts with
    | nil => exact hf.elim
    | cons y ys =>
    obtain ⟨hn, hoff, hty, hrestf⟩ := hf
    have key : ∀ (c e : AV) (cs' ds' : List AV) (r q' : Bool), VL φ β w (c :: cs') (us.drop k) → VL φ β w (e :: ds') (vs.drop k) → eqCells ys cs' ds' = some q' →
        (∀ u v, V φ β w c u → V φ β w e v → (Op.equalIn (d + 1) f.type u v).run P w = .ok r w) → (Go.isAgg f.type).run P w = .ok false w → q = (r && q') →
        (Op.eqFields (d + 1) us.toArray vs.toArray (f :: fs)).run P w = .ok q w := by
      intro c e cs' ds' r q' h1 h2 hq' heq hagg hq
      simp only [VL] at h1 h2
      obtain ⟨u, us', hu, hcu, hcs⟩ := h1
      obtain ⟨v, vs', hv, hev, hds⟩ := h2
      have hget : us[k]? = some u := by have := congrArg (·[0]?) hu; simpa using this
      have hget' : vs[k]? = some v := by have := congrArg (·[0]?) hv; simpa using this
      have hus : us.drop (k + 1) = us' := by have := congrArg List.tail hu; simpa using this
      have hvs : vs.drop (k + 1) = vs' := by have := congrArg List.tail hv; simpa using this
      have hpa : (part f.type us.toArray f.offset).run P w = .ok u w := by simp [part, hagg, hoff, hget]
      have hpb : (part f.type vs.toArray f.offset).run P w = .ok v w := by simp [part, hagg, hoff, hget']
      have hrest := ih ys cs' ds' (k + 1) q' hrestf (by rw [hus]; exact hcs) (by rw [hvs]; exact hds) hq'
      subst hq
      simp only [Op.eqFields, if_pos hn, Sem.run_bind, hpa, hpb, heq u v hcu hev, Result.andThen_ok]
      cases r
      · simp
      · simpa using hrest
    cases y with
    | bool =>
      match cs, ds, he with
      | .bool a :: cs', .bool b :: ds', he =>
        obtain ⟨q', hq', he⟩ := Option.bind_eq_some_iff.1 he
        simp at he
        refine key _ _ cs' ds' (a == b) q' h1 h2 hq' (fun u v hu hv => ?_) (by unfold Go.isAgg; simp [run_underlying hty]) he.symm
        rw [hu.bool_inv, hv.bool_inv]
        exact run_equalIn_bool' w d f.type a b hty
    | int n =>
      match cs, ds, he with
      | .int k1 a :: cs', .int k2 b :: ds', he =>
        simp only [eqCells] at he
        by_cases hk : k1 = n ∧ k2 = n
        · obtain ⟨rfl, rfl⟩ := hk
          simp only [decide_true, Bool.and_self, cond_true] at he
          obtain ⟨q', hq', he⟩ := Option.bind_eq_some_iff.1 he
          simp at he
          refine key _ _ cs' ds' (a == b) q' h1 h2 hq' (fun u v hu hv => ?_) (by unfold Go.isAgg; simp [run_underlying hty]) he.symm
          rw [hu.int_inv, hv.int_inv]
          exact run_equalIn_int w d f.type _ _ a b hty
        · have : (decide (k1 = n) && decide (k2 = n)) = false := by simp; intro h1 h2; exact hk ⟨h1, h2⟩
          simp [this] at he
    | str =>
      match cs, ds, he with
      | .str a :: cs', .str b :: ds', he =>
        obtain ⟨q', hq', he⟩ := Option.bind_eq_some_iff.1 he
        simp at he
        refine key _ _ cs' ds' (a == b) q' h1 h2 hq' (fun u v hu hv => ?_) (by unfold Go.isAgg; simp [run_underlying hty]) he.symm
        rw [hu.str_inv, hv.str_inv, run_equalIn_string w d f.type _ _ hty, toList_mk, toList_mk]
    | sl e => exact hty.elim
    | pair a b => exact hty.elim
    | raw => exact hty.elim
theorem eq_agg {E : Env} (hE : EnvOK P E) {op : BinOp} {t : TypeId} {rw_ : TRow} (hr : E.row t = some rw_) {fs : List (Nat × Nat)} {k : Ty} {ks : List Ty} (hk : rw_.kind = .struct fs (k :: ks))
    {cs ds : List AV} {q : Bool} (he : eqCells (k :: ks) cs ds = some q) (hop : op = .eql ∨ op = .neq) {φ : Nat → Nat} {β : Beta} {w : World} {x y : Operand} {u1 u2 : Value} (h1 : V φ β w (.agg cs) u1) (h2 : V φ β w (.agg ds) u2) :
    ∃ u, (do eqGuard op t x y u1 u2; binOp op t u1 u2).run P w = .ok u w ∧ V φ β w (.bool (if op = .eql then q else !q)) u := by
  have hR := (hE.row t rw_ hr).kind
  rw [hk] at hR
  obtain ⟨fields, hu, _, _, hq⟩ := hR
  obtain ⟨hst, hg, hf⟩ := hq (by simp)
  simp only [V] at h1 h2
  obtain ⟨us, rfl, hus⟩ := h1
  obtain ⟨vs, rfl, hvs⟩ := h2
  have hfo : P.fieldsOf t = fields := by simp [Program.fieldsOf, hu]
  have hguard := run_eqGuard_agg (P := P) w op t x y us.toArray vs.toArray hg
  have hrun := run_eqFields_cells (P := P) w φ β 9998 us vs fields.toList (k :: ks) cs ds 0 q hf (by simpa using hus) (by simpa using hvs) he
  have heq := run_equalIn_struct (P := P) w 9999 t us.toArray vs.toArray (by rw [hfo]; exact hu) hst
  rw [hfo] at heq
  have hfin : (Op.equalIn 10000 t (.agg us.toArray) (.agg vs.toArray)).run P w = .ok q w := by rw [heq]; exact hrun
  rcases hop with rfl | rfl
  · refine ⟨.bool q, ?_, by simp [V]⟩
    rw [Sem.run_bind, hguard, Result.andThen_ok, run_eql_struct, hfin]
    rfl
  · refine ⟨.bool (!q), ?_, by simp [V]⟩
    rw [Sem.run_bind, hguard, Result.andThen_ok, run_neq_struct, hfin]
    rfl
theorem eq_bool {E : Env} (hE : EnvOK P E) {op : BinOp} {t : TypeId} {rw_ : TRow} (hr : E.row t = some rw_) (hk : rw_.kind = .bool) {a b : Bool} (hop : op = .eql ∨ op = .neq) {φ : Nat → Nat} {β : Beta} {w : World} {x y : Operand} {u1 u2 : Value} (h1 : V φ β w (.bool a) u1) (h2 : V φ β w (.bool b) u2) :
    ∃ u, (do eqGuard op t x y u1 u2; binOp op t u1 u2).run P w = .ok u w ∧ V φ β w (.bool (if op = .eql then (a == b) else !(a == b))) u := by
  have hu := (hE.row t rw_ hr).bool_kind hk
  rw [h1.bool_inv, h2.bool_inv]
  have he : (Op.equalIn 10000 t (.bool a) (.bool b)).run P w = .ok (a == b) w := run_equalIn_bool' w 9999 t a b hu
  rcases hop with rfl | rfl
  · exact ⟨.bool (a == b), by simp [eqGuard, binOp, Op.equal, Op.maxDepth, he], by simp [V]⟩
  · exact ⟨.bool (!(a == b)), by simp [eqGuard, binOp, Op.equal, Op.maxDepth, he], by simp [V]⟩
theorem run_equalIn_ptr (w : World) (d : Nat) {t e : TypeId} (hu : P.underlying t = some (.pointer e)) {A B : Option Addr} (hAB : A = none ∨ B = none) :
    (Op.equalIn (d + 1) t (.pointer A) (.pointer B)).run P w = .ok (A.isNone && B.isNone) w := by
  rcases hAB with rfl | rfl
  · simp [Op.equalIn, run_underlying hu]
  · cases A <;> simp [Op.equalIn, run_underlying hu]
theorem eq_ptr {E : Env} (hE : EnvOK P E) {op : BinOp} {t e : TypeId} {rw_ : TRow} (hr : E.row t = some rw_) (hk : rw_.kind = .ptr e) {w : World} {x y : Operand} {A B : Option Addr} (hAB : A = none ∨ B = none) (hop : op = .eql ∨ op = .neq) :
    (do eqGuard op t x y (.pointer A) (.pointer B); binOp op t (.pointer A) (.pointer B)).run P w = .ok (.bool (if op = .eql then (A.isNone && B.isNone) else !(A.isNone && B.isNone))) w := by
  have hu := (hE.row t rw_ hr).ptr_kind hk
  have he : (Op.equalIn 10000 t (.pointer A) (.pointer B)).run P w = .ok (A.isNone && B.isNone) w := run_equalIn_ptr w 9999 hu hAB
  rcases hop with rfl | rfl
  · have hb : binOp .eql t (.pointer A) (.pointer B) = (do pure (.bool (← Op.equalIn 10000 t (.pointer A) (.pointer B)))) := by cases A <;> cases B <;> rfl
    rw [hb]
    generalize Op.equalIn 10000 t (.pointer A) (.pointer B) = s at he
    simp [eqGuard, he]
  · have hb : binOp .neq t (.pointer A) (.pointer B) = (do pure (.bool (!(← Op.equalIn 10000 t (.pointer A) (.pointer B))))) := by cases A <;> cases B <;> rfl
    rw [hb]
    generalize Op.equalIn 10000 t (.pointer A) (.pointer B) = s at he
    simp [eqGuard, he]
end
end Go.Sim
namespace Go.Sim
set_option linter.unusedSectionVars false
set_option linter.unusedSimpArgs false
set_option linter.unusedVariables false
section
variable {P : Program} [Tabs P] {o : Oper} {get : Nat → AObj} {nx : Nat} {ρ : Operand → AV}
theorem good_unOp {op : UnOp} {t : TypeId} {x : Operand} (ho : o.op = .unOp op t x) {v : AV}
    (h : ∀ φ β (w : World) u1, V φ β w (ρ x) u1 → ∃ u, (Op.unary op u1).run P w = .ok u w ∧ V φ β w v u) : OpGood P o get nx ρ v [] [] nx :=
  .pure fun own get' φ β w ρv _ hv _ => by
    obtain ⟨u, hu, hV⟩ := h φ β w (ρv x) (hv x (by simp [ho, Op.operands]))
    exact ⟨u, by simp [execOp, ho, hu], hV⟩
theorem good_conv_int {E : Env} (hE : EnvOK P E) {s d : TypeId} {x : Operand} {rs rd : TRow} (ho : o.op = .convert s d x) (hs : E.row s = some rs) (hd : E.row d = some rd) {k0 k k1 : IntKind} (hks : rs.kind = .int k0) (hkd : rd.kind = .int k) {n : Int}
    (hx : ρ x = .int k1 n) : OpGood P o get nx ρ (.int k (k.wrap n)) [] [] nx :=
  .pure fun own get' φ β w ρv _ hv _ => by
    have h1 := hv x (by simp [ho, Op.operands])
    rw [hx] at h1
    have h1 := h1.int_inv
    have u1 := (hE.row s rs hs).int_kind hks
    have u2 := (hE.row d rd hd).int_kind hkd
    exact ⟨.int k (k.wrap n), by simp [execOp, ho, h1, convert, run_underlying u1, run_underlying u2, Conv.intToInt], rfl, In.wrap _ _⟩
theorem good_conv_str {E : Env} (hE : EnvOK P E) {s d : TypeId} {x : Operand} {rs rd : TRow} (ho : o.op = .convert s d x) (hs : E.row s = some rs) (hd : E.row d = some rd) (hks : rs.kind = .str) (hkd : rd.kind = .str) {l : List UInt8}
    (hx : ρ x = .str l) : OpGood P o get nx ρ (.str l) [] [] nx :=
  .pure fun own get' φ β w ρv _ hv _ => by
    have h1 := hv x (by simp [ho, Op.operands])
    rw [hx] at h1
    have hl := h1.2
    have h1 := h1.str_inv
    have u1 := (hE.row s rs hs).str_kind hks
    have u2 := (hE.row d rd hd).str_kind hkd
    exact ⟨.string ⟨l.toArray⟩, by simp [execOp, ho, h1, convert, run_underlying u1, run_underlying u2], rfl, hl⟩
theorem good_conv_rune {E : Env} (hE : EnvOK P E) {s d : TypeId} {x : Operand} {rs rd : TRow} (ho : o.op = .convert s d x) (hs : E.row s = some rs) (hd : E.row d = some rd) {k0 k1 : IntKind} (hks : rs.kind = .int k0) (hkd : rd.kind = .str) {n : Int}
    (hx : ρ x = .int k1 n) (hlen : (Utf8.encode n).data.toList.length ≤ 4) : OpGood P o get nx ρ (.str (Utf8.encode n).data.toList) [] [] nx :=
  .pure fun own get' φ β w ρv _ hv _ => by
    have h1 := hv x (by simp [ho, Op.operands])
    rw [hx] at h1
    have h1 := h1.int_inv
    have u1 := (hE.row s rs hs).int_kind hks
    have u2 := (hE.row d rd hd).str_kind hkd
    exact ⟨.string (Utf8.encode n), by simp [execOp, ho, h1, convert, run_underlying u1, run_underlying u2, Conv.intToString], by simp only [V]; exact ⟨by simp, by unfold maxL; omega⟩⟩
theorem good_makeInterface {E : Env} (hE : EnvOK P E) {t : TypeId} {x : Operand} {rw_ : TRow} (ho : o.op = .makeInterface t x) (hr : E.row t = some rw_) (hk : rw_.kind ≠ .iface) : OpGood P o get nx ρ (.iface t (ρ x)) [] [] nx :=
  .pure fun own get' φ β w ρv _ hv _ => by
    have h1 := hv x (by simp [ho, Op.operands])
    have hu : ∃ d, P.underlying t = some d ∧ (∀ ms, d ≠ .interface ms) := by
      have h := (hE.row t rw_ hr).kind
      cases hkk : rw_.kind with
      | flat => rw [hkk] at h; obtain ⟨d, hd, hm⟩ := h; exact ⟨d, hd, fun ms e => by subst e; exact hm⟩
      | iface => exact absurd hkk hk
      | struct fs eq => rw [hkk] at h; obtain ⟨fields, hd, _⟩ := h; exact ⟨_, hd, fun ms e => by cases e⟩
      | _ => rw [hkk] at h; exact ⟨_, h, fun ms e => by cases e⟩
    obtain ⟨d, hd, hni⟩ := hu
    refine ⟨.iface t (ρv x), ?_, by simp only [V]; exact ⟨_, rfl, h1⟩⟩
    cases d <;> simp [execOp, ho, Instr.makeInterface, run_underlying hd]
    exact absurd rfl (hni _)
theorem VL.map {φ : Nat → Nat} {β : Beta} {w : World} {ρv : Operand → Value} : ∀ (l : List Operand), (∀ x, x ∈ l → V φ β w (ρ x) (ρv x)) → VL φ β w (l.map ρ) (l.map ρv)
  | [], _ => rfl
  | x :: l, h => .cons (h x (by simp)) (VL.map l fun y hy => h y (by simp [hy]))
theorem good_makeFunc {f : Fn} {first cap : Array Operand} (ho : o.op = .makeFunc f first cap) : OpGood P o get nx ρ (.fn f (first.toList.map ρ) (cap.toList.map ρ)) [] [] nx :=
  .pure fun own get' φ β w ρv _ hv _ => by
    refine ⟨.func f (first.map ρv) (cap.map ρv), by simp [execOp, ho, Instr.makeFunc], ?_⟩
    simp only [V]
    refine ⟨first.toList.map ρv, cap.toList.map ρv, ?_, VL.map _ fun x hx => hv x ?_, VL.map _ fun x hx => hv x ?_⟩
    · congr 1 <;> (apply Array.ext'; simp)
    · simp [ho, Op.operands]; exact .inl (by simpa using hx)
    · simp [ho, Op.operands]; exact .inr (by simpa using hx)
theorem mapM_get {α β : Type} {g : α → Option β} : ∀ {l : List α} {r : List β} {i : Nat} {y : β}, l.mapM g = some r → r[i]? = some y → ∃ x, l[i]? = some x ∧ g x = some y
  | [], r, i, y, h, hi => by simp at h; subst h; simp at hi
  | a :: l, r, i, y, h, hi => by
    rw [List.mapM_cons] at h
    simp only [bind, Option.bind_eq_some_iff, pure, Option.some.injEq] at h
    obtain ⟨b, hb, bs, hbs, rfl⟩ := h
    cases i with
    | zero => simp at hi; subst hi; exact ⟨a, rfl, hb⟩
    | succ i => simp at hi; simpa using mapM_get hbs hi
theorem struct_field {E : Env} (hE : EnvOK P E) {t : TypeId} {rw_ : TRow} (hr : E.row t = some rw_) {fs : List (Nat × Nat)} {eq : List Ty} (hk : rw_.kind = .struct fs eq) {i : Nat} {p : Nat × Nat} (hp : fs[i]? = some p) :
    ∃ fields f, P.underlying t = some (.struct fields) ∧ fields[i]? = some f ∧ f.offset = p.1 ∧ p.2 ≠ 0 ∧ (∀ w, (sizeOf f.type).run P w = .ok p.2 w) ∧ (∀ w, (Go.isAgg f.type).run P w = .ok (!(p.2 == 1)) w) := by
  have h := (hE.row t rw_ hr).kind
  rw [hk] at h
  obtain ⟨fields, hu, hm, hf, _⟩ := h
  obtain ⟨f, hfi, hg⟩ := mapM_get hm hp
  cases hi : P.info? f.type with
  | none => simp [hi] at hg
  | some ti =>
    simp [hi] at hg
    obtain ⟨h1, d, hd, hagg⟩ := hf f (List.mem_of_getElem? hfi) ti hi
    subst hg
    refine ⟨fields, f, hu, by simpa using hfi, rfl, h1, fun w => by simp [sizeOf, typeInfo, hi], fun w => ?_⟩
    unfold Go.isAgg
    simp only [Sem.run_bind, run_underlying hd, Result.andThen_ok, ← hagg]
    cases d <;> simp [aggB]
theorem good_fieldAddr_ptr {E : Env} (hE : EnvOK P E) {t : TypeId} {x : Operand} {f : Nat} {rw_ : TRow} (ho : o.op = .fieldAddr t x f) (hr : E.row t = some rw_) {fs : List (Nat × Nat)} {eq : List Ty} (hk : rw_.kind = .struct fs eq) {p : Nat × Nat} (hp : fs[f]? = some p)
    {l : Nat} {e : Elt} {j : Nat} (hx : ρ x = .ptr l e j) : OpGood P o get nx ρ (.ptr l e (j + p.1)) [] [] nx :=
  .pure fun own get' φ β w ρv _ hv _ => by
    have h1 := hv x (by simp [ho, Op.operands])
    rw [hx] at h1
    simp only [V] at h1
    obtain ⟨q, hq, hv1, hn, ht⟩ := h1
    obtain ⟨fields, fl, hu, hfi, hoff, hne, hsz, _⟩ := struct_field hE hr hk hp
    refine ⟨.pointer (some ⟨q.block, q.off + e.num q.nty * q.sz + (j + p.1), none⟩), ?_, by simp only [V]; exact ⟨q, hq, rfl, hn, ht⟩⟩
    simp [execOp, ho, hv1, Instr.fieldAt, run_underlying hu, hfi, Instr.sureAddr, fieldPlace, hsz, hne, addr_add, hoff, Nat.add_assoc]
theorem good_fieldAddr_eptr {E : Env} (hE : EnvOK P E) {t : TypeId} {x : Operand} {f : Nat} {rw_ : TRow} (ho : o.op = .fieldAddr t x f) (hr : E.row t = some rw_) {fs : List (Nat × Nat)} {eq : List Ty} (hk : rw_.kind = .struct fs eq) {p : Nat × Nat} (hp : fs[f]? = some p)
    {cs : List AV} (hx : ρ x = .eptr cs) : OpGood P o get nx ρ (.eptr (cs.drop p.1)) [] [] nx :=
  .pure fun own get' φ β w ρv _ hv _ => by
    have h1 := hv x (by simp [ho, Op.operands])
    rw [hx] at h1
    simp only [V] at h1
    obtain ⟨a, vs, hv1, hs, hd, hrow⟩ := h1
    obtain ⟨fields, fl, hu, hfi, hoff, hne, hsz, _⟩ := struct_field hE hr hk hp
    refine ⟨.pointer (some ⟨a.block, a.off + p.1, none⟩), ?_, by simp only [V]; exact ⟨_, vs.drop p.1, rfl, rfl, hd.drop _, hrow.drop⟩⟩
    simp [execOp, ho, hv1, Instr.fieldAt, run_underlying hu, hfi, Instr.sureAddr, fieldPlace, hsz, hne, addr_add' hs, hoff]
theorem good_field {E : Env} (hE : EnvOK P E) {t : TypeId} {x : Operand} {f : Nat} {rw_ : TRow} (ho : o.op = .field t x f) (hr : E.row t = some rw_) {fs : List (Nat × Nat)} {eq : List Ty} (hk : rw_.kind = .struct fs eq) {p : Nat × Nat} (hp : fs[f]? = some p)
    {cs : List AV} (hx : ρ x = .agg cs) (hl : p.1 + p.2 ≤ cs.length) {v : AV} (hv : if p.2 = 1 then cs[p.1]? = some v else v = .agg ((cs.drop p.1).take p.2)) : OpGood P o get nx ρ v [] [] nx :=
  .pure fun own get' φ β w ρv _ hvs _ => by
    have h1 := hvs x (by simp [ho, Op.operands])
    rw [hx] at h1
    simp only [V] at h1
    obtain ⟨vs, hv1, hd⟩ := h1
    obtain ⟨fields, fl, hu, hfi, hoff, hne, hsz, hag⟩ := struct_field hE hr hk hp
    by_cases h1 : p.2 = 1
    · rw [if_pos h1] at hv
      obtain ⟨u, hu2, hVu⟩ := hd.get hv
      refine ⟨u, ?_, hVu⟩
      simp [execOp, ho, hv1, Instr.field, run_underlying hu, hfi, part, hag, h1, hoff, Go.asAgg, hu2]
    · rw [if_neg h1] at hv
      subst hv
      refine ⟨.agg ((vs.drop p.1).take p.2).toArray, ?_, by simp only [V]; exact ⟨_, rfl, (hd.drop _).take _⟩⟩
      simp [execOp, ho, hv1, Instr.field, run_underlying hu, hfi, part, hag, h1, hoff, Go.asAgg, hsz]
theorem alen_eq {t : Ty} (xs : List t.den) (tail : List (List AV)) : alen xs tail = xs.length + tail.length := by
  unfold alen
  split <;> simp
theorem offAdd_eq (a i : Nat) : offAdd a i = a + i := by
  cases a <;> simp [offAdd]
theorem tlK_sound {R : Type} {m : Nat} {K : Nat → Option R} {r : R} : ∀ {p : Nat} {l : List (List AV)}, tlK m K p l = some r → ∃ q, m = q ∧ p ≤ q ∧ q < p + l.length ∧ K q = some r
  | p, [], h => by simp [tlK] at h
  | p, c :: l, h => by
    unfold tlK at h
    by_cases hm : m = p
    · simp [hm] at h; exact ⟨p, hm, Nat.le_refl _, by simp, h⟩
    · simp [hm] at h
      obtain ⟨q, h1, h2, h3, h4⟩ := tlK_sound h
      exact ⟨q, h1, by omega, by simp; omega, h4⟩
theorem placeK_sound {R : Type} {l : Nat} {t : Ty} {xs : List t.den} {tail : List (List AV)} {m : Nat} {K : AV → Option R} {r : R} (h : placeK l xs tail m K = some r) (hm : m < xs.length + tail.length) :
    ∃ e : Elt, K (.ptr l e 0) = some r ∧ e.num xs.length = m ∧ (∀ i, e = .ty i → i < xs.length) := by
  unfold placeK at h
  split at h
  · exact ⟨.ty m, h, rfl, fun i hi => by cases hi; simpa using hm⟩
  · by_cases hlt : m < xs.length
    · simp [hlt] at h
      exact ⟨.ty m, h, rfl, fun i hi => by cases hi; exact hlt⟩
    · simp [hlt] at h
      obtain ⟨q, h1, h2, h3, h4⟩ := tlK_sound h
      exact ⟨.tl q, h4, by simp [Elt.num]; omega, fun i hi => by cases hi⟩
theorem run_indexAt_slice {t e : TypeId} {re : TRow} (hu : P.underlying t = some (.slice e)) (he : RowOK P e re) (w : World) {a : Addr} {len cap : Nat} {k : IntKind} {n : Int} (h0 : 0 ≤ n) (h1 : n < len) :
    (Instr.indexAt t (.slice (some a) len cap) (.int k n)).run P w = .ok (.pointer (some (a.add (n.toNat * re.size)))) w := by
  simp [Instr.indexAt, asIntOf, run_underlying hu, he.size, h0, h1]
theorem good_indexAddr_vl {E : Env} (hE : EnvOK P E) {t e : TypeId} {x i : Operand} {rw_ re : TRow} (ho : o.op = .indexAddr t x i) (hr : E.row t = some rw_) (hk : rw_.kind = .slice e) (hre : E.row e = some re) {k : IntKind} {n : Int} (hi : ρ i = .int k n)
    {y : Ty} {xs : List y.den} (hx : ρ x = .vl y xs) (hsz : y.sz = re.size) (h0 : 0 ≤ n) (h1 : n < xs.length) : OpGood P o get nx ρ (.eptr (enc y (xs.getD n.toNat y.zero))) [] [] nx :=
  .pure fun own get' φ β w ρv _ hvs _ => by
    have hX := hvs x (by simp [ho, Op.operands])
    have hI := hvs i (by simp [ho, Op.operands])
    rw [hx] at hX
    rw [hi] at hI
    have hI := hI.int_inv
    simp only [V, Vt] at hX
    obtain ⟨_, A, cap, hv1, hcap, hel⟩ := hX
    simp at hv1
    have hlt : n.toNat < xs.length := by omega
    obtain ⟨a, ds, ha, hs, hd, hrow⟩ := hel n.toNat xs[n.toNat] (by simp [hlt])
    subst ha
    refine ⟨.pointer (some ⟨a.block, a.off + n.toNat * y.sz, none⟩), ?_, ?_⟩
    · have := run_indexAt_slice ((hE.row t rw_ hr).slice_kind hk) (hE.row e re hre) w (a := a) (cap := cap) (k := k) h0 h1
      simp [execOp, ho, hv1, hI, this, addr_add' hs, hsz]
    · simp only [V]
      refine ⟨_, ds, rfl, rfl, ?_, hrow⟩
      rw [List.getD_eq_getElem?_getD, List.getElem?_eq_getElem hlt]
      exact Vt.enc y _ _ hd
theorem run_indexAt_array {t e : TypeId} {re : TRow} {m : Nat} (hu : P.underlying t = some (.array m e)) (he : RowOK P e re) (w : World) {a : Addr} {k : IntKind} {n : Int} (h0 : 0 ≤ n) (h1 : n < m) :
    (Instr.indexAt t (.pointer (some a)) (.int k n)).run P w = .ok (.pointer (some (a.add (n.toNat * re.size)))) w := by
  simp [Instr.indexAt, asIntOf, Instr.sureAddr, run_underlying hu, he.size, h0, h1]
theorem good_indexAddr_ap {E : Env} (hE : EnvOK P E) {t e : TypeId} {m : Nat} {x i : Operand} {rw_ re : TRow} (ho : o.op = .indexAddr t x i) (hr : E.row t = some rw_) (hk : rw_.kind = .array m e) (hre : E.row e = some re) {k : IntKind} {n : Int} (hi : ρ i = .int k n)
    {y : Ty} {xs : List y.den} (hx : ρ x = .ap y xs) (hsz : y.sz = re.size) (hm : m = xs.length) (h0 : 0 ≤ n) (h1 : n < xs.length) : OpGood P o get nx ρ (.eptr (enc y (xs.getD n.toNat y.zero))) [] [] nx :=
  .pure fun own get' φ β w ρv _ hvs _ => by
    have hX := hvs x (by simp [ho, Op.operands])
    have hI := hvs i (by simp [ho, Op.operands])
    rw [hx] at hX
    rw [hi] at hI
    have hI := hI.int_inv
    simp only [V, Vt] at hX
    obtain ⟨a, cap, hv1, hs0, _, A, cap', hA, hcap, hel⟩ := hX
    have hlt : n.toNat < xs.length := by omega
    obtain ⟨a', ds, ha, hs, hd, hrow⟩ := hel n.toNat xs[n.toNat] (by simp [hlt])
    simp at hA
    rw [ha] at hA
    obtain rfl : a = a' := by simpa using hA.1
    refine ⟨.pointer (some ⟨a.block, a.off + n.toNat * y.sz, none⟩), ?_, ?_⟩
    · have := run_indexAt_array ((hE.row t rw_ hr).array_kind hk) (hE.row e re hre) w (a := a) (k := k) h0 (by rw [hm]; exact h1)
      simp [execOp, ho, hv1, hI, this, addr_add' hs, hsz]
    · simp only [V]
      refine ⟨_, ds, rfl, rfl, ?_, hrow⟩
      rw [List.getD_eq_getElem?_getD, List.getElem?_eq_getElem hlt]
      exact Vt.enc y _ _ hd
theorem good_indexAddr_obj {E : Env} (hE : EnvOK P E) {t e : TypeId} {x i : Operand} {rw_ re : TRow} (ho : o.op = .indexAddr t x i) (hr : E.row t = some rw_) (hk : rw_.kind = .slice e) (hre : E.row e = some re) {k : IntKind} {n : Int} (hi : ρ i = .int k n)
    {l sz : Nat} {y : Ty} {xs : List y.den} {tail : List (List AV)} (hg : get l = .arr sz y xs tail) (hsz : sz = re.size) (h0 : 0 ≤ n) {off : Nat} (hx : (ρ x = .hw l ∧ off = 0 ∧ n < (xs.length + tail.length : Nat)) ∨ ∃ m, ρ x = .hs l off m ∧ n < m)
    {el : Elt} (hnum : off + n.toNat < xs.length + tail.length → el.num xs.length = off + n.toNat ∧ (∀ i, el = .ty i → i < xs.length)) : OpGood P o get nx ρ (.ptr l el 0) [] [l] nx :=
  .pure fun own get' φ β w ρv hget hvs hW => by
    have hX := hvs x (by simp [ho, Op.operands])
    have hI := hvs i (by simp [ho, Op.operands])
    rw [hi] at hI
    have hI := hI.int_inv
    have hrel := hW.rel l
    rw [hget l (by simp), hg] at hrel
    have key : ∃ p A len cap, β l = some (some p) ∧ ρv x = .slice (some A) len cap ∧ A = ⟨p.block, p.off + off * p.sz, none⟩ ∧ n < len ∧ off + n.toNat < p.len ∧ p.sz = sz ∧ p.nty = xs.length ∧ p.len = xs.length + tail.length := by
      rcases hb : β l with _ | (_ | p)
      · simp only [ObjRel, hb] at hrel
      · simp only [ObjRel, hb] at hrel
        obtain ⟨rfl, rfl⟩ := hrel
        rcases hx with ⟨hx, rfl, hlt⟩ | ⟨m, hx, hlt⟩
        · simp at hlt; omega
        · rw [hx] at hX
          simp only [V, hb] at hX
          omega
      · skip
        simp only [ObjRel, hb] at hrel
        obtain ⟨h1, h2, h3, _⟩ := hrel
        rcases hx with ⟨hx, rfl, hlt⟩ | ⟨m, hx, hlt⟩
        · rw [hx] at hX
          simp only [V, hb] at hX
          obtain ⟨cap, hv1, hc, _⟩ := hX
          exact ⟨p, _, _, cap, rfl, hv1, by simp, by omega, by omega, h1, h2, h3⟩
        · rw [hx] at hX
          simp only [V, hb] at hX
          obtain ⟨_, A, cap, hv1, hc, _, hle, hA⟩ := hX
          obtain ⟨rfl, _⟩ := hA (by omega)
          exact ⟨p, _, m, cap, rfl, hv1, rfl, hlt, by omega, h1, h2, h3⟩
    obtain ⟨p, A, len, cap, hb, hv1, rfl, hlt, hoff, hps, hpn, hpl⟩ := key
    obtain ⟨hn1, hn2⟩ := hnum (by omega)
    refine ⟨.pointer (some ⟨p.block, p.off + el.num p.nty * p.sz + 0, none⟩), ?_, ?_⟩
    · have := run_indexAt_slice ((hE.row t rw_ hr).slice_kind hk) (hE.row e re hre) w (a := ⟨p.block, p.off + off * p.sz, none⟩) (cap := cap) (k := k) h0 hlt
      have e1 : off * p.sz + n.toNat * re.size = el.num p.nty * p.sz := by rw [hpn, hn1, hps, hsz, Nat.add_mul]
      simp [execOp, ho, hv1, hI, this, addr_add, ← e1, Nat.add_assoc]
    · simp only [V]
      exact ⟨p, hb, rfl, by rw [hpn, hn1]; exact hoff, fun i hi => by rw [hpn]; exact hn2 i hi⟩
theorem bytes_get (s : List UInt8) (i : Nat) : (⟨s.toArray⟩ : ByteArray)[i]? = s[i]? := by
  by_cases h : i < s.length
  · have h' : i < (⟨s.toArray⟩ : ByteArray).size := by simpa [ByteArray.size] using h
    rw [getElem?_pos (⟨s.toArray⟩ : ByteArray) i h', getElem?_pos s i h]
    rfl
  · have h' : ¬ i < (⟨s.toArray⟩ : ByteArray).size := by simpa [ByteArray.size] using h
    rw [getElem?_neg (⟨s.toArray⟩ : ByteArray) i h', getElem?_neg s i h]
theorem good_index_str {E : Env} (hE : EnvOK P E) {t : TypeId} {x i : Operand} {rw_ : TRow} (ho : o.op = .index t x i) (hr : E.row t = some rw_) (hk : rw_.kind = .str) {k : IntKind} {n : Int} (hi : ρ i = .int k n) {s : List UInt8} (hx : ρ x = .str s)
    (h0 : 0 ≤ n) (h1 : n < s.length) : OpGood P o get nx ρ (.int .u8 ((s.getD n.toNat 0).toNat : Int)) [] [] nx :=
  .pure fun own get' φ β w ρv _ hvs _ => by
    have hX := hvs x (by simp [ho, Op.operands])
    have hI := hvs i (by simp [ho, Op.operands])
    rw [hx] at hX
    rw [hi] at hI
    have hX := hX.str_inv
    have hI := hI.int_inv
    have hu := (hE.row t rw_ hr).str_kind hk
    have hlt : n.toNat < s.length := by omega
    refine ⟨.int .u8 ((s.getD n.toNat 0).toNat : Int), ?_, rfl, In.u8 _⟩
    simp [execOp, ho, hX, hI, Instr.index, asIntOf, run_underlying hu, h0, bytes_get, hlt]
theorem good_extract {x : Operand} {i : Nat} (ho : o.op = .extract x i) {vs : List AV} (hx : ρ x = .tup vs) {v : AV} (hv : vs[i]? = some v) : OpGood P o get nx ρ v [] [] nx :=
  .pure fun own get' φ β w ρv _ hvs _ => by
    have hX := hvs x (by simp [ho, Op.operands])
    rw [hx] at hX
    simp only [V] at hX
    obtain ⟨us, hv1, hd⟩ := hX
    obtain ⟨u, hu, hV⟩ := hd.get hv
    exact ⟨u, by simp [execOp, ho, hv1, Instr.extract, hu], hV⟩
end
end Go.Sim
namespace Go.Sim
set_option linter.unusedSectionVars false
set_option linter.unusedSimpArgs false
set_option linter.unusedVariables false
section
variable {P : Program} [Tabs P] {o : Oper} {get : Nat → AObj} {nx : Nat} {ρ : Operand → AV}
def Bnd : Option AV → Option Nat → Prop
  | none, none => True
  | some (.int _ z), some a => 0 ≤ z ∧ a = z.toNat
  | _, _ => False
theorem lowHigh_sound {R : Type} {n : Nat} {lo hi : Option AV} {K : Option Nat → Option Nat → Option R} {r : R} (h : lowHigh n lo hi K = some r) :
    ∃ a b, K a b = some r ∧ Bnd lo a ∧ Bnd hi b ∧ a.getD 0 ≤ b.getD n ∧ b.getD n ≤ n := by
  unfold lowHigh at h
  split at h
  · exact ⟨none, none, h, trivial, trivial, by simp, by simp⟩
  · rename_i k a
    by_cases hc : 0 ≤ a ∧ a ≤ (n : Int)
    · simp [hc.1, hc.2] at h
      exact ⟨_, _, h, ⟨hc.1, rfl⟩, trivial, by simp; omega, by simp⟩
    · have : (decide (0 ≤ a) && decide (a ≤ (n : Int))) = false := by simp; omega
      simp [this] at h
  · rename_i k b
    by_cases hc : 0 ≤ b ∧ b ≤ (n : Int)
    · simp [hc.1, hc.2] at h
      exact ⟨_, _, h, trivial, ⟨hc.1, rfl⟩, by simp, by simp; omega⟩
    · have : (decide (0 ≤ b) && decide (b ≤ (n : Int))) = false := by simp; omega
      simp [this] at h
  · rename_i k1 a k2 b
    by_cases hc : 0 ≤ b ∧ b ≤ (n : Int)
    · simp [hc.1, hc.2] at h
      by_cases hd : 0 ≤ a ∧ a ≤ b
      · simp [hd.1, hd.2] at h
        exact ⟨_, _, h, ⟨hd.1, rfl⟩, ⟨hc.1, rfl⟩, by simp; omega, by simp; omega⟩
      · have : (decide (0 ≤ a) && decide (a ≤ b)) = false := by simp; omega
        simp [this] at h
    · have : (decide (0 ≤ b) && decide (b ≤ (n : Int))) = false := by simp; omega
      simp [this] at h
  · cases h
theorem run_sliceBounds_known (w : World) {φ : Nat → Nat} {β : Beta} {isS : Bool} {len cap : Nat} {lo hi : Option AV} {lov hiv : Option Value} {a b : Option Nat} (hlo : ∀ x, lo = some x → ∃ v, lov = some v ∧ V φ β w x v) (hlo' : lo = none → lov = none)
    (hhi : ∀ x, hi = some x → ∃ v, hiv = some v ∧ V φ β w x v) (hhi' : hi = none → hiv = none) (ha : Bnd lo a) (hb : Bnd hi b) (h1 : a.getD 0 ≤ b.getD len) (h2 : b.getD len ≤ cap) :
    (Instr.sliceBounds isS len cap lov hiv none).run P w = .ok (a.getD 0, b.getD len, cap) w := by
  have hL : (lo = none ∧ a = none ∧ lov = none) ∨ ∃ k z, a = some z.toNat ∧ 0 ≤ z ∧ lov = some (.int k z) := by
    cases lo with
    | none => cases a with
      | none => exact .inl ⟨rfl, rfl, hlo' rfl⟩
      | some a => exact ha.elim
    | some x =>
      obtain ⟨v, hv, hV⟩ := hlo x rfl
      cases x <;> cases a <;> simp only [Bnd] at ha
      rename_i k z a
      exact .inr ⟨k, z, by rw [ha.2], ha.1, by rw [hv, hV.int_inv]⟩
  have hH : (hi = none ∧ b = none ∧ hiv = none) ∨ ∃ k z, b = some z.toNat ∧ 0 ≤ z ∧ hiv = some (.int k z) := by
    cases hi with
    | none => cases b with
      | none => exact .inl ⟨rfl, rfl, hhi' rfl⟩
      | some a => exact hb.elim
    | some x =>
      obtain ⟨v, hv, hV⟩ := hhi x rfl
      cases x <;> cases b <;> simp only [Bnd] at hb
      rename_i k z a
      exact .inr ⟨k, z, by rw [hb.2], hb.1, by rw [hv, hV.int_inv]⟩
  rcases hL with ⟨_, rfl, rfl⟩ | ⟨k, z, rfl, h0, rfl⟩ <;> rcases hH with ⟨_, rfl, rfl⟩ | ⟨k', z', rfl, h0', rfl⟩
  · simp [Instr.sliceBounds]
  · simp at h2
    have : z' ≤ (cap : Int) := by omega
    simp [Instr.sliceBounds, run_sliceBound, h0', this]
  · simp at h1 h2
    have : z ≤ (len : Int) := by omega
    simp [Instr.sliceBounds, run_sliceBound, h0, this]
  · simp at h1 h2
    have e1 : z' ≤ (cap : Int) := by omega
    have e2 : z ≤ z' := by omega
    simp [Instr.sliceBounds, run_sliceBound, h0, h0', e1, e2, Int.toNat_of_nonneg h0']
theorem cutL_get {α : Type} (xs : List α) (a b : Option Nat) (h : a.getD 0 ≤ b.getD xs.length) (h' : b.getD xs.length ≤ xs.length) :
    (cutL xs a b).length = b.getD xs.length - a.getD 0 ∧ ∀ i x, (cutL xs a b)[i]? = some x → xs[a.getD 0 + i]? = some x := by
  cases a <;> cases b <;> simp [cutL] at *
  · exact ⟨by omega, fun i x hx => by
      rw [List.getElem?_take] at hx
      split at hx
      · exact hx
      · cases hx⟩
  · refine ⟨by omega, fun i x hx => ?_⟩
    rw [List.getElem?_take] at hx
    split at hx
    · exact hx
    · cases hx
theorem Vt_slice {φ : Nat → Nat} {w : World} {t : Ty} {xs ys : List t.den} {A : Option Addr} {cap l n : Nat} (h : Vt φ w (.sl t) xs [.slice A xs.length cap]) (hl : l + n ≤ xs.length) (hn : ys.length = n)
    (hy : ∀ i x, ys[i]? = some x → xs[l + i]? = some x) : Vt φ w (.sl t) ys [.slice (if cap = l then A else A.map (·.add (l * t.sz))) n (cap - l)] := by
  simp only [Vt] at h ⊢
  obtain ⟨hm, A', cap', h1, h2, h3⟩ := h
  simp at h1
  obtain ⟨rfl, rfl⟩ := h1
  refine ⟨by omega, _, _, by rw [hn], by omega, fun i x hx => ?_⟩
  have hi : i < ys.length := by
    by_cases hi : i < ys.length
    · exact hi
    · rw [List.getElem?_eq_none (by omega)] at hx; cases hx
  obtain ⟨a, ds, ha, hs, hd, hr⟩ := h3 (l + i) x (hy i x hx)
  subst ha
  rw [if_neg (by omega)]
  exact ⟨_, ds, rfl, by simp [addr_add' hs, hs], hd, by simpa [addr_add' hs, Nat.add_mul, Nat.add_assoc] using hr⟩
theorem opt_map_V {φ : Nat → Nat} {β : Beta} {w : World} {ρv : Operand → Value} {l : List Operand} (hv : ∀ x, x ∈ l → V φ β w (ρ x) (ρv x)) {lo : Option Operand} (hm : ∀ x, lo = some x → x ∈ l) :
    (∀ x, lo.map ρ = some x → ∃ v, lo.map ρv = some v ∧ V φ β w x v) ∧ (lo.map ρ = none → lo.map ρv = none) := by
  cases lo with
  | none => simp
  | some y => simp; exact hv y (hm y rfl)
theorem good_slice_str {E : Env} (hE : EnvOK P E) {t : TypeId} {x : Operand} {lo hi : Option Operand} {rw_ : TRow} (ho : o.op = .slice t x lo hi none) (hr : E.row t = some rw_) (hk : rw_.kind = .str) {s : List UInt8} (hx : ρ x = .str s)
    {a b : Option Nat} (ha : Bnd (lo.map ρ) a) (hb : Bnd (hi.map ρ) b) (h1 : a.getD 0 ≤ b.getD s.length) (h2 : b.getD s.length ≤ s.length) : OpGood P o get nx ρ (.str (cutL s a b)) [] [] nx :=
  .pure fun own get' φ β w ρv _ hvs _ => by
    have hX := hvs x (by simp [ho, Op.operands])
    rw [hx] at hX
    have hXl := hX.2
    have hX := hX.str_inv
    have hu := (hE.row t rw_ hr).str_kind hk
    obtain ⟨l1, l2⟩ := opt_map_V hvs (lo := lo) (by intro y hy; simp [ho, Op.operands, hy])
    obtain ⟨l3, l4⟩ := opt_map_V hvs (lo := hi) (by intro y hy; simp [ho, Op.operands, hy])
    have hb' := run_sliceBounds_known (P := P) w (isS := false) (len := s.length) (cap := s.length) l1 l2 l3 l4 ha hb h1 h2
    have hsz : (⟨s.toArray⟩ : ByteArray).size = s.length := by simp [ByteArray.size]
    have hcl := (cutL_get s a b h1 h2).1
    refine ⟨.string ⟨(cutL s a b).toArray⟩, ?_, rfl, by omega⟩
    have hc : (⟨s.toArray⟩ : ByteArray).extract (a.getD 0) (b.getD s.length) = ⟨(cutL s a b).toArray⟩ := by
      apply ByteArray.ext
      rw [ByteArray.data_extract]
      apply Array.ext'
      cases a <;> cases b <;> simp [cutL] at * <;> simp [List.take_of_length_le, List.extract_eq_take_drop, List.drop_take]
    simp [execOp, ho, hX, Instr.sliceAt, Instr.slice, run_underlying hu, hsz, hb', hc]
theorem good_slice_vl {E : Env} (hE : EnvOK P E) {t e : TypeId} {x : Operand} {lo hi : Option Operand} {rw_ re : TRow} (ho : o.op = .slice t x lo hi none) (hr : E.row t = some rw_) (hk : rw_.kind = .slice e) (hre : E.row e = some re) {y : Ty} {xs : List y.den} (hx : ρ x = .vl y xs)
    (hsz : y.sz = re.size) {a b : Option Nat} (ha : Bnd (lo.map ρ) a) (hb : Bnd (hi.map ρ) b) (h1 : a.getD 0 ≤ b.getD xs.length) (h2 : b.getD xs.length ≤ xs.length) : OpGood P o get nx ρ (.vl y (cutL xs a b)) [] [] nx :=
  .pure fun own get' φ β w ρv _ hvs _ => by
    have hX := hvs x (by simp [ho, Op.operands])
    rw [hx] at hX
    simp only [V] at hX
    have hX' := hX
    simp only [Vt] at hX'
    obtain ⟨_, A, cap, hv1, hcap, _⟩ := hX'
    simp at hv1
    have hu := (hE.row t rw_ hr).slice_kind hk
    obtain ⟨l1, l2⟩ := opt_map_V hvs (lo := lo) (by intro y hy; simp [ho, Op.operands, hy])
    obtain ⟨l3, l4⟩ := opt_map_V hvs (lo := hi) (by intro y hy; simp [ho, Op.operands, hy])
    have hb' := run_sliceBounds_known (P := P) w (isS := true) (len := xs.length) (cap := cap) l1 l2 l3 l4 ha hb h1 (by omega)
    obtain ⟨c1, c2⟩ := cutL_get xs a b h1 h2
    rw [hv1] at hX
    refine ⟨_, ?_, by simp only [V]; exact Vt_slice hX (l := a.getD 0) (n := b.getD xs.length - a.getD 0) (by omega) c1 c2⟩
    simp [execOp, ho, hv1, Instr.sliceAt, Instr.slice, run_underlying hu, hb', (hE.row e re hre).size, hsz]
theorem good_slice_nils {E : Env} (hE : EnvOK P E) {t e : TypeId} {x : Operand} {lo hi : Option Operand} {rw_ re : TRow} (ho : o.op = .slice t x lo hi none) (hr : E.row t = some rw_) (hk : rw_.kind = .slice e) (hre : E.row e = some re) (hx : ρ x = .nils)
    {a b : Option Nat} (ha : Bnd (lo.map ρ) a) (hb : Bnd (hi.map ρ) b) (h1 : a.getD 0 ≤ b.getD 0) (h2 : b.getD 0 ≤ 0) : OpGood P o get nx ρ .nils [] [] nx :=
  .pure fun own get' φ β w ρv _ hvs _ => by
    have hX := hvs x (by simp [ho, Op.operands])
    rw [hx] at hX
    simp only [V] at hX
    have hv1 : ρv x = .slice none 0 0 := hX
    have hu := (hE.row t rw_ hr).slice_kind hk
    obtain ⟨l1, l2⟩ := opt_map_V hvs (lo := lo) (by intro y hy; simp [ho, Op.operands, hy])
    obtain ⟨l3, l4⟩ := opt_map_V hvs (lo := hi) (by intro y hy; simp [ho, Op.operands, hy])
    have hb' := run_sliceBounds_known (P := P) w (isS := true) (len := 0) (cap := 0) l1 l2 l3 l4 ha hb h1 (by omega)
    have ea : a.getD 0 = 0 := by omega
    have eb : b.getD 0 = 0 := by omega
    refine ⟨.slice none 0 0, ?_, by simp only [V]⟩
    simp [execOp, ho, hv1, Instr.sliceAt, Instr.slice, run_underlying hu, hb', (hE.row e re hre).size, ea, eb]
theorem obj_slice {w : World} {φ : Nat → Nat} {β : Beta} {l sz : Nat} {y : Ty} {xs : List y.den} {tail : List (List AV)} (hrel : ObjRel φ β w l (.arr sz y xs tail)) {x : AV} {v : Value} (hX : V φ β w x v) {off n : Nat}
    (hx : (x = .hw l ∧ off = 0 ∧ n = xs.length + tail.length) ∨ x = .hs l off n ∨ ∃ c, x = .hc l off n c) :
    ∃ A cap, v = .slice A n cap ∧ n ≤ cap ∧ cap ≤ maxL ∧ (∀ c, x = .hc l off n c → cap = c) ∧ (match β l with | some (some p) => p.sz = sz ∧ p.len = xs.length + tail.length ∧ off + n ≤ p.len ∧ (cap ≠ 0 → A = some ⟨p.block, p.off + off * p.sz, none⟩ ∧ Room w p.block (p.off + (off + cap) * p.sz)) | some none => n = 0 ∧ cap = 0 | none => False) := by
  rcases hb : β l with _ | (_ | p)
  · simp only [ObjRel, hb] at hrel
  · simp only [ObjRel, hb] at hrel
    obtain ⟨rfl, rfl⟩ := hrel
    rcases hx with ⟨rfl, rfl, rfl⟩ | rfl | ⟨c, rfl⟩
    · simp only [V, hb] at hX
      obtain ⟨A, hA⟩ := hX
      exact ⟨A, 0, by simpa using hA, by simp, Nat.zero_le _, fun c h => (by cases h), by simp⟩
    · simp only [V, hb] at hX
      obtain ⟨_, rfl, A, hA⟩ := hX
      exact ⟨A, 0, hA, by simp, Nat.zero_le _, fun c h => (by cases h), rfl, rfl⟩
    · simp only [V, hb] at hX
      obtain ⟨_, _, rfl, rfl, A, hA⟩ := hX
      exact ⟨A, 0, hA, by simp, Nat.zero_le _, fun c h => (by cases h; rfl), rfl, rfl⟩
  · simp only [ObjRel, hb] at hrel
    obtain ⟨g1, g2, g3, _⟩ := hrel
    rcases hx with ⟨rfl, rfl, rfl⟩ | rfl | ⟨c, rfl⟩
    · simp only [V, hb] at hX
      obtain ⟨cap, hv1, hc, hm, hr⟩ := hX
      exact ⟨_, cap, by rw [hv1, g3], by omega, hm, fun c h => (by cases h), g1, g3, by omega, fun _ => ⟨by simp, by simpa using hr⟩⟩
    · simp only [V, hb] at hX
      obtain ⟨_, A, cap, hv1, hc, hm, hle, hA⟩ := hX
      exact ⟨A, cap, hv1, hc, hm, fun c h => (by cases h), g1, g3, hle, hA⟩
    · simp only [V, hb] at hX
      obtain ⟨hc, hm, A, hv1, hle, hA⟩ := hX
      exact ⟨A, c, hv1, hc, hm, fun c' h => (by cases h; rfl), g1, g3, hle, hA⟩
theorem good_slice_obj2 {E : Env} (hE : EnvOK P E) {t e : TypeId} {x : Operand} {lo hi : Option Operand} {rw_ re : TRow} (ho : o.op = .slice t x lo hi none) (hr : E.row t = some rw_) (hk : rw_.kind = .slice e) (hre : E.row e = some re)
    {l sz : Nat} {y : Ty} {xs : List y.den} {tail : List (List AV)} (hg : get l = .arr sz y xs tail) (hsz : sz = re.size) {off n : Nat} (hx : (ρ x = .hw l ∧ off = 0 ∧ n = xs.length + tail.length) ∨ ρ x = .hs l off n ∨ ∃ c, ρ x = .hc l off n c)
    {a b : Option Nat} (ha : Bnd (lo.map ρ) a) (hb : Bnd (hi.map ρ) b) (h1 : a.getD 0 ≤ b.getD n) (h2 : b.getD n ≤ n) {v : AV} (hv : v = .hs l (off + a.getD 0) (b.getD n - a.getD 0) ∨ ∃ c, ρ x = .hc l off n c ∧ v = .hc l (off + a.getD 0) (b.getD n - a.getD 0) (c - a.getD 0)) : OpGood P o get nx ρ v [] [l] nx :=
  .pure fun own get' φ β w ρv hget hvs hW => by
    have hX := hvs x (by simp [ho, Op.operands])
    have hrel := hW.rel l
    rw [hget l (by simp), hg] at hrel
    have hu := (hE.row t rw_ hr).slice_kind hk
    obtain ⟨l1, l2⟩ := opt_map_V hvs (lo := lo) (by intro y hy; simp [ho, Op.operands, hy])
    obtain ⟨l3, l4⟩ := opt_map_V hvs (lo := hi) (by intro y hy; simp [ho, Op.operands, hy])
    obtain ⟨A, cap, hv1, hcap, hm, hcc, hA⟩ := obj_slice hrel hX hx
    have hb' := run_sliceBounds_known (P := P) w (isS := true) (len := n) (cap := cap) l1 l2 l3 l4 ha hb h1 (by omega)
    refine ⟨.slice (if cap = a.getD 0 then A else A.map (·.add (a.getD 0 * re.size))) (b.getD n - a.getD 0) (cap - a.getD 0), ?_, ?_⟩
    · simp [execOp, ho, hv1, Instr.sliceAt, Instr.slice, run_underlying hu, hb', (hE.row e re hre).size]
    · have core : (b.getD n - a.getD 0) ≤ (cap - a.getD 0) ∧ (cap - a.getD 0) ≤ maxL ∧ (match β l with
          | some (some p) => off + a.getD 0 + (b.getD n - a.getD 0) ≤ p.len ∧ (cap - a.getD 0 ≠ 0 → (if cap = a.getD 0 then A else A.map (·.add (a.getD 0 * re.size))) = some ⟨p.block, p.off + (off + a.getD 0) * p.sz, none⟩ ∧ Room w p.block (p.off + (off + a.getD 0 + (cap - a.getD 0)) * p.sz))
          | some none => b.getD n - a.getD 0 = 0 ∧ cap - a.getD 0 = 0 ∧ ∃ A', (if cap = a.getD 0 then A else A.map (·.add (a.getD 0 * re.size))) = A'
          | none => False) := by
        refine ⟨by omega, by omega, ?_⟩
        rcases hβ : β l with _ | (_ | p)
        · simp only [hβ] at hA
        · simp only [hβ] at hA
          exact ⟨by omega, by omega, _, rfl⟩
        · simp only [hβ] at hA
          obtain ⟨g1, _, g2, g3⟩ := hA
          refine ⟨by omega, fun hne => ?_⟩
          obtain ⟨rfl, hroom⟩ := g3 (by omega)
          rw [if_neg (by omega)]
          refine ⟨?_, ?_⟩
          · simp [addr_add, g1, hsz, Nat.add_mul, Nat.add_assoc]
          · rw [show off + a.getD 0 + (cap - a.getD 0) = off + cap by omega]; exact hroom
      obtain ⟨c1, c2, c3⟩ := core
      rcases hv with rfl | ⟨c, hxc, rfl⟩
      · simp only [V]
        refine ⟨by omega, ?_⟩
        rcases hβ : β l with _ | (_ | p)
        · simp only [hβ] at c3
        · simp only [hβ] at c3
          exact ⟨c3.1, _, by rw [c3.1, c3.2.1]⟩
        · simp only [hβ] at c3
          exact ⟨_, _, rfl, c1, c2, c3.1, c3.2⟩
      · obtain rfl := hcc c hxc
        simp only [V]
        refine ⟨c1, c2, ?_⟩
        rcases hβ : β l with _ | (_ | p)
        · simp only [hβ] at c3
        · simp only [hβ] at c3
          exact ⟨c3.1, c3.2.1, _, by rw [c3.1, c3.2.1]⟩
        · simp only [hβ] at c3
          exact ⟨_, rfl, c3.1, c3.2⟩
theorem good_slice_obj {E : Env} (hE : EnvOK P E) {t e : TypeId} {x : Operand} {lo hi : Option Operand} {rw_ re : TRow} (ho : o.op = .slice t x lo hi none) (hr : E.row t = some rw_) (hk : rw_.kind = .slice e) (hre : E.row e = some re)
    {l sz : Nat} {y : Ty} {xs : List y.den} {tail : List (List AV)} (hg : get l = .arr sz y xs tail) (hsz : sz = re.size) {off n : Nat} (hx : (ρ x = .hw l ∧ off = 0 ∧ n = xs.length + tail.length) ∨ ρ x = .hs l off n)
    {a b : Option Nat} (ha : Bnd (lo.map ρ) a) (hb : Bnd (hi.map ρ) b) (h1 : a.getD 0 ≤ b.getD n) (h2 : b.getD n ≤ n) : OpGood P o get nx ρ (.hs l (off + a.getD 0) (b.getD n - a.getD 0)) [] [l] nx :=
  good_slice_obj2 hE ho hr hk hre hg hsz (hx.imp id .inl) ha hb h1 h2 (.inl rfl)
end
end Go.Sim
namespace Go.Sim
set_option linter.unusedSectionVars false
set_option linter.unusedSimpArgs false
set_option linter.unusedVariables false
section
variable {P : Program} [Tabs P] {o : Oper} {get : Nat → AObj} {nx : Nat} {ρ : Operand → AV}
theorem lit_int {φ : Nat → Nat} {β : Beta} {w : World} {k : IntKind} {n : Int} {lo : Option Operand} {ρv : Operand → Value} {x : AV} (h : (∀ x, lo.map ρ = some x → ∃ v, lo.map ρv = some v ∧ V φ β w x v)) (he : lo.map ρ = some (.int k n)) : lo.map ρv = some (.int k n) := by
  obtain ⟨v, hv, hV⟩ := h _ he
  rw [hv, hV.int_inv]
theorem good_slice3_zero {E : Env} (hE : EnvOK P E) {t e : TypeId} {x : Operand} {hi mx : Option Operand} {rw_ re : TRow} (ho : o.op = .slice t x none hi mx) (hr : E.row t = some rw_) (hk : rw_.kind = .slice e) (hre : E.row e = some re)
    {k1 k2 : IntKind} (hhi : hi.map ρ = some (.int k1 0)) (hmx : mx.map ρ = some (.int k2 0)) {rd : List Nat} (hx : ρ x = .nils) : OpGood P o get nx ρ .nils [] rd nx :=
  .pure fun own get' φ β w ρv _ hvs _ => by
    have hX := hvs x (by simp [ho, Op.operands])
    have hu := (hE.row t rw_ hr).slice_kind hk
    have hv1 : ρv x = .slice none 0 0 := by rw [hx] at hX; simpa only [V] using hX
    obtain ⟨l3, _⟩ := opt_map_V hvs (lo := hi) (by intro y hy; simp [ho, Op.operands, hy])
    obtain ⟨l5, _⟩ := opt_map_V hvs (lo := mx) (by intro y hy; simp [ho, Op.operands, hy])
    have e1 := lit_int (x := .undef) l3 hhi
    have e2 := lit_int (x := .undef) l5 hmx
    refine ⟨.slice none 0 0, ?_, by simp only [V]⟩
    simp [execOp, ho, hv1, Instr.sliceAt, Instr.slice, run_underlying hu, e1, e2, Instr.sliceBounds, run_sliceBound, (hE.row e re hre).size]
theorem good_slice3_vl {E : Env} (hE : EnvOK P E) {t e : TypeId} {x : Operand} {hi mx : Option Operand} {rw_ re : TRow} (ho : o.op = .slice t x none hi mx) (hr : E.row t = some rw_) (hk : rw_.kind = .slice e) (hre : E.row e = some re)
    {k1 k2 : IntKind} {n : Int} (hhi : hi.map ρ = some (.int k1 n)) (hmx : mx.map ρ = some (.int k2 n)) {y : Ty} {xs : List y.den} (hx : ρ x = .vl y xs) (hsz : y.sz = re.size) (h0 : 0 ≤ n) (h1 : n ≤ xs.length) : OpGood P o get nx ρ (.vl y (xs.take n.toNat)) [] [] nx :=
  .pure fun own get' φ β w ρv _ hvs _ => by
    have hX := hvs x (by simp [ho, Op.operands])
    rw [hx] at hX
    simp only [V] at hX
    have hX' := hX
    simp only [Vt] at hX'
    obtain ⟨_, A, cap, hv1, hcap, _⟩ := hX'
    simp at hv1
    have hu := (hE.row t rw_ hr).slice_kind hk
    obtain ⟨l3, _⟩ := opt_map_V hvs (lo := hi) (by intro y hy; simp [ho, Op.operands, hy])
    obtain ⟨l5, _⟩ := opt_map_V hvs (lo := mx) (by intro y hy; simp [ho, Op.operands, hy])
    have e1 := lit_int (x := .undef) l3 hhi
    have e2 := lit_int (x := .undef) l5 hmx
    have hc : n ≤ (cap : Int) := by omega
    rw [hv1] at hX
    have hV := Vt_slice (ys := xs.take n.toNat) hX (l := 0) (n := n.toNat) (by omega) (by simp; omega) (fun i x hx => by
      rw [List.getElem?_take] at hx
      split at hx
      · simpa using hx
      · cases hx)
    have hrun : (execOp ρv o).run P w = .ok (.value (.slice (if n.toNat = 0 then A else A.map (·.add 0)) n.toNat n.toNat)) w := by
      simp [execOp, ho, hv1, Instr.sliceAt, Instr.slice, run_underlying hu, e1, e2, Instr.sliceBounds, run_sliceBound, (hE.row e re hre).size, h0, hc, Int.toNat_of_nonneg h0]
    refine ⟨_, hrun, ?_⟩
    simp only [V, Vt] at hV ⊢
    obtain ⟨hm, A', cap', hA, hle, hel⟩ := hV
    simp at hA
    obtain ⟨rfl, _, rfl⟩ := hA
    have hlen : (xs.take n.toNat).length = n.toNat := by simp; omega
    refine ⟨hm, _, n.toNat, by rw [hlen], by omega, fun i x hx => ?_⟩
    obtain ⟨a, ds, ha, hs, hd, hr⟩ := hel i x hx
    have hne : n.toNat ≠ 0 := by intro e; simp [e] at hx
    rw [if_neg hne]
    by_cases hcz : cap = 0
    · omega
    · rw [if_neg hcz] at ha
      exact ⟨a, ds, by simpa using ha, hs, hd, hr⟩
theorem run_builtin {c : Call} {b : Builtin} (hc : c.callee = .builtin b) (ho : o.op = .call c) (ρv : Operand → Value) :
    ∃ cs, execOp ρv o = builtin b c.argTypes o.type cs (c.args.map ρv) :=
  ⟨_, by simp only [execOp, ho, resolve, hc, invoke, bind, pure, Sem.bind]; rfl⟩
theorem call_args {c : Call} (ho : o.op = .call c) {φ : Nat → Nat} {β : Beta} {w : World} {ρv : Operand → Value} (hvs : ∀ x, x ∈ o.op.operands.toList → V φ β w (ρ x) (ρv x)) : VL φ β w (c.args.toList.map ρ) (c.args.toList.map ρv) :=
  VL.map _ fun x hx => hvs x (by simp [ho, Op.operands, Call.operands]; exact .inr (by simpa using hx))
theorem map_toList_eq {c : Call} {ρv : Operand → Value} {vs : List Value} (h : c.args.toList.map ρv = vs) : c.args.map ρv = vs.toArray := by
  apply Array.ext'; simpa using h
theorem good_len {E : Env} (hE : EnvOK P E) {c : Call} {t : TypeId} {rw_ : TRow} (ho : o.op = .call c) (hc : c.callee = .builtin .len) (ht : c.argTypes[0]? = some t) (hr : E.row t = some rw_) {x : AV} (hx : c.args.toList.map ρ = [x]) {n : Nat} {rd : List Nat}
    (h : (∃ s, rw_.kind = .str ∧ x = .str s ∧ n = s.length) ∨ ((∃ e, rw_.kind = .slice e) ∧ ((∃ y xs, x = .vl y xs ∧ n = xs.length) ∨ (x = .nils ∧ n = 0) ∨ (∃ l a, x = .hs l a n) ∨
      (∃ l sz y xs tail, x = .hw l ∧ l ∈ rd ∧ get l = .arr sz y xs tail ∧ n = xs.length + tail.length))) ∨ ((∃ k e, rw_.kind = .map k e) ∧ ∃ l kt vt es, x = .mp l ∧ l ∈ rd ∧ get l = .map kt vt es ∧ n = es.length)) :
    OpGood P o get nx ρ (.int .i64 (n : Int)) [] rd nx :=
  .pure fun own get' φ β w ρv hget hvs hW => by
    have ha := call_args ho hvs
    rw [hx] at ha
    simp only [VL] at ha
    obtain ⟨u, us, hargs, hV, rfl⟩ := ha
    obtain ⟨cs, hrun⟩ := run_builtin hc ho ρv
    rw [map_toList_eq hargs] at hrun
    clear hargs
    have hn : n ≤ maxL := by
      rcases h with ⟨s, hk, rfl, rfl⟩ | ⟨⟨e, hk⟩, h⟩ | ⟨⟨k, e, hk⟩, l, kt, vt, es, rfl, hl, hg, rfl⟩
      · exact hV.2
      · rcases h with ⟨y, xs, rfl, rfl⟩ | ⟨rfl, rfl⟩ | ⟨l, a, rfl⟩ | ⟨l, sz, y, xs, tail, rfl, hl, hg, rfl⟩
        · simp only [V, Vt] at hV; exact hV.1
        · exact Nat.zero_le _
        · simp only [V] at hV; exact hV.1
        · have hrel := hW.rel l
          rw [hget l hl, hg] at hrel
          rcases hb : β l with _ | (_ | p) <;> simp only [V, hb] at hV <;> simp only [ObjRel, hb] at hrel
          · obtain ⟨rfl, rfl⟩ := hrel; exact Nat.zero_le _
          · rw [← hrel.2.2.1]; exact hrel.2.2.2.1
      · have hrel := hW.rel l
        rw [hget l hl, hg] at hrel
        simp only [ObjRel] at hrel
        exact hrel.1
    refine ⟨.int .i64 (n : Int), ?_, rfl, In.nat hn⟩
    rw [hrun]
    rcases h with ⟨s, hk, rfl, rfl⟩ | ⟨⟨e, hk⟩, h⟩ | ⟨⟨k, e, hk⟩, l, kt, vt, es, rfl, hl, hg, rfl⟩
    · have hu := (hE.row t rw_ hr).str_kind hk
      rw [hV.str_inv]
      have hsz : (⟨s.toArray⟩ : ByteArray).size = s.length := by simp [ByteArray.size]
      simp [builtin, Builtin.len_, ht, run_underlying hu, goInt, hsz]
    · have hu := (hE.row t rw_ hr).slice_kind hk
      have key : ∃ A cap, u = .slice A n cap := by
        rcases h with ⟨y, xs, rfl, rfl⟩ | ⟨rfl, rfl⟩ | ⟨l, a, rfl⟩ | ⟨l, sz, y, xs, tail, rfl, hl, hg, rfl⟩
        · simp only [V, Vt] at hV; obtain ⟨_, A, cap, h, _⟩ := hV; exact ⟨_, _, by simpa using h⟩
        · simp only [V] at hV; exact ⟨_, _, hV⟩
        · rcases hb : β l with _ | (_ | p) <;> simp only [V, hb] at hV
          · exact hV.2.elim
          · obtain ⟨_, rfl, A, h⟩ := hV; exact ⟨_, _, h⟩
          · obtain ⟨_, A, cap, h, _⟩ := hV; exact ⟨_, _, h⟩
        · have hrel := hW.rel l
          rw [hget l hl, hg] at hrel
          rcases hb : β l with _ | (_ | p) <;> simp only [V, hb] at hV <;> simp only [ObjRel, hb] at hrel
          · obtain ⟨rfl, rfl⟩ := hrel
            obtain ⟨A, h⟩ := hV
            exact ⟨A, 0, by simpa using h⟩
          · obtain ⟨cap, h, _⟩ := hV
            exact ⟨_, cap, by rw [h, hrel.2.2.1]⟩
      obtain ⟨A, cap, rfl⟩ := key
      simp [builtin, Builtin.len_, ht, run_underlying hu, goInt]
    · have hu := (hE.row t rw_ hr).map_kind hk
      have hrel := hW.rel l
      rw [hget l hl, hg] at hrel
      simp only [ObjRel] at hrel
      obtain ⟨_, p, ents, clock, hb, hheap, _, _, hent⟩ := hrel
      simp only [V] at hV
      obtain ⟨q, hq, rfl⟩ := hV
      rw [hb] at hq
      cases hq
      have hlen : ∀ (es : List (kt.den × vt.den)) (l : List MapEntry), Entries φ w kt vt es l → l.length = es.length := by
        intro es
        induction es with
        | nil => intro l h; simp only [Entries] at h; simp [h]
        | cons x r ih => intro l h; simp only [Entries] at h; obtain ⟨e, r', rfl, _, _, _, _, h⟩ := h; simp [ih _ h]
      have := hlen _ _ hent
      simp at this
      simp [builtin, Builtin.len_, ht, run_underlying hu, goInt, Go.getObj, Sem.run, hheap, this]
theorem good_min {c : Call} (ho : o.op = .call c) (hc : c.callee = .builtin .min) {k k' : IntKind} {a b : Int} (hkk : k' = k) (hx : c.args.toList.map ρ = [.int k a, .int k' b]) : OpGood P o get nx ρ (.int k (cond (decide (b < a)) b a)) [] [] nx :=
  .pure fun own get' φ β w ρv hget hvs hW => by
    have ha := call_args ho hvs
    rw [hx] at ha
    simp only [VL] at ha
    obtain ⟨u, us, hu, hV, u', us', rfl, hV', rfl⟩ := ha
    subst hkk
    have i1 := hV.int_in
    have i2 := hV'.int_in
    rw [hV.int_inv, hV'.int_inv] at hu
    obtain ⟨cs, hrun⟩ := run_builtin hc ho ρv
    rw [map_toList_eq hu] at hrun
    refine ⟨.int k' (cond (decide (b < a)) b a), ?_, rfl, by cases decide (b < a) <;> assumption⟩
    rw [hrun]
    by_cases h : b < a <;> simp [builtin, Builtin.min_, Builtin.min2, h]
theorem good_max {c : Call} (ho : o.op = .call c) (hc : c.callee = .builtin .max) {k k' : IntKind} {a b : Int} (hkk : k' = k) (hx : c.args.toList.map ρ = [.int k a, .int k' b]) : OpGood P o get nx ρ (.int k (cond (decide (b > a)) b a)) [] [] nx :=
  .pure fun own get' φ β w ρv hget hvs hW => by
    have ha := call_args ho hvs
    rw [hx] at ha
    simp only [VL] at ha
    obtain ⟨u, us, hu, hV, u', us', rfl, hV', rfl⟩ := ha
    subst hkk
    have i1 := hV.int_in
    have i2 := hV'.int_in
    rw [hV.int_inv, hV'.int_inv] at hu
    obtain ⟨cs, hrun⟩ := run_builtin hc ho ρv
    rw [map_toList_eq hu] at hrun
    refine ⟨.int k' (cond (decide (b > a)) b a), ?_, rfl, by cases decide (b > a) <;> assumption⟩
    rw [hrun]
    by_cases h : a < b <;> simp [builtin, Builtin.max_, Builtin.max2, h]
theorem RowOK.zero_whole {t : TypeId} {r : TRow} (h : RowOK P t r) {φ : Nat → Nat} {β : Beta} {w : World} {z : AV} (hz : whole r.kind.isAgg r.zero = some z) : ∃ u, (zeroValue t).run P w = .ok u w ∧ V φ β w z u := by
  obtain ⟨i, u, hi, _, _, hzero, _, h1, h2, hV⟩ := h.info
  refine ⟨u, by simp [zeroValue, typeInfo, hi, hzero], ?_⟩
  obtain ⟨hv, _⟩ := whole_sound hz (hV φ β w)
  cases hk : r.kind.isAgg with
  | true => rw [hk] at hv; rw [h1 hk]; simpa using hv
  | false => rw [hk] at hv; rw [h2 hk] at hv; simpa using hv
theorem underlying_of {E : Env} (hE : EnvOK P E) {t : TypeId} {rw_ : TRow} (hr : E.row t = some rw_) (hk : rw_.kind ≠ .iface) : ∃ d, P.underlying t = some d ∧ ∀ ms, d ≠ .interface ms := by
  have h := (hE.row t rw_ hr).kind
  cases hkk : rw_.kind with
  | flat => rw [hkk] at h; obtain ⟨d, hd, hm⟩ := h; exact ⟨d, hd, fun ms e => by subst e; exact hm⟩
  | iface => exact absurd hkk hk
  | struct fs eq => rw [hkk] at h; obtain ⟨fields, hd, _⟩ := h; exact ⟨_, hd, fun ms e => by cases e⟩
  | _ => rw [hkk] at h; exact ⟨_, h, fun ms e => by cases e⟩
theorem good_assert_yes {E : Env} (hE : EnvOK P E) {t t' : TypeId} {x : Operand} {ok : Bool} {rw_ : TRow} (ho : o.op = .typeAssert x t' t ok) (hr : E.row t = some rw_) (hk : rw_.kind ≠ .iface) {v : AV} (hx : ρ x = .iface t v) :
    OpGood P o get nx ρ (cond ok (.tup [v, .bool true]) v) [] [] nx :=
  .pure fun own get' φ β w ρv _ hvs _ => by
    have hX := hvs x (by simp [ho, Op.operands])
    rw [hx] at hX
    simp only [V] at hX
    obtain ⟨u, hu, hV⟩ := hX
    obtain ⟨d, hd, hni⟩ := underlying_of hE hr hk
    cases ok with
    | true =>
      refine ⟨.tuple #[u, .bool true], ?_, by simp only [V, cond_true]; exact ⟨[u, .bool true], rfl, .cons hV (.cons (by simp [V]) rfl)⟩⟩
      cases d <;> first | exact absurd rfl (hni _) | simp [execOp, ho, hu, Instr.typeAssert, run_underlying hd]
    | false =>
      refine ⟨u, ?_, hV⟩
      cases d <;> first | exact absurd rfl (hni _) | simp [execOp, ho, hu, Instr.typeAssert, run_underlying hd]
theorem good_assert_no {E : Env} (hE : EnvOK P E) {t t' : TypeId} {x : Operand} {rw_ : TRow} (ho : o.op = .typeAssert x t' t true) (hr : E.row t = some rw_) (hk : rw_.kind ≠ .iface) (hx : ρ x = .nilif ∨ ∃ u v, u ≠ t ∧ ρ x = .iface u v) {z : AV} (hz : whole rw_.kind.isAgg rw_.zero = some z) :
    OpGood P o get nx ρ (.tup [z, .bool false]) [] [] nx :=
  .pure fun own get' φ β w ρv _ hvs _ => by
    have hX := hvs x (by simp [ho, Op.operands])
    obtain ⟨d, hd, hni⟩ := underlying_of hE hr hk
    obtain ⟨u, hu, hV⟩ := (hE.row t rw_ hr).zero_whole (φ := φ) (β := β) (w := w) hz
    refine ⟨.tuple #[u, .bool false], ?_, by simp only [V]; exact ⟨[u, .bool false], rfl, .cons hV (.cons (by simp [V]) rfl)⟩⟩
    rcases hx with hx | ⟨t2, v, hne, hx⟩
    · rw [hx] at hX
      simp only [V] at hX
      cases d <;> first | exact absurd rfl (hni _) | simp [execOp, ho, hX, Instr.typeAssert, run_underlying hd, hu]
    · rw [hx] at hX
      simp only [V] at hX
      obtain ⟨q, hq, _⟩ := hX
      cases d <;> first | exact absurd rfl (hni _) | simp [execOp, ho, hq, Instr.typeAssert, run_underlying hd, hu, hne]
end
end Go.Sim
namespace Go.Sim
set_option linter.unusedSectionVars false
set_option linter.unusedSimpArgs false
set_option linter.unusedVariables false
section
variable {P : Program} [Tabs P] {o : Oper} {get : Nat → AObj} {nx : Nat} {ρ : Operand → AV}
variable {own : Own P} {φ φ' : Nat → Nat} {β β' : Beta} {w w' : World}
theorem cell_of_heap {b o : Nat} (h : w'.heap[b]? = w.heap[b]?) : w'.cell? ⟨b, o, none⟩ = w.cell? ⟨b, o, none⟩ := by simp [World.cell?, h]
theorem frozen_of_heap {b o : Nat} (h : w'.heap[b]? = w.heap[b]?) : w'.frozen? ⟨b, o, none⟩ = w.frozen? ⟨b, o, none⟩ := by simp [World.frozen?, h]
theorem CellsAt.of_heap {b o : Nat} {cs : List Value} (h : w'.heap[b]? = w.heap[b]?) (hc : CellsAt w b o cs) : CellsAt w' b o cs := fun i v hv => by rw [cell_of_heap h]; exact hc i v hv
theorem Room.of_heap {b n : Nat} (h : w'.heap[b]? = w.heap[b]?) (hc : Room w b n) : Room w' b n := by unfold Room; rw [h]; exact hc
theorem Free.of_heap {b : Nat} (h : w'.heap[b]? = w.heap[b]?) (hc : Free w b) : Free w' b := fun o => by rw [frozen_of_heap h]; exact hc o
theorem Entries.keep (hk : Keeps φ w φ' w') {kt vt : Ty} : ∀ {es : List (kt.den × vt.den)} {l : List MapEntry}, Entries φ w kt vt es l → Entries φ' w' kt vt es l
  | [], l, h => h
  | x :: xs, l, h => by
    simp only [Entries] at h ⊢
    obtain ⟨e, r, h1, h2, h3, h4, h5, h6⟩ := h
    exact ⟨e, r, h1, Vt.keep hk _ _ _ h2, Vt.keep hk _ _ _ h3, h4, h5, Entries.keep hk h6⟩
theorem ObjRel.keep {m : Nat} {ob : AObj} (hk : Keeps φ w φ' w') (hx : Ext β β') (hb : ∀ p, β m = some (some p) → w'.heap[p.block]? = w.heap[p.block]? ∧ φ' p.block = φ p.block) (h : ObjRel φ β w m ob) : ObjRel φ' β' w' m ob := by
  cases ob with
  | dead => trivial
  | arr sz t xs tail =>
    rcases hm : β m with _ | (_ | p)
    · simp only [ObjRel, hm] at h
    · simp only [ObjRel, hm] at h
      simp only [ObjRel, hx _ _ hm]
      exact h
    · simp only [ObjRel, hm] at h
      simp only [ObjRel, hx _ _ hm]
      obtain ⟨h1, h2, h3, hM, h4, h5, h6, h7, h8, h9⟩ := h
      obtain ⟨e1, e2⟩ := hb p hm
      refine ⟨h1, h2, h3, hM, h4, by rw [e2]; exact h5, h6.of_heap e1, h7.of_heap e1, fun i x hi => ?_, fun q e hq => ?_⟩
      · obtain ⟨ds, hd, hc⟩ := h8 i x hi
        exact ⟨ds, Vt.keep hk _ _ _ hd, hc.of_heap e1⟩
      · obtain ⟨hl, ds, hd, hc⟩ := h9 q e hq
        exact ⟨hl, ds, VL.keep hk hx _ _ hd, hc.of_heap e1⟩
  | map kt vt es =>
    simp only [ObjRel] at h ⊢
    obtain ⟨hM, p, ents, clock, h1, h2, h3, h4, h5⟩ := h
    obtain ⟨e1, e2⟩ := hb p h1
    exact ⟨hM, p, ents, clock, hx _ _ h1, by rw [e1]; exact h2, by rw [e2]; exact h3, h4, h5.keep hk⟩
  | log t xs =>
    rcases hm : β m with _ | (_ | p)
    · simp only [ObjRel, hm] at h
    · simp only [ObjRel, hm] at h
      simp only [ObjRel, hx _ _ hm]
      exact h
    · simp only [ObjRel, hm] at h
      simp only [ObjRel, hx _ _ hm]
      obtain ⟨h1, h2, h3, h4, h5, h6, h7⟩ := h
      obtain ⟨e1, e2⟩ := hb p hm
      refine ⟨h1, h2, h3, by rw [e2]; exact h4, h5.of_heap e1, h6.of_heap e1, fun i x hi => ?_⟩
      obtain ⟨ds, hd, hc⟩ := h7 i x hi
      exact ⟨ds, Vt.keep hk _ _ _ hd, hc.of_heap e1⟩
  | siter s pos =>
    simp only [ObjRel] at h ⊢
    obtain ⟨hM, p, h1, h2, h3⟩ := h
    obtain ⟨e1, e2⟩ := hb p h1
    exact ⟨hM, p, hx _ _ h1, by rw [e1]; exact h2, by rw [e2]; exact h3⟩
theorem upd_one (l : Nat) (ob : AObj) (m : Nat) : upd [(l, ob)] get m = if l = m then ob else get m := by
  by_cases h : l = m
  · subst h; simp [upd, lk?]
  · have : Nat.beq l m = false := by
      cases hb : Nat.beq l m with
      | false => rfl
      | true => exact absurd (Nat.eq_of_beq_eq_true hb) h
    simp [upd, lk?, this, h]
theorem WInv.change (hW : WInv own φ β get w) (hk : Keeps φ w φ' w') (hx : Ext β β') (hgrow : w.heap.size ≤ w'.heap.size) (l : Nat) (ob : AObj)
    (hothers : ∀ m, m ≠ l → get m ≠ .dead → ∀ p, β m = some (some p) → w'.heap[p.block]? = w.heap[p.block]? ∧ φ' p.block = φ p.block) (hob : ObjRel φ' β' w' l ob)
    (hβ : ∀ m, m ≠ l → β' m = β m)
    (hblock : ob ≠ .dead → ∀ p, β' l = some (some p) → own p.block ∧ p.block < w'.heap.size ∧ ∀ m, m ≠ l → get m ≠ .dead → ∀ q, β m = some (some q) → q.block ≠ p.block)
    (hfresh : ∀ b, w'.heap.size ≤ b → φ' b = 0) : WInv own φ' β' (upd [(l, ob)] get) w' where
  rel m := by
    rw [upd_one]
    by_cases h : l = m
    · subst h; rw [if_pos rfl]; exact hob
    · rw [if_neg h]
      by_cases hd : get m = .dead
      · rw [hd]; trivial
      · exact (hW.rel m).keep hk hx (hothers m (Ne.symm h) hd)
  mine m p hm hp := by
    rw [upd_one] at hm
    by_cases h : l = m
    · subst h
      rw [if_pos rfl] at hm
      exact ⟨(hblock hm p hp).1, (hblock hm p hp).2.1⟩
    · rw [if_neg h] at hm
      rw [hβ m (Ne.symm h)] at hp
      exact ⟨(hW.mine m p hm hp).1, Nat.lt_of_lt_of_le (hW.mine m p hm hp).2 hgrow⟩
  dist m n p q hmn hm hn hp hq := by
    rw [upd_one] at hm hn
    by_cases h1 : l = m
    · subst h1
      rw [if_pos rfl] at hm
      rw [if_neg hmn] at hn
      rw [hβ n (Ne.symm hmn)] at hq
      exact fun e => (hblock hm p hp).2.2 n (Ne.symm hmn) hn q hq e.symm
    · rw [if_neg h1] at hm
      rw [hβ m (Ne.symm h1)] at hp
      by_cases h2 : l = n
      · subst h2
        rw [if_pos rfl] at hn
        exact (hblock hn q hq).2.2 m (Ne.symm h1) hm p hp
      · rw [if_neg h2] at hn
        rw [hβ n (Ne.symm h2)] at hq
        exact hW.dist m n p q hmn hm hn hp hq
  fresh b hb := ⟨(hW.fresh b (Nat.le_trans hgrow hb)).1, hfresh b hb⟩
  laid := hW.laid.keep hk
theorem WInv.kill (hW : WInv own φ β get w) (l : Nat) : WInv own φ β (upd [(l, .dead)] get) w :=
  hW.change (.refl _ _) (.refl _) (Nat.le_refl _) l .dead (fun _ _ _ _ _ => ⟨rfl, rfl⟩) trivial (fun _ _ => rfl) (fun h => absurd rfl h) (fun b hb => (hW.fresh b hb).2)
theorem keeps_push {ob : Obj} (hf : ∀ b, w.heap.size ≤ b → φ b = 0) (hh : w'.heap = w.heap.push ob) (ho : w'.os = w.os ∧ w'.output = w.output) : Keeps φ w φ w' where
  out := ho
  le _ := Nat.le_refl _
  cell b o v ho hv := by
    have hlt : b < w.heap.size := by
      rcases Nat.lt_or_ge b w.heap.size with h | h
      · exact h
      · rw [hf b h] at ho; omega
    rw [cell_of_heap (w := w)]
    · exact hv
    · rw [hh, Array.getElem?_push, if_neg (by omega)]
  room b n hr := by
    obtain ⟨c, t, fr, h1, h2⟩ := hr
    have hlt : b < w.heap.size := (Array.getElem?_eq_some_iff.1 h1).1
    exact ⟨c, t, fr, by rw [hh, Array.getElem?_push, if_neg (by omega)]; exact h1, h2⟩
def setB (β : Beta) (l : Nat) (x : Option Place) : Beta := fun m => if m = l then some x else β m
theorem ext_setB {l : Nat} {x : Option Place} (h : β l = none) : Ext β (setB β l x) := fun m y hy => by
  unfold setB
  by_cases e : m = l
  · subst e; rw [h] at hy; cases hy
  · rw [if_neg e]; exact hy
theorem WInv.push (hW : WInv own φ β get w) {ob : Obj} (hh : w'.heap = w.heap.push ob) (ho : w'.os = w.os ∧ w'.output = w.output) {l : Nat} (hl : β l = none) {p : Place} (hp : p.block = w.heap.size) {a : AObj}
    (hob : ObjRel φ (setB β l (some p)) w' l a) {new : Nat → Prop} (hn : new l) :
    Step own new φ β w φ (setB β l (some p)) w' ∧ WInv own φ (setB β l (some p)) (upd [(l, a)] get) w' := by
  have hf := fun b hb => (hW.fresh b hb).2
  have hk := keeps_push hf hh ho
  have hsz : w'.heap.size = w.heap.size + 1 := by rw [hh]; simp
  have hold : ∀ b, b < w.heap.size → w'.heap[b]? = w.heap[b]? := fun b hb => by rw [hh, Array.getElem?_push, if_neg (by omega)]
  refine ⟨⟨hk, ext_setB hl, fun m hm => ?_, by omega, fun b hb _ => ⟨hold b hb, rfl⟩⟩, ?_⟩
  · unfold setB; rw [if_neg (fun (e : m = l) => hm (by rw [e]; exact hn))]
  · refine hW.change hk (ext_setB hl) (by omega) l a (fun m _ hm q hq => ⟨hold _ (hW.mine m q hm hq).2, rfl⟩) hob (fun m hm => by unfold setB; rw [if_neg hm]) (fun _ q hq => ?_) (fun b hb => hf b (by omega))
    simp only [setB, if_true, Option.some.injEq] at hq
    subst hq
    exact ⟨by rw [hp]; exact (hW.fresh _ (Nat.le_refl _)).1, by omega, fun m _ hm r hr => by have := (hW.mine m r hm hr).2; omega⟩
structure Holds (φ : Nat → Nat) (β : Beta) (w : World) (sz : Nat) (t : Ty) (xs : List t.den) (tail : List (List AV)) (cs : List Value) : Prop where
  max : xs.length + tail.length ≤ maxL
  size : xs ≠ [] → sz = t.sz
  room : (xs.length + tail.length) * sz ≤ cs.length
  typed : ∀ i x, xs[i]? = some x → ∃ ds, Vt φ w t x ds ∧ ∀ j v, ds[j]? = some v → cs[i * sz + j]? = some v
  out : ∀ q e, tail[q]? = some e → e.length = sz ∧ ∃ ds, VL φ β w e ds ∧ ∀ j v, ds[j]? = some v → cs[(xs.length + q) * sz + j]? = some v
theorem Holds.keep {sz : Nat} {t : Ty} {xs : List t.den} {tail : List (List AV)} {cs : List Value} (h : Holds φ β w sz t xs tail cs) (hk : Keeps φ w φ' w') (hx : Ext β β') : Holds φ' β' w' sz t xs tail cs :=
  ⟨h.max, h.size, h.room, fun i x hi => let ⟨ds, h1, h2⟩ := h.typed i x hi; ⟨ds, Vt.keep hk _ _ _ h1, h2⟩, fun q e hq => let ⟨h0, ds, h1, h2⟩ := h.out q e hq; ⟨h0, ds, VL.keep hk hx _ _ h1, h2⟩⟩
theorem Holds.obj {sz l : Nat} {t : Ty} {xs : List t.den} {tail : List (List AV)} {cs : List Value} (h : Holds φ β w sz t xs tail cs) {c : Array Value} {e : TypeId} {b : Nat} (hb : w.heap[b]? = some (.cells c e (0, 0))) (hc : ∀ (j : Nat) (v : Value), cs[j]? = some v → c[j]? = some v)
    (hβ : β l = some (some ⟨b, 0, sz, xs.length, xs.length + tail.length⟩)) (hφ : φ b = 0) : ObjRel φ β w l (.arr sz t xs tail) := by
  simp only [ObjRel, hβ]
  have hcell : ∀ j v, cs[j]? = some v → w.cell? ⟨b, j, none⟩ = some v := fun j v hv => by simp [World.cell?, hb, hc j v hv]
  have hlen : cs.length ≤ c.size := by
    rcases Nat.eq_zero_or_pos cs.length with h0 | h0
    · omega
    · have := hc (cs.length - 1) _ (List.getElem?_eq_getElem (by omega))
      have := (Array.getElem?_eq_some_iff.1 this).1
      omega
  refine ⟨trivial, trivial, trivial, h.max, h.size, hφ, fun o => by simp [World.frozen?, hb], ⟨c, e, _, hb, by have := h.room; omega⟩, fun i x hi => ?_, fun q e hq => ?_⟩
  · obtain ⟨ds, h1, h2⟩ := h.typed i x hi
    exact ⟨ds, h1, fun j v hv => by simpa using hcell _ v (h2 j v hv)⟩
  · obtain ⟨h0, ds, h1, h2⟩ := h.out q e hq
    exact ⟨h0, ds, h1, fun j v hv => by simpa using hcell _ v (h2 j v hv)⟩
theorem V_cells {c : AV} {u : Value} (h : V φ β w c u) (hu : c ≠ .undef) : VL φ β w c.cells u.cells.toList := by
  cases c with
  | agg cs => simp only [V] at h; obtain ⟨vs, rfl, hv⟩ := h; simpa [AV.cells, Value.cells] using hv
  | undef => exact absurd rfl hu
  | tup vs => have h' := h; simp only [V] at h'; obtain ⟨us, rfl, _⟩ := h'; exact .cons h rfl
  | bool b => rw [h.bool_inv]; exact .cons (by simp [V]) rfl
  | int k n => rw [h.int_inv]; exact .cons ⟨rfl, h.int_in⟩ rfl
  | str s => rw [h.str_inv]; exact .cons ⟨rfl, h.2⟩ rfl
  | hw l =>
    have h' := h
    rcases hb : β l with _ | (_ | p) <;> simp only [V, hb] at h'
    · obtain ⟨A, rfl⟩ := h'; exact .cons h rfl
    · obtain ⟨cap, rfl, _⟩ := h'; exact .cons h rfl
  | hs l a n =>
    have h' := h
    rcases hb : β l with _ | (_ | p) <;> simp only [V, hb] at h'
    · exact h'.2.elim
    · obtain ⟨_, _, A, rfl⟩ := h'; exact .cons h rfl
    · obtain ⟨_, A, cap, rfl, _⟩ := h'; exact .cons h rfl
  | hc l a n c =>
    have h' := h.hc_hs
    rcases hb : β l with _ | (_ | p) <;> simp only [V, hb] at h'
    · exact h'.2.elim
    · obtain ⟨_, _, A, rfl⟩ := h'; exact .cons h rfl
    · obtain ⟨_, A, cap, rfl, _⟩ := h'; exact .cons h rfl
  | nilp => have h' := h; simp only [V] at h'; subst h'; exact .cons h rfl
  | nilif => have h' := h; simp only [V] at h'; subst h'; exact .cons h rfl
  | ptr l e j => have h' := h; simp only [V] at h'; obtain ⟨p, _, rfl, _⟩ := h'; exact .cons h rfl
  | eptr cs => have h' := h; simp only [V] at h'; obtain ⟨a, vs, rfl, _⟩ := h'; exact .cons h rfl
  | vl t xs => have h' := h; simp only [V, Vt] at h'; obtain ⟨_, A, cap, he, _⟩ := h'; simp at he; subst he; exact .cons h rfl
  | ap t xs => have h' := h; simp only [V] at h'; obtain ⟨a, cap, rfl, _⟩ := h'; exact .cons h rfl
  | nils => have h' := h; simp only [V] at h'; subst h'; exact .cons h rfl
  | iface t v => have h' := h; simp only [V] at h'; obtain ⟨u', rfl, _⟩ := h'; exact .cons h rfl
  | fn f a b => have h' := h; simp only [V] at h'; obtain ⟨us, vs, rfl, _⟩ := h'; exact .cons h rfl
  | mp l => have h' := h; simp only [V] at h'; obtain ⟨p, _, rfl⟩ := h'; exact .cons h rfl
  | it l => have h' := h; simp only [V] at h'; obtain ⟨p, _, rfl⟩ := h'; exact .cons h rfl
  | ve b => have h' := h; simp only [V] at h'; obtain ⟨A, cap, rfl, _⟩ := h'; exact .cons h rfl
  | rv x =>
    have h' := h
    simp only [V] at h'
    obtain ⟨rfl, h2⟩ := h'
    have e : u.cells = #[u] := by cases u <;> first | rfl | (simp [Value.oneCell'] at h2)
    rw [e]
    exact .cons h rfl
theorem newPtr {p : Place} {l : Nat} (hβ : β l = some (some p)) (hp : p.nty = 0) (hl : 0 < p.len) (hoff : p.off = 0) : V φ β w (.ptr l (.tl 0) 0) (.pointer (some ⟨p.block, 0, none⟩)) := by
  simp only [V]
  exact ⟨p, hβ, by simp [Elt.num, hp, hoff], by simp [Elt.num, hp, hl], fun i hi => by cases hi⟩
theorem new_var (hW : WInv own φ β get w) {l : Nat} (hl : β l = none) {new : Nat → Prop} (hn : new l) {cs : List AV} {vs : Array Value} (hv : VL φ β w cs vs.toList) (t : TypeId) :
    ∃ φ' β', Step own new φ β w φ' β' (w.alloc (.cells vs t)) ∧ V φ' β' (w.alloc (.cells vs t)) (.ptr l (.tl 0) 0) (.pointer (some ⟨w.heap.size, 0, none⟩)) ∧
      WInv own φ' β' (upd [(l, .arr cs.length .bool [] [cs])] get) (w.alloc (.cells vs t)) := by
  have hh : (w.alloc (.cells vs t)).heap = w.heap.push (.cells vs t) := rfl
  have hk := keeps_push (fun b hb => (hW.fresh b hb).2) hh ⟨rfl, rfl⟩
  have hH : Holds φ (setB β l (some ⟨w.heap.size, 0, cs.length, 0, 1⟩)) (w.alloc (.cells vs t)) cs.length .bool [] [cs] vs.toList := by
    refine ⟨by simp [maxL], fun h => absurd rfl h, by simp [hv.length], fun i x hi => by simp at hi, fun q e hq => ?_⟩
    cases q with
    | zero =>
      simp at hq
      subst hq
      exact ⟨rfl, vs.toList, VL.keep hk (ext_setB hl) _ _ hv, fun j v hj => by simpa using hj⟩
    | succ q => simp at hq
  have hobj := hH.obj (l := l) (c := vs) (e := t) (b := w.heap.size) (by rw [hh]; simp) (fun j v hj => by simpa using hj) (by simp [setB]) (hW.fresh _ (Nat.le_refl _)).2
  obtain ⟨h1, h2⟩ := hW.push hh ⟨rfl, rfl⟩ hl (p := ⟨w.heap.size, 0, cs.length, 0, 1⟩) rfl hobj hn
  exact ⟨φ, _, h1, newPtr (p := ⟨w.heap.size, 0, cs.length, 0, 1⟩) (by simp [setB]) rfl (by simp) rfl, h2⟩
theorem good_alloc {E : Env} (hE : EnvOK P E) {t : TypeId} {rw_ : TRow} (ho : o.op = .alloc t) (hr : E.row t = some rw_) : OpGood P o get nx ρ (.ptr nx (.tl 0) 0) [(nx, .arr rw_.size .bool [] [rw_.zero])] [] (nx + 1) := by
  refine ⟨Nat.le_succ _, fun own get' φ β w ρv _ hfr _ hW => ?_⟩
  obtain ⟨i, z, hi, _, _, hz, hlen, _, _, hV⟩ := (hE.row t rw_ hr).info
  have hlen2 : rw_.zero.length = rw_.size := by rw [← (hV φ β w).length]; exact hlen
  obtain ⟨φ', β', h1, h2, h3⟩ := new_var (get := get') hW (hfr nx (Nat.le_refl _) (by omega)).2 (new := fun l => nx ≤ l ∧ l < nx + 1) ⟨Nat.le_refl _, by omega⟩ (hV φ β w) t
  rw [hlen2] at h3
  refine .value (w' := w.alloc (.cells z.cells t)) (u := .pointer (some ⟨w.heap.size, 0, none⟩)) ?_ ⟨φ', β', h1, h2, h3⟩
  simp [execOp, ho, Instr.alloc, zeroValue, typeInfo, hi, hz, newVar, newRow]
theorem cells_undef {c : AV} {n : Nat} (h : c.cells.length = n) (h0 : n ≠ 0) : c ≠ .undef := by
  rintro rfl
  simp [AV.cells] at h
  omega
theorem good_box {t : TypeId} {x : Operand} (ho : o.op = .box t x) {n : Nat} (hn : (ρ x).cells.length = n) (h0 : n ≠ 0) : OpGood P o get nx ρ (.ptr nx (.tl 0) 0) [(nx, .arr n .bool [] [(ρ x).cells])] [] (nx + 1) := by
  refine ⟨Nat.le_succ _, fun own get' φ β w ρv _ hfr hv hW => ?_⟩
  have hX := V_cells (hv x (by simp [ho, Op.operands])) (cells_undef hn h0)
  obtain ⟨φ', β', h1, h2, h3⟩ := new_var (get := get') hW (hfr nx (Nat.le_refl _) (by omega)).2 (new := fun l => nx ≤ l ∧ l < nx + 1) ⟨Nat.le_refl _, by omega⟩ hX t
  rw [hn] at h3
  refine .value (w' := w.alloc (.cells (ρv x).cells t)) (u := .pointer (some ⟨w.heap.size, 0, none⟩)) ?_ ⟨φ', β', h1, h2, h3⟩
  simp [execOp, ho, Instr.box, newVar, newRow]
theorem solid_one {c : AV} {u : Value} (h : V φ β w c u) (hs : c.solid = true) : u.oneCell' = true := by
  have key : ∀ u : Value, (∀ cs, u ≠ .agg cs) → (∀ cs, u ≠ .tuple cs) → u.oneCell' = true := fun u h1 h2 => by
    cases u <;> first | rfl | exact absurd rfl (h1 _) | exact absurd rfl (h2 _)
  cases c with
  | agg cs => simp [AV.solid] at hs
  | undef => simp [AV.solid] at hs
  | tup vs => simp [AV.solid] at hs
  | bool b => rw [h.bool_inv]; rfl
  | int k n => rw [h.int_inv]; rfl
  | str s => rw [h.str_inv]; rfl
  | hw l =>
    rcases hb : β l with _ | (_ | p) <;> simp only [V, hb] at h
    · obtain ⟨A, rfl⟩ := h; rfl
    · obtain ⟨cap, rfl, _⟩ := h; rfl
  | hs l a n =>
    rcases hb : β l with _ | (_ | p) <;> simp only [V, hb] at h
    · exact h.2.elim
    · obtain ⟨_, _, A, rfl⟩ := h; rfl
    · obtain ⟨_, A, cap, rfl, _⟩ := h; rfl
  | hc l a n c =>
    have h := h.hc_hs
    rcases hb : β l with _ | (_ | p) <;> simp only [V, hb] at h
    · exact h.2.elim
    · obtain ⟨_, _, A, rfl⟩ := h; rfl
    · obtain ⟨_, A, cap, rfl, _⟩ := h; rfl
  | nilp => simp only [V] at h; subst h; rfl
  | nilif => simp only [V] at h; subst h; rfl
  | ptr l e j => simp only [V] at h; obtain ⟨p, _, rfl, _⟩ := h; rfl
  | eptr cs => simp only [V] at h; obtain ⟨a, vs, rfl, _⟩ := h; rfl
  | vl t xs => simp only [V, Vt] at h; obtain ⟨_, A, cap, he, _⟩ := h; simp at he; subst he; rfl
  | ap t xs => simp only [V] at h; obtain ⟨a, cap, rfl, _⟩ := h; rfl
  | nils => simp only [V] at h; subst h; rfl
  | iface t v => simp only [V] at h; obtain ⟨u', rfl, _⟩ := h; rfl
  | fn f a b => simp only [V] at h; obtain ⟨us, vs, rfl, _⟩ := h; rfl
  | mp l => simp only [V] at h; obtain ⟨p, _, rfl⟩ := h; rfl
  | it l => simp only [V] at h; obtain ⟨p, _, rfl⟩ := h; rfl
  | ve b => simp only [V] at h; obtain ⟨A, cap, rfl, _⟩ := h; rfl
  | rv x => simp only [V] at h; rw [h.1]; exact h.2
theorem solidL_one : ∀ {cs : List AV} {us : List Value}, VL φ β w cs us → solidL cs = true → ∀ u ∈ us, u.oneCell' = true
  | [], us, h, _, u, hu => by simp only [VL] at h; subst h; simp at hu
  | c :: cs, us, h, hs, u, hu => by
    simp only [VL] at h
    obtain ⟨v, vs, rfl, h1, h2⟩ := h
    simp only [solidL, Bool.and_eq_true] at hs
    rcases List.mem_cons.1 hu with rfl | hu
    · exact solid_one h1 hs.1
    · exact solidL_one h2 hs.2 u hu
theorem enc_solid : ∀ (t : Ty) (x : t.den), solidL (enc t x) = true
  | .bool, _ => rfl
  | .int _, _ => rfl
  | .str, _ => rfl
  | .sl _, _ => rfl
  | .pair a b, x => by
    have app : ∀ (l m : List AV), solidL l = true → solidL m = true → solidL (l ++ m) = true := by
      intro l m
      induction l with
      | nil => intro _ h; simpa using h
      | cons c r ih => intro h h'; simp only [solidL, Bool.and_eq_true, List.cons_append] at h ⊢; exact ⟨h.1, ih h.2 h'⟩
    exact app _ _ (enc_solid a _) (enc_solid b _)
  | .raw, _ => rfl
theorem Vt.one {t : Ty} {x : t.den} {cs : List Value} (h : Vt φ w t x cs) : ∀ u ∈ cs, u.oneCell' = true :=
  solidL_one (β := fun _ => none) (Vt.enc t x cs h) (enc_solid t x)
theorem setCells_facts {b o : Nat} {vs : List Value} (hs : ∀ j, j < vs.length → (w.cell? ⟨b, o + j, none⟩).isSome = true) :
    (∀ k, k ≠ b → (w.setCells b o vs).heap[k]? = w.heap[k]?) ∧ (w.setCells b o vs).heap.size = w.heap.size ∧ (∀ n, Room w b n → Room (w.setCells b o vs) b n) ∧
    (∀ j v, vs[j]? = some v → (w.setCells b o vs).cell? ⟨b, o + j, none⟩ = some v) ∧ (∀ k, k < o ∨ o + vs.length ≤ k → (w.setCells b o vs).cell? ⟨b, k, none⟩ = w.cell? ⟨b, k, none⟩) ∧
    (∀ k, (w.setCells b o vs).frozen? ⟨b, k, none⟩ = w.frozen? ⟨b, k, none⟩) := by
  have hsize : ∀ (vs : List Value) (o : Nat) (w : World), (w.setCells b o vs).heap.size = w.heap.size := by
    intro vs
    induction vs with
    | nil => intro o w; rfl
    | cons v r ih => intro o w; rw [World.setCells, ih]; simp
  have hother : ∀ (vs : List Value) (o : Nat) (w : World) (k : Nat), k ≠ b → (w.setCells b o vs).heap[k]? = w.heap[k]? := by
    intro vs
    induction vs with
    | nil => intro o w k _; rfl
    | cons v r ih => intro o w k hk; rw [World.setCells, ih _ _ _ hk]; exact heap_setCell_other w _ k v hk
  have hroom : ∀ (vs : List Value) (o : Nat) (w : World) (n : Nat), Room w b n → Room (w.setCells b o vs) b n := by
    intro vs
    induction vs with
    | nil => intro o w n h; exact h
    | cons v r ih =>
      intro o w n h
      rw [World.setCells]
      refine ih _ _ _ ?_
      obtain ⟨c, t, fr, h1, h2⟩ := h
      refine ⟨c.setIfInBounds o v, t, fr, ?_, by simpa using h2⟩
      simp [World.setCell, Array.getElem?_modify, h1]
  refine ⟨fun k hk => hother vs o w k hk, hsize vs o w, fun n hn => hroom vs o w n hn, fun j v hv => ?_, fun k hk => ?_, fun k => World.frozen?_setCells b vs o w _⟩
  · have hj := (List.getElem?_eq_some_iff.1 hv).1
    rw [World.cell?_setCells_in b vs o w hs j hj]
    exact congrArg some (List.getElem?_eq_some_iff.1 hv).2
  · exact World.cell?_setCells_out b vs o w _ (fun _ _ => hk)
end
end Go.Sim
namespace Go.Sim
set_option linter.unusedSectionVars false
set_option linter.unusedSimpArgs false
set_option linter.unusedVariables false
section
variable {P : Program} [Tabs P] {o : Oper} {get : Nat → AObj} {nx : Nat} {ρ : Operand → AV}
variable {own : Own P} {φ φ' : Nat → Nat} {β β' : Beta} {w w' : World}
def spliceV (cs : List Value) (j : Nat) (vs : List Value) : List Value := cs.take j ++ vs ++ cs.drop (j + vs.length)
theorem VL.splice {cs ds : List AV} {us vs : List Value} {j : Nat} (h : VL φ β w cs us) (h' : VL φ β w ds vs) : VL φ β w (Sim.splice cs j ds) (spliceV us j vs) := by
  unfold Sim.splice spliceV
  rw [h'.length]
  exact ((h.take j).append h').append (h.drop _)
theorem spliceV_length {cs vs : List Value} {j : Nat} (h : j + vs.length ≤ cs.length) : (spliceV cs j vs).length = cs.length := by
  simp [spliceV]; omega
theorem far {i k sz a b : Nat} (hik : i ≠ k) (ha : a < sz) (hb : b < sz) : i * sz + a ≠ k * sz + b := by
  intro h
  rcases Nat.lt_or_gt_of_ne hik with hlt | hlt
  · have : (i + 1) * sz ≤ k * sz := Nat.mul_le_mul_right _ hlt
    rw [Nat.add_mul] at this
    omega
  · have : (k + 1) * sz ≤ i * sz := Nat.mul_le_mul_right _ hlt
    rw [Nat.add_mul] at this
    omega
theorem ObjRel.set {l sz k : Nat} {t : Ty} {xs : List t.den} {tail : List (List AV)} {p : Place} (h : ObjRel φ β w l (.arr sz t xs tail)) (hp : β l = some (some p)) (hk : Keeps φ w φ w') {ds : List Value} (hlen : ds.length = sz)
    (hsame : ∀ o, o < p.off + k * sz ∨ p.off + k * sz + sz ≤ o → w'.cell? ⟨p.block, o, none⟩ = w.cell? ⟨p.block, o, none⟩) (hfr : Free w' p.block) (hroom : ∀ n, Room w p.block n → Room w' p.block n) (hnew : CellsAt w' p.block (p.off + k * sz) ds) :
    (∀ v, k < xs.length → Vt φ w t v ds → ObjRel φ β w' l (.arr sz t (xs.set k v) tail)) ∧
    (∀ q e, k = xs.length + q → VL φ β w e ds → ObjRel φ β w' l (.arr sz t xs (tail.set q e))) := by
  simp only [ObjRel, hp] at h
  obtain ⟨h1, h2, h3, hM, h4, h5, h6, h7, h8, h9⟩ := h
  have keepCells : ∀ i (ds' : List Value), i ≠ k → ds'.length = sz → CellsAt w p.block (p.off + i * sz) ds' → CellsAt w' p.block (p.off + i * sz) ds' := fun i ds' hik hl hc j v hv => by
    have hj : j < sz := by rw [← hl]; exact (List.getElem?_eq_some_iff.1 hv).1
    rw [hsame]
    · exact hc j v hv
    · rcases Nat.lt_or_ge (p.off + i * sz + j) (p.off + k * sz) with hlt | hge
      · exact .inl hlt
      · refine .inr ?_
        rcases Nat.lt_or_ge (p.off + i * sz + j) (p.off + k * sz + sz) with hlt2 | hge2
        · exact absurd (show i * sz + j = k * sz + (i * sz + j - k * sz) by omega) (far hik hj (by omega))
        · exact hge2
  constructor
  · intro v hkx hv
    simp only [ObjRel, hp]
    refine ⟨h1, by simpa using h2, by simpa using h3, hM, fun hne => h4 (by intro e; subst e; simp at hkx), h5, hfr, hroom _ h7, fun i x hi => ?_, fun q e hq => ?_⟩
    · rw [List.getElem?_set] at hi
      by_cases hik : k = i
      · subst hik
        simp [hkx] at hi
        subst hi
        exact ⟨ds, Vt.keep hk _ _ _ hv, hnew⟩
      · rw [if_neg hik] at hi
        obtain ⟨ds', hd, hc⟩ := h8 i x hi
        have hl' : ds'.length = sz := by rw [Vt.length _ _ _ hd]; exact (h4 (by intro e; subst e; simp at hkx)).symm
        exact ⟨ds', Vt.keep hk _ _ _ hd, keepCells i ds' (Ne.symm hik) hl' hc⟩
    · obtain ⟨hl, ds', hd, hc⟩ := h9 q e hq
      refine ⟨hl, ds', VL.keep hk (.refl _) _ _ hd, ?_⟩
      rw [List.length_set]
      exact keepCells _ ds' (by omega) (by rw [hd.length]; exact hl) hc
  · intro q e hkq hv
    simp only [ObjRel, hp]
    refine ⟨h1, h2, by simpa using h3, hM, h4, h5, hfr, hroom _ h7, fun i x hi => ?_, fun q' e' hq => ?_⟩
    · obtain ⟨ds', hd, hc⟩ := h8 i x hi
      have hix : i < xs.length := (List.getElem?_eq_some_iff.1 hi).1
      have hl' : ds'.length = sz := by rw [Vt.length _ _ _ hd]; exact (h4 (by intro e; subst e; simp at hix)).symm
      exact ⟨ds', Vt.keep hk _ _ _ hd, keepCells i ds' (by omega) hl' hc⟩
    · rw [List.getElem?_set] at hq
      by_cases hqq : q = q'
      · subst hqq
        by_cases hlt : q < tail.length
        · simp [hlt] at hq
          subst hq
          exact ⟨by rw [← hv.length]; exact hlen, ds, VL.keep hk (.refl _) _ _ hv, by rw [← hkq]; exact hnew⟩
        · simp [hlt] at hq
      · rw [if_neg hqq] at hq
        obtain ⟨hl, ds', hd, hc⟩ := h9 q' e' hq
        exact ⟨hl, ds', VL.keep hk (.refl _) _ _ hd, keepCells _ ds' (by omega) (by rw [hd.length]; exact hl) hc⟩
theorem getElem?_spliceV {cs vs : List Value} {j i : Nat} (h : j + vs.length ≤ cs.length) : (spliceV cs j vs)[i]? = if i < j then cs[i]? else if i < j + vs.length then vs[i - j]? else cs[i]? := by
  unfold spliceV
  have hj : (cs.take j).length = j := by simp; omega
  by_cases h1 : i < j
  · rw [if_pos h1, List.append_assoc, List.getElem?_append_left (by omega), List.getElem?_take, if_pos h1]
  · rw [if_neg h1]
    by_cases h2 : i < j + vs.length
    · rw [if_pos h2, List.append_assoc, List.getElem?_append_right (by omega), hj, List.getElem?_append_left (by omega)]
    · rw [if_neg h2, List.getElem?_append_right (by simp; omega)]
      rw [List.getElem?_drop]
      congr 1
      simp
      omega
theorem setCells_out {b : Nat} : ∀ {vs : List Value} {o : Nat} {w : World}, (w.setCells b o vs).os = w.os ∧ (w.setCells b o vs).output = w.output
  | [], _, _ => ⟨rfl, rfl⟩
  | v :: r, o, w => by
    rw [World.setCells]
    have h := setCells_out (b := b) (vs := r) (o := o + 1) (w := w.setCell ⟨b, o, none⟩ v)
    have e : (w.setCell ⟨b, o, none⟩ v).os = w.os ∧ (w.setCell ⟨b, o, none⟩ v).output = w.output := by
      unfold World.setCell
      split <;> exact ⟨rfl, rfl⟩
    exact ⟨h.1.trans e.1, h.2.trans e.2⟩
theorem good_store {E : Env} (hE : EnvOK P E) {t : TypeId} {x y : Operand} {rw_ : TRow} (ho : o.op = .store t x y) (hr : E.row t = some rw_) (hy : (ρ y).cells.length = rw_.size) (hsol : solidL (ρ y).cells = true) {l : Nat} {e : Elt} {j sz : Nat} {ty : Ty} {xs : List ty.den} {tail : List (List AV)}
    (hx : ρ x = .ptr l e j) (hg : get l = .arr sz ty xs tail) (hj : j + rw_.size ≤ (eltCells ty xs tail e).length) {ob : AObj}
    (hob : match e with | .tl p => ob = .arr sz ty xs (tail.set p (splice (tail.getD p []) j (ρ y).cells)) | .ty i => ∃ v, dec ty (splice (enc ty (xs.getD i ty.zero)) j (ρ y).cells) = some v ∧ ob = .arr sz ty (xs.set i v) tail) (h0 : rw_.size ≠ 0) :
    OpGood P o get nx ρ .undef [(l, ob)] [l] nx := by
  refine ⟨Nat.le_refl _, fun own get' φ β w ρv hget _ hv hW => ?_⟩
  have hX := hv x (by simp [ho, Op.operands])
  have hY := V_cells (hv y (by simp [ho, Op.operands])) (cells_undef hy h0)
  rw [hx] at hX
  simp only [V] at hX
  obtain ⟨p, hp, hv1, hn, ht⟩ := hX
  have hrel := hW.rel l
  rw [hget l (by simp), hg] at hrel
  obtain ⟨ds, hd, hc, hlen, hps⟩ := elt_cells hrel hp hn ht
  have hlive : get' l ≠ .dead := by rw [hget l (by simp), hg]; intro h; cases h
  obtain ⟨vs, hvs⟩ : ∃ vs, (ρv y).cells.toList = vs := ⟨_, rfl⟩
  rw [hvs] at hY
  have hvl : vs.length = rw_.size := by rw [hY.length, hy]
  have hdl : j + vs.length ≤ ds.length := by rw [hd.length, hvl]; exact hj
  have hrel' := hrel
  simp only [ObjRel, hp] at hrel'
  obtain ⟨h1, h2, h3, hM, h4, h5, h6, h7, h8, h9⟩ := hrel'
  have hthere : ∀ i, i < vs.length → (w.cell? ⟨p.block, p.off + e.num p.nty * p.sz + j + i, none⟩).isSome = true := fun i hi => by
    have : j + i < ds.length := by omega
    have := hc (j + i) ds[j + i] (List.getElem?_eq_getElem this)
    rw [← Nat.add_assoc] at this
    rw [this]; rfl
  have hrun := run_storeCells_cells (P := P) p.block (p.off + e.num p.nty * p.sz + j) vs 0 w (by simpa using hthere) (fun i _ => h6 _) (solidL_one hY hsol)
  simp only [Nat.add_zero] at hrun
  obtain ⟨f1, f2, f3, f4, f5, f6⟩ := setCells_facts (w := w) hthere
  obtain ⟨w1, hw1⟩ : ∃ w1, w1 = w.setCells p.block (p.off + e.num p.nty * p.sz + j) vs := ⟨_, rfl⟩
  rw [← hw1] at hrun f1 f2 f3 f4 f5 f6
  have hk : Keeps φ w φ w1 := ⟨fun _ => Nat.le_refl _, fun b o v hb hv => by
      have hne : b ≠ p.block := fun e => by rw [e, h5] at hb; omega
      rw [cell_of_heap (w := w) (f1 b hne)]; exact hv, fun b n hr => by
      by_cases hb : b = p.block
      · rw [hb] at hr ⊢; exact f3 n hr
      · exact hr.of_heap (f1 b hb), by rw [hw1]; exact setCells_out.1, by rw [hw1]; exact setCells_out.2⟩
  have hnew : CellsAt w1 p.block (p.off + e.num p.nty * sz) (spliceV ds j vs) := fun i v hi => by
    rw [← hps]
    rw [getElem?_spliceV hdl] at hi
    by_cases g1 : i < j
    · rw [if_pos g1] at hi
      rw [f5 _ (.inl (by omega))]
      exact hc i v hi
    · rw [if_neg g1] at hi
      by_cases g2 : i < j + vs.length
      · rw [if_pos g2] at hi
        have := f4 (i - j) v hi
        rwa [show p.off + e.num p.nty * p.sz + j + (i - j) = p.off + e.num p.nty * p.sz + i by omega] at this
      · rw [if_neg g2] at hi
        rw [f5 _ (.inr (by omega))]
        exact hc i v hi
  have hset := ObjRel.set (k := e.num p.nty) hrel hp hk (ds := spliceV ds j vs) (by rw [spliceV_length hdl, hlen, hps]) (fun o ho => f5 o (by rw [hps]; omega)) (fun o => by rw [f6]; exact h6 o) f3 hnew
  have hnewobj : ObjRel φ β w1 l ob := by
    cases e with
    | tl q =>
      simp only at hob
      subst hob
      have hsp := VL.splice (j := j) hd hY
      exact hset.2 q _ (by simp [Elt.num, h2]) hsp
    | ty i =>
      obtain ⟨v, hdec, rfl⟩ := hob
      have hsp := VL.splice (j := j) hd hY
      have hi : i < xs.length := by have := ht i rfl; omega
      exact hset.1 v hi (dec_sound ty _ v _ hdec hsp)
  have hm := hW.mine l p hlive hp
  have hWI := hW.change hk (.refl _) (by omega) l ob (fun m hm' hd' q hq => ⟨f1 _ (fun e => hW.dist l m p q (Ne.symm hm') hlive hd' hp hq e.symm), rfl⟩) hnewobj (fun _ _ => rfl)
    (fun _ q hq => by
      rw [hp] at hq; cases hq
      exact ⟨hm.1, by omega, fun m hm' hd' q hq => hW.dist m l q p hm' hd' hlive hq hp⟩) (fun b hb => (hW.fresh b (by omega)).2)
  refine .skip (w' := w1) ?_ ⟨φ, β, ⟨hk, .refl _, fun _ _ => rfl, by omega, fun b hb hnb => ⟨f1 b (fun e => hnb (by rw [e]; exact hm.1)), rfl⟩⟩, by simp [V], hWI⟩
  have hsz : (ρv y).cells.size = rw_.size := by rw [← hvl, ← hvs]; simp
  simp [execOp, ho, hv1, Instr.storeAt, Instr.sureAddr, storeVar, (hE.row t rw_ hr).size, hsz, hvs, hrun]
theorem good_makeMap {E : Env} (hE : EnvOK P E) {t k v : TypeId} {rw_ : TRow} (ho : o.op = .makeMap t none) {kt vt : Ty} (hk : okKey kt = true) : OpGood P o get nx ρ (.mp nx) [(nx, .map kt vt [])] [] (nx + 1) := by
  refine ⟨Nat.le_succ _, fun own get' φ β w ρv _ hfr _ hW => ?_⟩
  have hl := (hfr nx (Nat.le_refl _) (by omega)).2
  have hobj : ObjRel φ (setB β nx (some ⟨w.heap.size, 0, 0, 0, 0⟩)) (w.alloc (.map #[] 0)) nx (.map kt vt []) := by
    simp only [ObjRel]
    exact ⟨Nat.zero_le _, ⟨w.heap.size, 0, 0, 0, 0⟩, #[], 0, by simp [setB], by simp [World.alloc, -World.alloc_eq], (hW.fresh _ (Nat.le_refl _)).2, hk, rfl⟩
  obtain ⟨h1, h2⟩ := hW.push (w' := w.alloc (.map #[] 0)) rfl ⟨rfl, rfl⟩ hl rfl hobj (new := fun l => nx ≤ l ∧ l < nx + 1) ⟨Nat.le_refl _, by omega⟩
  refine .value (w' := w.alloc (.map #[] 0)) (u := .map (some w.heap.size)) ?_ ⟨φ, _, h1, by simp only [V]; exact ⟨_, by simp [setB]; rfl, rfl⟩, h2⟩
  simp [execOp, ho, Instr.makeMap]
theorem In.rune (s : ByteArray) (i : Nat) : In .i32 ((Utf8.decode s i).1 : Int) := by
  have e1 : IntKind.i32.min = -2147483648 := by decide
  have e2 : IntKind.i32.max = 2147483647 := by decide
  have hre : Utf8.runeError = 65533 := by decide
  have key : (Utf8.decode s i).1 ≤ 2147483647 := by
    unfold Utf8.decode
    simp only
    split
    · rename_i h; have : (0x80 : Nat) = 128 := rfl; show (s.get! (i + 0)).toNat ≤ _; omega
    · split
      · split
        · show (s.get! (i + 0)).toNat % 32 * 64 + (s.get! (i + 1)).toNat % 64 ≤ _; omega
        · show Utf8.runeError ≤ _; omega
      · split
        · split
          · show (s.get! (i + 0)).toNat % 16 * 4096 + (s.get! (i + 1)).toNat % 64 * 64 + (s.get! (i + 2)).toNat % 64 ≤ _; omega
          · show Utf8.runeError ≤ _; omega
        · split
          · split
            · show (s.get! (i + 0)).toNat % 8 * 262144 + (s.get! (i + 1)).toNat % 64 * 4096 + (s.get! (i + 2)).toNat % 64 * 64 + (s.get! (i + 3)).toNat % 64 ≤ _; omega
            · show Utf8.runeError ≤ _; omega
          · show Utf8.runeError ≤ _; omega
  unfold In
  rw [e1, e2]; omega
theorem good_range {E : Env} (hE : EnvOK P E) {t : TypeId} {x : Operand} {rw_ : TRow} (ho : o.op = .range t x) (hr : E.row t = some rw_) (hk : rw_.kind = .str) {s : List UInt8} (hx : ρ x = .str s) : OpGood P o get nx ρ (.it nx) [(nx, .siter s 0)] [] (nx + 1) := by
  refine ⟨Nat.le_succ _, fun own get' φ β w ρv _ hfr hv hW => ?_⟩
  have hX := hv x (by simp [ho, Op.operands])
  rw [hx] at hX
  have hXl := hX.2
  have hX := hX.str_inv
  have hu := (hE.row t rw_ hr).str_kind hk
  have hl := (hfr nx (Nat.le_refl _) (by omega)).2
  have hobj : ObjRel φ (setB β nx (some ⟨w.heap.size, 0, 0, 0, 0⟩)) (w.alloc (.stringIter ⟨s.toArray⟩ 0)) nx (.siter s 0) := by
    simp only [ObjRel]
    exact ⟨hXl, ⟨w.heap.size, 0, 0, 0, 0⟩, by simp [setB], by simp [World.alloc, -World.alloc_eq], (hW.fresh _ (Nat.le_refl _)).2⟩
  obtain ⟨h1, h2⟩ := hW.push (w' := w.alloc (.stringIter ⟨s.toArray⟩ 0)) rfl ⟨rfl, rfl⟩ hl rfl hobj (new := fun l => nx ≤ l ∧ l < nx + 1) ⟨Nat.le_refl _, by omega⟩
  refine .value (w' := w.alloc (.stringIter ⟨s.toArray⟩ 0)) (u := .pointer (some ⟨w.heap.size, 0, none⟩)) ?_ ⟨φ, _, h1, by simp only [V]; exact ⟨_, by simp [setB]; rfl, rfl⟩, h2⟩
  simp [execOp, ho, hX, Instr.range, run_underlying hu]
theorem WInv.setObj (hW : WInv own φ β get w) {l : Nat} {p : Place} {a : AObj} {ob ob' : Obj} (hlive : get l ≠ .dead) (hp : β l = some (some p)) (hheap : w.heap[p.block]? = some ob) (hno : ∀ c t fr, ob ≠ .cells c t fr) (hφ : φ p.block = 0) (hob : ∀ w' : World, w'.heap[p.block]? = some ob' → Keeps φ w φ w' → ObjRel φ β w' l a) {new : Nat → Prop} :
    ∃ w', w' = { w with heap := w.heap.setIfInBounds p.block ob' } ∧ Step own new φ β w φ β w' ∧ WInv own φ β (upd [(l, a)] get) w' := by
  obtain ⟨w', hw'⟩ : ∃ w' : World, w' = { w with heap := w.heap.setIfInBounds p.block ob' } := ⟨_, rfl⟩
  have hlt : p.block < w.heap.size := (Array.getElem?_eq_some_iff.1 hheap).1
  have hsz : w'.heap.size = w.heap.size := by rw [hw']; simp
  have hother : ∀ b, b ≠ p.block → w'.heap[b]? = w.heap[b]? := fun b hb => by rw [hw']; simp [Array.getElem?_setIfInBounds, Ne.symm hb]
  have hself : w'.heap[p.block]? = some ob' := by rw [hw']; simp [Array.getElem?_setIfInBounds, hlt]
  have hk : Keeps φ w φ w' := ⟨fun _ => Nat.le_refl _, fun b o v hb hv => by
      have hne : b ≠ p.block := fun e => by rw [e, hφ] at hb; omega
      rw [cell_of_heap (w := w) (hother b hne)]; exact hv, fun b n hr => by
      by_cases hb : b = p.block
      · obtain ⟨c, t, fr, h1, _⟩ := hr
        rw [hb, hheap] at h1
        cases h1
        exact absurd rfl (hno _ _ _)
      · exact hr.of_heap (hother b hb), by rw [hw'], by rw [hw']⟩
  have hm := hW.mine l p hlive hp
  refine ⟨w', hw', ⟨hk, .refl _, fun _ _ => rfl, by omega, fun b hb hnb => ⟨hother b (fun e => hnb (by rw [e]; exact hm.1)), rfl⟩⟩, ?_⟩
  exact hW.change hk (.refl _) (by omega) l a (fun m hm' hd' q hq => ⟨hother _ (fun e => hW.dist l m p q (Ne.symm hm') hlive hd' hp hq e.symm), rfl⟩) (hob w' hself hk) (fun _ _ => rfl)
    (fun _ q hq => by
      rw [hp] at hq; cases hq
      exact ⟨hm.1, by omega, fun m hm' hd' q hq => hW.dist m l q p hm' hd' hlive hq hp⟩) (fun b hb => (hW.fresh b (by omega)).2)
theorem good_next_more {x : Operand} {l : Nat} (ho : o.op = .next x true) (hx : ρ x = .it l) {s : List UInt8} {pos : Nat} (hg : get l = .siter s pos) (hp : pos < s.length) :
    OpGood P o get nx ρ (.tup [.bool true, .int .i64 (pos : Int), .int .i32 ((Utf8.decode ⟨s.toArray⟩ pos).1 : Int)]) [(l, .siter s (pos + (Utf8.decode ⟨s.toArray⟩ pos).2))] [l] nx := by
  refine ⟨Nat.le_refl _, fun own get' φ β w ρv hget _ hv hW => ?_⟩
  have hX := hv x (by simp [ho, Op.operands])
  rw [hx] at hX
  simp only [V] at hX
  obtain ⟨p, hβ, hv1⟩ := hX
  have hrel := hW.rel l
  have hgl := hget l (by simp)
  rw [hg] at hgl
  rw [hgl] at hrel
  simp only [ObjRel] at hrel
  obtain ⟨hM, q, hq, hheap, hφ⟩ := hrel
  rw [hβ] at hq; cases hq
  obtain ⟨w', hw', hstep, hWI⟩ := hW.setObj (a := .siter s (pos + (Utf8.decode ⟨s.toArray⟩ pos).2)) (ob' := .stringIter ⟨s.toArray⟩ (pos + (Utf8.decode ⟨s.toArray⟩ pos).2)) (new := fun l => nx ≤ l ∧ l < nx)
    (by rw [hgl]; intro h; cases h) hβ hheap (fun _ _ _ h => by cases h) hφ (fun w' h _ => by simp only [ObjRel]; exact ⟨hM, p, hβ, h, hφ⟩)
  have hsz : (⟨s.toArray⟩ : ByteArray).size = s.length := by simp [ByteArray.size]
  refine .value (w' := w') (u := .tuple #[.bool true, .int .i64 (pos : Int), .int .i32 ((Utf8.decode ⟨s.toArray⟩ pos).1 : Int)]) ?_ ⟨φ, β, hstep, ?_, hWI⟩
  · simp [execOp, ho, hv1, Instr.next, Go.getObj, Sem.run, hheap, hsz, hp, Go.setObj, hw', goInt]
  · simp only [V]
    exact ⟨[.bool true, .int .i64 (pos : Int), .int .i32 ((Utf8.decode ⟨s.toArray⟩ pos).1 : Int)], rfl, .cons rfl (.cons ⟨rfl, In.nat (by omega)⟩ (.cons ⟨rfl, In.rune _ _⟩ rfl))⟩
theorem good_next_over {x : Operand} {l : Nat} (ho : o.op = .next x true) (hx : ρ x = .it l) {s : List UInt8} {pos : Nat} (hg : get l = .siter s pos) (hp : ¬ pos < s.length) :
    OpGood P o get nx ρ (.tup [.bool false]) [] [l] nx :=
  .pure fun own get' φ β w ρv hget hv hW => by
    have hX := hv x (by simp [ho, Op.operands])
    rw [hx] at hX
    simp only [V] at hX
    obtain ⟨p, hβ, hv1⟩ := hX
    have hrel := hW.rel l
    rw [hget l (by simp), hg] at hrel
    simp only [ObjRel] at hrel
    obtain ⟨_, q, hq, hheap, hφ⟩ := hrel
    rw [hβ] at hq; cases hq
    have hsz : (⟨s.toArray⟩ : ByteArray).size = s.length := by simp [ByteArray.size]
    refine ⟨.tuple #[.bool false], ?_, by simp only [V]; exact ⟨[.bool false], rfl, .cons rfl rfl⟩⟩
    simp [execOp, ho, hv1, Instr.next, Go.getObj, Sem.run, hheap, hsz, hp]
end
end Go.Sim
namespace Go.Sim
set_option linter.unusedSectionVars false
set_option linter.unusedSimpArgs false
set_option linter.unusedVariables false
section
variable {P : Program} [Tabs P] {o : Oper} {get : Nat → AObj} {nx : Nat} {ρ : Operand → AV}
variable {own : Own P} {φ φ' : Nat → Nat} {β β' : Beta} {w w' : World}
structure Src (P : Program) (φ : Nat → Nat) (w : World) (t : Ty) (ys : List t.den) (u : Value) (news : List Value) : Prop where
  len : news.length = ys.length * t.sz
  lenOf : ∀ w', (Builtin.lenOf u).run P w' = .ok ys.length w'
  first : ∀ w', w'.heap = w.heap → (Builtin.firstCells t.sz ys.length u).run P w' = .ok news.toArray w'
  typed : ∀ i y, ys[i]? = some y → ∃ ds, Vt φ w t y ds ∧ ∀ j v, ds[j]? = some v → news[i * t.sz + j]? = some v
  one : ∀ v ∈ news, v.oneCell' = true
theorem gather {t : Ty} {b o : Nat} {ys : List t.den} (h : ∀ i y, ys[i]? = some y → ∃ ds, Vt φ w t y ds ∧ CellsAt w b (o + i * t.sz) ds) :
    ∃ news : List Value, news.length = ys.length * t.sz ∧ CellsAt w b o news ∧ (∀ i y, ys[i]? = some y → ∃ ds, Vt φ w t y ds ∧ ∀ j v, ds[j]? = some v → news[i * t.sz + j]? = some v) ∧ ∀ v ∈ news, v.oneCell' = true := by
  induction ys generalizing o with
  | nil => exact ⟨[], by simp, fun i v hv => by simp at hv, fun i y hy => by simp at hy, by simp⟩
  | cons y ys ih =>
    obtain ⟨d0, hd0, hc0⟩ := h 0 y (by simp)
    obtain ⟨news, hl, hc, ht, h1⟩ := ih (o := o + t.sz) (fun i z hz => by
      obtain ⟨ds, h1, h2⟩ := h (i + 1) z (by simpa using hz)
      refine ⟨ds, h1, ?_⟩
      rw [Nat.add_mul] at h2
      rwa [show o + t.sz + i * t.sz = o + (i * t.sz + 1 * t.sz) by omega])
    have hl0 := Vt.length _ _ _ hd0
    refine ⟨d0 ++ news, by simp [hl0, hl, Nat.add_mul]; omega, fun i v hv => ?_, fun i z hz => ?_, fun v hv => ?_⟩
    · rcases Nat.lt_or_ge i d0.length with hlt | hge
      · rw [List.getElem?_append_left hlt] at hv
        simpa using hc0 i v hv
      · rw [List.getElem?_append_right hge] at hv
        have := hc _ v hv
        rwa [show o + t.sz + (i - d0.length) = o + i by omega] at this
    · cases i with
      | zero =>
        simp at hz
        subst hz
        refine ⟨d0, hd0, fun j v hv => ?_⟩
        rw [List.getElem?_append_left (by have := (List.getElem?_eq_some_iff.1 hv).1; omega)]
        simpa using hv
      | succ i =>
        obtain ⟨ds, h1, h2⟩ := ht i z (by simpa using hz)
        refine ⟨ds, h1, fun j v hv => ?_⟩
        rw [List.getElem?_append_right (by rw [hl0, Nat.add_mul]; omega)]
        have := h2 j v hv
        rwa [show (i + 1) * t.sz + j - d0.length = i * t.sz + j by rw [hl0, Nat.add_mul]; omega]
    · rcases List.mem_append.1 hv with hv | hv
      · exact hd0.one v hv
      · exact h1 v hv
theorem bytesOf_in {s : List UInt8} {i : Nat} {y : Int} (h : (bytesOf s)[i]? = some y) : In .u8 y := by
  unfold bytesOf at h
  rw [List.getElem?_map] at h
  obtain ⟨b, _, rfl⟩ := Option.map_eq_some_iff.1 h
  exact In.u8 b
theorem src_cells {t : Ty} {b o cap : Nat} {ys : List t.den} (h : ∀ i y, ys[i]? = some y → ∃ ds, Vt φ w t y ds ∧ CellsAt w b (o + i * t.sz) ds) : ∃ news, Src P φ w t ys (.slice (some ⟨b, o, none⟩) ys.length cap) news ∧ CellsAt w b o news := by
  obtain ⟨news, h1, h2, h3, h4⟩ := gather h
  refine ⟨news, ⟨h1, fun w' => by simp [Builtin.lenOf], fun w' hw' => ?_, h3, h4⟩, h2⟩
  refine run_firstCells_some w' t.sz ys.length _ _ _ news h1 (fun j v hv => ?_)
  rw [addr_add, cell_of_heap (w := w) (by rw [hw'])]
  exact h2 j v hv
theorem src_empty2 {t : Ty} (A : Option Addr) (cap : Nat) : Src P φ w t [] (.slice A 0 cap) [] :=
  ⟨by simp, fun w' => by simp [Builtin.lenOf], fun w' _ => by cases A <;> simp [Builtin.firstCells, loadCells, loadCellsFrom], fun i y hy => by simp at hy, by simp⟩
theorem src_empty {t : Ty} (A : Option Addr) : Src P φ w t [] (.slice A 0 0) [] :=
  ⟨by simp, fun w' => by simp [Builtin.lenOf], fun w' _ => by cases A <;> simp [Builtin.firstCells, loadCells, loadCellsFrom], fun i y hy => by simp at hy, by simp⟩
theorem src_vl {t : Ty} {ys : List t.den} {u : Value} (h : Vt φ w (.sl t) ys [u]) : ∃ news, Src P φ w t ys u news := by
  simp only [Vt] at h
  obtain ⟨_, A, cap, hu, hcap, hel⟩ := h
  simp at hu
  subst hu
  cases ys with
  | nil =>
    refine ⟨[], by simp, fun w' => by simp [Builtin.lenOf], fun w' _ => by cases A <;> simp [Builtin.firstCells, loadCells, loadCellsFrom], fun i y hy => by simp at hy, by simp⟩
  | cons y ys =>
    obtain ⟨a, ds, ha, hs, _⟩ := hel 0 y (by simp)
    subst ha
    obtain ⟨b, of, sp⟩ := a
    simp at hs
    subst hs
    obtain ⟨news, h1, _⟩ := src_cells (P := P) (φ := φ) (w := w) (t := t) (b := b) (o := of) (cap := cap) (ys := y :: ys) (fun i z hz => by
      obtain ⟨a', ds, ha, _, hd, hr⟩ := hel i z hz
      cases ha
      exact ⟨ds, hd, hr.cells⟩)
    exact ⟨news, h1⟩
theorem decAll_sound {t : Ty} : ∀ {l : List (List AV)} {ys : List t.den} {i : Nat} {y : t.den}, decAll t l = some ys → ys.length = l.length ∧ (ys[i]? = some y → ∃ c, l[i]? = some c ∧ dec t c = some y)
  | [], ys, i, y, h => by simp [decAll] at h; subst h; simp
  | c :: l, ys, i, y, h => by
    simp only [decAll] at h
    obtain ⟨x, hx, h⟩ := Option.bind_eq_some_iff.1 h
    obtain ⟨zs, hzs, h⟩ := Option.bind_eq_some_iff.1 h
    simp at h
    subst h
    refine ⟨by simp [(decAll_sound (i := 0) (y := y) hzs).1], fun hy => ?_⟩
    cases i with
    | zero => simp at hy; subst hy; exact ⟨c, rfl, hx⟩
    | succ i => simpa using (decAll_sound hzs).2 (by simpa using hy)
theorem obj_elems {l sz : Nat} {t : Ty} {xs : List t.den} {tail : List (List AV)} {ys : List t.den} (h : ObjRel φ β w l (.arr sz t xs tail)) {p : Place} (hp : β l = some (some p)) (hd : decAll t tail = some ys) (hsz : sz = t.sz) :
    ∀ i y, (xs ++ ys)[i]? = some y → ∃ ds, Vt φ w t y ds ∧ CellsAt w p.block (p.off + i * t.sz) ds := by
  simp only [ObjRel, hp] at h
  obtain ⟨h1, h2, h3, hM, h4, h5, h6, h7, h8, h9⟩ := h
  intro i y hy
  rcases Nat.lt_or_ge i xs.length with hlt | hge
  · rw [List.getElem?_append_left hlt] at hy
    rw [← hsz]
    exact h8 i y hy
  · rw [List.getElem?_append_right hge] at hy
    obtain ⟨c, hc, hdc⟩ := (decAll_sound hd).2 hy
    obtain ⟨_, ds, hv, hcell⟩ := h9 _ c hc
    refine ⟨ds, dec_sound t c y ds hdc hv, ?_⟩
    rw [← hsz]
    rwa [show xs.length + (i - xs.length) = i by omega] at hcell
theorem elems_sound0 {t : Ty} {c : AV} (hno : ∀ l o n k, c ≠ .hc l o n k) {ys : List t.den} {rd : List Nat} (he : elems get t c = some (ys, rd)) {get' : Nat → AObj} (hget : ∀ l, l ∈ rd → get' l = get l) (hW : WInv own φ β get' w) {u : Value} (hV : V φ β w c u) :
    ∃ news, Src P φ w t ys u news := by
  cases c with
  | hc l o n k => exact absurd rfl (hno l o n k)
  | nils =>
    simp [elems] at he
    obtain ⟨rfl, rfl⟩ := he
    simp only [V] at hV
    subst hV
    exact ⟨[], src_empty none⟩
  | ve b =>
    simp [elems] at he
    obtain ⟨rfl, rfl⟩ := he
    simp only [V] at hV
    obtain ⟨A, cap, rfl, _⟩ := hV
    exact ⟨[], src_empty2 A cap⟩
  | vl t' xs =>
    simp only [elems] at he
    split at he
    · rename_i h
      subst h
      simp at he
      obtain ⟨rfl, rfl⟩ := he
      simp only [V] at hV
      exact src_vl hV
    · cases he
  | str s =>
    simp only [elems] at he
    split at he
    · rename_i h
      subst h
      simp at he
      obtain ⟨rfl, rfl⟩ := he
      rw [hV.str_inv]
      have hs : (⟨s.toArray⟩ : ByteArray).size = s.length := by simp [ByteArray.size]
      have hb : (bytesOf s).length = s.length := by simp [bytesOf]
      refine ⟨(bytesOf s).map (Value.int .u8), by simp [Ty.sz], fun w' => by simp [Builtin.lenOf, hs, hb], fun w' _ => ?_, fun i y hy => ⟨[.int .u8 y], ⟨rfl, bytesOf_in hy⟩, fun j v hv => ?_⟩, by simp [Value.oneCell']⟩
      · have : (⟨s.toArray⟩ : ByteArray).extract 0 (bytesOf s).length = ⟨s.toArray⟩ := by
          apply ByteArray.ext
          rw [ByteArray.data_extract]
          apply Array.ext'
          simp [hb]
        simp [Builtin.firstCells, this, bytesOf]
      · cases j with
        | zero => simp at hv; subst hv; simp [Ty.sz, hy]
        | succ j => simp at hv
    · cases he
  | hw l =>
    simp only [elems] at he
    cases hg : get l with
    | arr sz t' xs tail =>
      rw [hg] at he
      simp only at he
      have hszt : sz = t.sz := by
        cases hb : Nat.beq sz t.sz with
        | true => exact Nat.eq_of_beq_eq_true hb
        | false => rw [hb] at he; cases he
      have hbt : Nat.beq sz t.sz = true := by rw [hszt]; exact Nat.beq_refl _
      rw [hbt, cond_true] at he
      have key : ∀ (xs' : List t.den) (ys' : List t.den), ObjRel φ β w l (.arr sz t xs' tail) → decAll t tail = some ys' → ys = xs' ++ ys' → (∃ news, Src P φ w t ys u news) := by
        intro xs' ys' hrel hd hys
        subst hys
        have hrel' := hrel
        rcases hb : β l with _ | (_ | p)
        · simp only [ObjRel, hb] at hrel
        · simp only [ObjRel, hb] at hrel
          obtain ⟨rfl, rfl⟩ := hrel
          simp [decAll] at hd
          subst hd
          simp only [V, hb] at hV
          obtain ⟨A, rfl⟩ := hV
          exact ⟨[], src_empty A⟩
        · simp only [ObjRel, hb] at hrel'
          simp only [V, hb] at hV
          obtain ⟨cap, rfl, hc, _⟩ := hV
          obtain ⟨news, h1, _⟩ := src_cells (P := P) (cap := cap) (obj_elems hrel hb hd hszt)
          have hlen : p.len = (xs' ++ ys').length := by rw [hrel'.2.2.1, List.length_append, (decAll_sound (i := 0) (y := t.zero) hd).1]
          rw [hlen]
          exact ⟨news, h1⟩
      split at he
      · rename_i h
        subst h
        have hmem : rd = [l] := by
          split at he
          · simp at he; exact he.2.symm
          · obtain ⟨_, _, he⟩ := Option.bind_eq_some_iff.1 he; simp at he; exact he.2.symm
        have hrel := hW.rel l
        rw [hget l (by simp [hmem]), hg] at hrel
        split at he
        · simp at he
          obtain ⟨rfl, _⟩ := he
          exact key xs [] hrel (by simp [decAll]) (by simp)
        · obtain ⟨zs, hz, he⟩ := Option.bind_eq_some_iff.1 he
          simp at he
          exact key xs zs hrel hz he.1.symm
      · split at he
        · obtain ⟨zs, hz, he⟩ := Option.bind_eq_some_iff.1 he
          simp at he
          obtain ⟨rfl, rfl⟩ := he
          have hrel := hW.rel l
          rw [hget l (by simp), hg] at hrel
          refine key [] zs ?_ hz (by simp)
          rcases hb : β l with _ | (_ | p)
          · simp only [ObjRel, hb] at hrel
          · simp only [ObjRel, hb] at hrel ⊢; exact ⟨trivial, hrel.2⟩
          · simp only [ObjRel, hb] at hrel ⊢
            obtain ⟨h1, h2, h3, hM, h4, h5, h6, h7, h8, h9⟩ := hrel
            exact ⟨h1, h2, h3, hM, fun h => absurd rfl h, h5, h6, h7, fun i x hi => by simp at hi, h9⟩
        · cases he
    | _ => rw [hg] at he; cases he
  | hs l a n =>
    simp only [elems] at he
    cases hg : get l with
    | arr sz t' xs tail =>
      rw [hg] at he
      simp only at he
      have hszt : sz = t.sz := by
        cases hb : Nat.beq sz t.sz with
        | true => exact Nat.eq_of_beq_eq_true hb
        | false => rw [hb] at he; cases he
      have hbt : Nat.beq sz t.sz = true := by rw [hszt]; exact Nat.beq_refl _
      rw [hbt, cond_true] at he
      split at he
      · rename_i h
        subst h
        split at he
        · simp at he
          obtain ⟨rfl, rfl⟩ := he
          have hrel := hW.rel l
          rw [hget l (by simp), hg] at hrel
          have hrel' := hrel
          rcases hb : β l with _ | (_ | p)
          · simp only [ObjRel, hb] at hrel
          · simp only [V, hb] at hV
            obtain ⟨_, rfl, A, rfl⟩ := hV
            simp only [ObjRel, hb] at hrel
            obtain ⟨rfl, _⟩ := hrel
            exact ⟨[], by simpa using src_empty A⟩
          · simp only [V, hb] at hV
            obtain ⟨_, A, cap, rfl, hc, hm, hle, hA⟩ := hV
            simp only [ObjRel, hb] at hrel'
            by_cases hn : n = 0
            · subst hn
              refine ⟨[], by simp, fun w' => by simp [Builtin.lenOf], fun w' _ => by cases A <;> simp [Builtin.firstCells, loadCells, loadCellsFrom], fun i y hy => by simp at hy, by simp⟩
            · obtain ⟨rfl, _⟩ := hA (by omega)
              have hl : ((xs.drop a).take n).length = n := by
                simp
                have := hrel'.2.2.1
                simp at this
                omega
              obtain ⟨news, h1, _⟩ := src_cells (P := P) (φ := φ) (w := w) (t := t') (b := p.block) (o := p.off + a * p.sz) (cap := cap) (ys := (xs.drop a).take n) (fun i y hy => by
                have hi : xs[a + i]? = some y := by
                  rw [List.getElem?_take] at hy
                  split at hy
                  · simpa using hy
                  · cases hy
                obtain ⟨ds, hd, hcell⟩ := obj_elems hrel hb (ys := []) (by simp [decAll]) hszt (a + i) y (by simpa using hi)
                refine ⟨ds, hd, ?_⟩
                rw [hrel'.1, hszt, Nat.add_assoc, ← Nat.add_mul]
                exact hcell)
              rw [hl] at h1
              exact ⟨news, h1⟩
        · cases he
      · cases he
    | _ => rw [hg] at he; cases he
  | _ => simp [elems] at he
theorem elems_max0 {t : Ty} {c : AV} (hno : ∀ l o n k, c ≠ .hc l o n k) {ys : List t.den} {rd : List Nat} (he : elems get t c = some (ys, rd)) {get' : Nat → AObj} (hget : ∀ l, l ∈ rd → get' l = get l) (hW : WInv own φ β get' w) {u : Value} (hV : V φ β w c u) : ys.length ≤ maxL := by
  cases c with
  | hc l o n k => exact absurd rfl (hno l o n k)
  | nils => simp [elems] at he; rw [he.1]; exact Nat.zero_le _
  | ve b =>
    simp [elems] at he
    obtain ⟨rfl, rfl⟩ := he
    exact Nat.zero_le _
  | vl t' xs =>
    simp only [elems] at he
    split at he
    · rename_i h
      subst h
      simp at he
      obtain ⟨rfl, rfl⟩ := he
      simp only [V, Vt] at hV
      exact hV.1
    · cases he
  | str s =>
    simp only [elems] at he
    split at he
    · rename_i h
      subst h
      simp at he
      obtain ⟨rfl, rfl⟩ := he
      have := hV.2
      simpa [bytesOf] using this
    · cases he
  | hw l =>
    simp only [elems] at he
    cases hg : get l with
    | arr sz t' xs tail =>
      rw [hg] at he
      simp only at he
      have hlen : ys.length = xs.length + tail.length ∧ rd = [l] := by
        obtain ⟨_, he⟩ : Nat.beq sz t.sz = true ∧ _ := by
          cases hb : Nat.beq sz t.sz with
          | true => rw [hb] at he; exact ⟨rfl, he⟩
          | false => rw [hb] at he; cases he
        simp only [cond_true] at he
        split at he
        · rename_i h
          subst h
          split at he
          · simp at he; rw [← he.1, ← he.2]; simp
          · obtain ⟨zs, hz, he⟩ := Option.bind_eq_some_iff.1 he
            simp at he
            obtain ⟨rfl, rfl⟩ := he
            have := (decAll_sound (i := 0) (y := t'.zero) hz).1
            simp at this ⊢; omega
        · split at he
          · obtain ⟨zs, hz, he⟩ := Option.bind_eq_some_iff.1 he
            simp at he
            obtain ⟨rfl, rfl⟩ := he
            have := (decAll_sound (i := 0) (y := t.zero) hz).1
            simp at this ⊢; omega
          · cases he
      have hrel := hW.rel l
      rw [hget l (by simp [hlen.2]), hg] at hrel
      rcases hb : β l with _ | (_ | p)
      · simp only [ObjRel, hb] at hrel
      · simp only [ObjRel, hb] at hrel
        obtain ⟨rfl, rfl⟩ := hrel
        rw [hlen.1]; exact Nat.zero_le _
      · simp only [ObjRel, hb] at hrel
        rw [hlen.1, ← hrel.2.2.1]; exact hrel.2.2.2.1
    | _ => rw [hg] at he; cases he
  | hs l a n =>
    simp only [elems] at he
    cases hg : get l with
    | arr sz t' xs tail =>
      rw [hg] at he
      simp only at he
      cases hb : Nat.beq sz t.sz with
      | false => rw [hb] at he; cases he
      | true =>
        rw [hb] at he
        simp only [cond_true] at he
        split at he
        · rename_i h
          subst h
          split at he
          · simp at he
            rw [← he.1]
            simp only [V] at hV
            have := hV.1
            exact Nat.le_trans (List.length_take_le _ _) this
          · cases he
        · cases he
    | _ => rw [hg] at he; cases he
  | _ => simp [elems] at he
theorem elems_sound {t : Ty} {c : AV} {ys : List t.den} {rd : List Nat} (he : elems get t c = some (ys, rd)) {get' : Nat → AObj} (hget : ∀ l, l ∈ rd → get' l = get l) (hW : WInv own φ β get' w) {u : Value} (hV : V φ β w c u) :
    ∃ news, Src P φ w t ys u news := by
  cases c with
  | hc l o n k => exact elems_sound0 (c := .hs l o n) (fun _ _ _ _ h => by cases h) he hget hW hV.hc_hs
  | _ => exact elems_sound0 (fun _ _ _ _ h => by cases h) he hget hW hV
theorem elems_max {t : Ty} {c : AV} {ys : List t.den} {rd : List Nat} (he : elems get t c = some (ys, rd)) {get' : Nat → AObj} (hget : ∀ l, l ∈ rd → get' l = get l) (hW : WInv own φ β get' w) {u : Value} (hV : V φ β w c u) : ys.length ≤ maxL := by
  cases c with
  | hc l o n k => exact elems_max0 (c := .hs l o n) (fun _ _ _ _ h => by cases h) he hget hW hV.hc_hs
  | _ => exact elems_max0 (fun _ _ _ _ h => by cases h) he hget hW hV
theorem log_vl {l : Nat} {t : Ty} {xs : List t.den} (hrel : ObjRel φ β w l (.log t xs)) {u : Value} (hV : V φ β w (.hw l) u) : Vt φ w (.sl t) xs [u] := by
  rcases hb : β l with _ | (_ | p)
  · simp only [V, hb] at hV
  · simp only [V, hb] at hV
    simp only [ObjRel, hb] at hrel
    obtain ⟨A, rfl⟩ := hV
    subst hrel
    exact ⟨Nat.zero_le _, A, 0, rfl, Nat.le_refl _, fun i x hx => by simp at hx⟩
  · simp only [V, hb] at hV
    simp only [ObjRel, hb] at hrel
    obtain ⟨cap, rfl, hcap, _, _⟩ := hV
    obtain ⟨h1, h2, h3, h4, h5, h6, h7⟩ := hrel
    simp only [Vt]
    refine ⟨by omega, some ⟨p.block, p.off, none⟩, cap, by rw [h2], by omega, fun i x hx => ?_⟩
    obtain ⟨ds, g1, g2⟩ := h7 i x hx
    have hi : i < p.len := by rw [h2]; exact (List.getElem?_eq_some_iff.1 hx).1
    have hle : (i + 1) * t.sz ≤ p.len * t.sz := Nat.mul_le_mul_right _ hi
    rw [Nat.add_mul] at hle
    have hdl := Vt.length _ _ _ g1
    refine ⟨⟨p.block, p.off, none⟩, ds, rfl, rfl, g1, fun j v hj => ⟨g2 j v hj, ?_⟩⟩
    have hjl := (List.getElem?_eq_some_iff.1 hj).1
    simp only
    rw [h4]
    omega
theorem closeV_V {get get' : Nat → AObj} {c : AV} (hget : ∀ l, l ∈ c.locs → get' l = get l) (hW : ∀ l, ObjRel φ β w l (get' l)) {u : Value} (h : V φ β w c u) : V φ β w (closeV get c) u := by
  unfold closeV
  split
  · rename_i l
    split
    · rename_i t xs hg
      have := hW l
      rw [hget l (by simp [AV.locs]), hg] at this
      simp only [V]
      exact log_vl this h
    · exact h
  · exact h
theorem closeVs_V {get get' : Nat → AObj} : ∀ {cs : List AV}, (∀ l, l ∈ locsL cs → get' l = get l) → (∀ l, ObjRel φ β w l (get' l)) → ∀ {us : List Value}, VL φ β w cs us → VL φ β w (cs.map (closeV get)) us
  | [], _, _, us, h => h
  | c :: cs, hget, hW, us, h => by
    simp only [VL, List.map_cons] at h ⊢
    obtain ⟨u, us', rfl, h1, h2⟩ := h
    exact ⟨u, us', rfl, closeV_V (fun l hl => hget l (by simp [locsL, hl])) hW h1, closeVs_V (fun l hl => hget l (by simp [locsL, hl])) hW h2⟩
theorem closeA_V {get get' : Nat → AObj} {c : AV} (hget : ∀ l, l ∈ c.locs → get' l = get l) (hW : ∀ l, ObjRel φ β w l (get' l)) {u : Value} (h : V φ β w c u) : V φ β w (closeA get c) u := by
  cases c with
  | agg cs =>
    simp only [closeA, V] at h ⊢
    obtain ⟨vs, rfl, h⟩ := h
    exact ⟨vs, rfl, closeVs_V (fun l hl => hget l (by simpa [AV.locs] using hl)) hW h⟩
  | _ => exact closeV_V hget hW h
theorem closeL_V {get get' : Nat → AObj} : ∀ {cs : List AV}, (∀ l, l ∈ locsL cs → get' l = get l) → (∀ l, ObjRel φ β w l (get' l)) → ∀ {us : List Value}, VL φ β w cs us → VL φ β w (closeL get cs) us
  | [], _, _, us, h => h
  | c :: cs, hget, hW, us, h => by
    simp only [VL, closeL] at h ⊢
    obtain ⟨u, us', rfl, h1, h2⟩ := h
    exact ⟨u, us', rfl, closeA_V (fun l hl => hget l (by simp [locsL, hl])) hW h1, closeL_V (fun l hl => hget l (by simp [locsL, hl])) hW h2⟩
end
end Go.Sim
