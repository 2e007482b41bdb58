/-
  SimA: the words of an abstract machine over the model's code: typed values, abstract values and objects, and the evaluation of operations. No theorem on programs.
-/
import Derived.Orders
namespace Go.Sim
set_option linter.unusedSectionVars false

/-- Kinds of data that are told as Lean data. -/
inductive Ty where
  | bool
  | int (k : IntKind)
  | str
  | sl (e : Ty)
  | pair (a b : Ty)
  deriving DecidableEq

@[reducible] def Ty.den : Ty → Type
  | .bool => Bool
  | .int _ => Int
  | .str => List UInt8
  | .sl e => List e.den
  | .pair a b => a.den × b.den

def Ty.sz : Ty → Nat
  | .pair a b => a.sz + b.sz
  | _ => 1

def Ty.zero : (t : Ty) → t.den
  | .bool => false
  | .int _ => (0 : Int)
  | .str => ([] : List UInt8)
  | .sl _ => []
  | .pair a b => (a.zero, b.zero)

/-- An element of an object: of its typed front, or of its tail that is written out. -/
inductive Elt where
  | ty (i : Nat)
  | tl (p : Nat)

/-- Abstract values. -/
inductive AV where
  | bool (b : Bool)
  | int (k : IntKind) (n : Int)
  | str (s : List UInt8)
  | nilp
  | ptr (l : Nat) (e : Elt) (j : Nat)
  | eptr (cs : List AV)
  | vl (t : Ty) (xs : List t.den)
  | ap (t : Ty) (xs : List t.den)
  | nils
  | hw (l : Nat)
  | hs (l off len : Nat)
  | agg (cs : List AV)
  | tup (vs : List AV)
  | iface (t : TypeId) (v : AV)
  | nilif
  | fn (f : Fn) (first cap : List AV)
  | mp (l : Nat)
  | it (l : Nat)
  | undef

/-- Abstract objects. -/
inductive AObj where
  | arr (sz : Nat) (t : Ty) (xs : List t.den) (tail : List (List AV))
  | map (kt vt : Ty) (es : List (kt.den × vt.den))
  | siter (s : List UInt8) (pos : Nat)
  | dead

def enc : (t : Ty) → t.den → List AV
  | .bool, b => [.bool b]
  | .int k, n => [.int k n]
  | .str, s => [.str s]
  | .sl e, xs => [.vl e xs]
  | .pair a b, x => enc a x.1 ++ enc b x.2

def asVl (t : Ty) : AV → Option (List t.den)
  | .vl t' xs => if h : t' = t then some (h ▸ xs) else none
  | .nils => some []
  | _ => none

def dec : (t : Ty) → List AV → Option t.den
  | .bool, [.bool b] => some b
  | .int k, [.int k' n] => if k = k' then some n else none
  | .str, [.str s] => some s
  | .sl e, [v] => asVl e v
  | .pair a b, cs => (dec a (cs.take a.sz)).bind fun x => (dec b (cs.drop a.sz)).bind fun y => some (x, y)
  | _, _ => none

def decAll (t : Ty) : List (List AV) → Option (List t.den)
  | [] => some []
  | c :: cs => (dec t c).bind fun x => (decAll t cs).bind fun xs => some (x :: xs)

/-- What a type is, as far as the machine asks. -/
inductive Row where
  | flat                              -- one cell, no more is asked
  | int (k : IntKind)
  | bool
  | str
  | struct (fs : List (Nat × Nat)) (eq : List Ty)    -- each field's offset and size; eq: what they are, if all are numbers, bools, strings, in a row (else nothing)
  | slice (e : TypeId)
  | ptr (e : TypeId)
  | map (k v : TypeId)
  | iface
  | array (n : Nat) (e : TypeId)
structure TRow where
  kind : Row
  size : Nat
  bytes : Nat
  zero : List AV

/-- What is known of a function that is called. -/
inductive Con where
  | none
  | pure (G : List AV → List (Bool × AV))
  | eff (F : List AV → List AObj → List (Bool × AV × List AObj))

/-- Words to the machine, keyed by the slot that an operation writes, by a region's number: they choose how things are told, never what is true. -/
structure Hint where
  nt : Nat                               -- how many slots the frame has
  vs : List Nat := []                    -- a row that is written to this slot is told as a value from then on
  nh : List (Nat × TypeId) := []         -- a nil slice (of this element type) that is written to this slot is told as an empty object
  join : List (Nat × Nat) := []          -- a region whose one outcome is the Bool in this slot
  loops : List (Nat × List Nat) := []    -- by the first region of a loop's body: the slots that live at its head and behind it

structure Env where
  rows : List (TypeId × TRow)
  ty : List (TypeId × Ty)
  con : FuncId → Con
  glob : List (Nat × AV) := []

def lk {β : Type} (d : β) : List (Nat × β) → Nat → β
  | [], _ => d
  | (k, v) :: r, i => cond (Nat.beq k i) v (lk d r i)
def lk? {β : Type} : List (Nat × β) → Nat → Option β
  | [], _ => none
  | (k, v) :: r, i => cond (Nat.beq k i) (some v) (lk? r i)
def has : List Nat → Nat → Bool
  | [], _ => false
  | k :: r, i => cond (Nat.beq k i) true (has r i)

def Env.row (E : Env) (t : TypeId) : Option TRow := lk? E.rows t
def Env.tyOf (E : Env) (t : TypeId) : Option Ty := lk? E.ty t

abbrev Slots := List (Nat × AV)
abbrev Objs := List (Nat × AObj)

def cst : Value → AV
  | .bool b => .bool b
  | .int k n => cond (decide (k.min ≤ n) && decide (n ≤ k.max)) (.int k n) .undef
  | .string s => cond (Nat.ble s.size 9223372036854775807) (.str s.data.toList) .undef
  | .pointer none => .nilp
  | .slice none 0 0 => .nils
  | .nilIface => .nilif
  | _ => .undef

def operand (E : Env) (s : Slots) : Operand → AV
  | .tmp t => lk .undef s t
  | .const v => cst v
  | .global g => lk .undef E.glob g
  | .func f => .fn (.func f) [] []

def AV.cells : AV → List AV
  | .agg cs => cs
  | .undef => []
  | v => [v]
/-- A value of one cell. -/
def AV.solid : AV → Bool
  | .undef => false
  | .agg _ => false
  | .tup _ => false
  | _ => true
def solidL : List AV → Bool
  | [] => true
  | c :: cs => c.solid && solidL cs

/-- 'i' behind 'o' others. -/
def offAdd : Nat → Nat → Nat
  | 0, i => i
  | o + 1, i => o + 1 + i
def alen {t : Ty} (xs : List t.den) : List (List AV) → Nat
  | [] => xs.length
  | c :: cs => match xs with
    | [] => (c :: cs).length
    | _ => xs.length + (c :: cs).length

/-- An element's cells. -/
def eltCells (t : Ty) (xs : List t.den) (tail : List (List AV)) : Elt → List AV
  | .ty i => enc t (xs.getD i t.zero)
  | .tl p => tail.getD p []

/-- Cells as one value of a type. -/
def whole (isAgg : Bool) (cs : List AV) : Option AV :=
  cond isAgg (some (.agg cs)) (match cs with | [c] => some c | _ => none)

def Row.isAgg : Row → Bool
  | .struct _ _ => true
  | .array _ _ => true
  | _ => false

/-- Some cells written over others, from j on. -/
def splice (cs : List AV) (j : Nat) (vs : List AV) : List AV := cs.take j ++ vs ++ cs.drop (j + vs.length)

def fillC (place : Nat → Option (Nat × Nat)) (cells : List AV) : List (Nat × AV) → Option (List AV)
  | [] => some cells
  | (i, v) :: rest =>
    match place i with
    | none => none
    | some (off, size) => cond (Nat.blt 0 size && Nat.beq v.cells.length size && Nat.ble (off + size) cells.length) (fillC place (splice cells off v.cells) rest) none

/-- Are two lists of plain cells one? -/
def eqCells : List Ty → List AV → List AV → Option Bool
  | [], [], [] => some true
  | .bool :: ts, .bool a :: r, .bool b :: s => (eqCells ts r s).bind fun q => some ((a == b) && q)
  | .int k :: ts, .int k1 a :: r, .int k2 b :: s => cond (decide (k1 = k) && decide (k2 = k)) ((eqCells ts r s).bind fun q => some ((a == b) && q)) none
  | .str :: ts, .str a :: r, .str b :: s => (eqCells ts r s).bind fun q => some ((a == b) && q)
  | _, _, _ => none

def strLess : List UInt8 → List UInt8 → Bool
  | _, [] => false
  | [], _ :: _ => true
  | a :: x, b :: y => a < b || (a == b && strLess x y)

def intBits (op : BinOp) (k : IntKind) (x y : Int) : Option Int :=
  match op with
  | .and => some (k.wrap (BitVec.ofInt k.bits x &&& BitVec.ofInt k.bits y).toNat)
  | .or => some (k.wrap (BitVec.ofInt k.bits x ||| BitVec.ofInt k.bits y).toNat)
  | .xor => some (k.wrap (BitVec.ofInt k.bits x ^^^ BitVec.ofInt k.bits y).toNat)
  | .andNot => some (k.wrap (BitVec.ofInt k.bits x &&& ~~~BitVec.ofInt k.bits y).toNat)
  | _ => none

mutual
def AV.locs : AV → List Nat
  | .ptr l _ _ => [l]
  | .eptr cs => locsL cs
  | .hw l => [l]
  | .hs l _ _ => [l]
  | .agg cs => locsL cs
  | .tup vs => locsL vs
  | .iface _ v => v.locs
  | .fn _ first cap => locsL first ++ locsL cap
  | .mp l => [l]
  | .it l => [l]
  | _ => []
def locsL : List AV → List Nat
  | [] => []
  | c :: cs => c.locs ++ locsL cs
end

mutual
def AV.ren (f : Nat → Option Nat) : AV → AV
  | .ptr l e j => match f l with | some m => .ptr m e j | none => .undef
  | .eptr cs => .eptr (renL f cs)
  | .hw l => match f l with | some m => .hw m | none => .undef
  | .hs l o n => match f l with | some m => .hs m o n | none => .undef
  | .agg cs => .agg (renL f cs)
  | .tup vs => .tup (renL f vs)
  | .iface t v => .iface t (v.ren f)
  | .fn g first cap => .fn g (renL f first) (renL f cap)
  | .mp l => match f l with | some m => .mp m | none => .undef
  | .it l => match f l with | some m => .it m | none => .undef
  | v => v
def renL (f : Nat → Option Nat) : List AV → List AV
  | [] => []
  | c :: cs => c.ren f :: renL f cs
end

def renLL (f : Nat → Option Nat) : List (List AV) → List (List AV)
  | [] => []
  | c :: cs => renL f c :: renLL f cs
def locsLL : List (List AV) → List Nat
  | [] => []
  | c :: cs => locsL c ++ locsLL cs
def AObj.locs : AObj → List Nat
  | .arr _ _ _ tail => locsLL tail
  | _ => []
def AObj.ren (f : Nat → Option Nat) : AObj → AObj
  | .arr sz t xs tail => .arr sz t xs (renLL f tail)
  | o => o

/-- The objects that can be come to, in the order in which they are met. -/
def reach (get : Nat → AObj) : Nat → List Nat → List Nat → List Nat
  | 0, _, acc => acc
  | _, [], acc => acc
  | k + 1, l :: r, acc => cond (has acc l) (reach get k r acc) (reach get k ((get l).locs ++ r) (acc ++ [l]))

def idx : List Nat → Nat → Nat → Option Nat
  | [], _, _ => none
  | m :: r, i, l => cond (Nat.beq m l) (some i) (idx r (i + 1) l)
def nodupB : List Nat → Bool
  | [] => true
  | m :: r => !has r m && nodupB r

/-- Objects in a row, numbered from 0 on. -/
def numbered {β : Type} : Nat → List β → List (Nat × β)
  | _, [] => []
  | i, x :: r => (i, x) :: numbered (i + 1) r

def reachFuel : Nat := 200

/-- The first k are k in a row. -/
def startsNum : Nat → Nat → List Nat → Bool
  | 0, _, _ => true
  | k + 1, i, l :: r => Nat.beq l i && startsNum k (i + 1) r
  | _ + 1, _, [] => false

/-- The number behind the call of what had number i in it. -/
def backI (ls : List Nat) (nx : Nat) (n : Nat) (i : Nat) : Option Nat :=
  cond (Nat.blt i ls.length) (ls[i]?) (cond (Nat.blt i n) (some (nx + (i - ls.length))) none)
def allBelow : List Nat → Nat → Bool
  | [], _ => true
  | l :: r, n => Nat.blt l n && allBelow r n
mutual
def AV.closed : AV → Bool
  | .ptr _ _ _ => false
  | .eptr cs => closedL cs
  | .hw _ => false
  | .hs _ _ _ => false
  | .agg cs => closedL cs
  | .tup vs => closedL vs
  | .iface _ v => v.closed
  | .fn _ first cap => closedL first && closedL cap
  | .mp _ => false
  | .it _ => false
  | _ => true
def closedL : List AV → Bool
  | [] => true
  | c :: cs => c.closed && closedL cs
end
/-- The first of several ways that is open. -/
def pick {α : Type} : List (Bool × α) → Option α
  | [] => none
  | (c, v) :: r => cond c (some v) (pick r)

section
variable {R : Type}

def binK (op : BinOp) (x y : AV) (K : AV → Option R) : Option R :=
  match x, y with
  | .int k a, .int k' b =>
    match op with
    | .shl => cond (decide (b < 0)) none (K (.int k (k.wrap (a * 2 ^ (min b.toNat k.bits)))))
    | .shr => cond (decide (b < 0)) none (K (.int k (a.fdiv (2 ^ (min b.toNat k.bits)))))
    | _ =>
    cond (decide (k = k')) (match op with
      | .add => K (.int k (k.wrap (a + b)))
      | .sub => K (.int k (k.wrap (a - b)))
      | .mul => K (.int k (k.wrap (a * b)))
      | .quo => cond (decide (b = 0)) none (K (.int k (k.wrap (a.tdiv b))))
      | .rem => cond (decide (b = 0)) none (K (.int k (a.tmod b)))
      | .eql => K (.bool (a == b))
      | .neq => K (.bool (a != b))
      | .lss => K (.bool (decide (a < b)))
      | .leq => K (.bool (decide (a ≤ b)))
      | .gtr => K (.bool (decide (a > b)))
      | .geq => K (.bool (decide (a ≥ b)))
      | _ => (intBits op k a b).bind fun n => K (.int k n)) none
  | .str a, .str b =>
    match op with
    | .add => cond (decide (a.length + b.length ≤ 9223372036854775807)) (K (.str (a ++ b))) none
    | .eql => K (.bool (a == b))
    | .neq => K (.bool (!(a == b)))
    | .lss => K (.bool (strLess a b))
    | .leq => K (.bool (strLess a b || (a == b)))
    | .gtr => K (.bool (!(strLess a b || (a == b))))
    | .geq => K (.bool (!strLess a b))
    | _ => none
  | _, _ => none

def unK (op : UnOp) (x : AV) (K : AV → Option R) : Option R :=
  match op, x with
  | .neg, .int k n => K (.int k (k.wrap (0 - n)))
  | .xor, .int k n => K (.int k (k.wrap (BitVec.ofInt k.bits (if k.signed then -1 else k.max) ^^^ BitVec.ofInt k.bits n).toNat))
  | .not, .bool b => K (.bool (!b))
  | _, _ => none

/-- Which of the tail's elements has this number? -/
def tlK (m : Nat) (K : Nat → Option R) : Nat → List (List AV) → Option R
  | _, [] => none
  | p, _ :: r => cond (decide (m = p)) (K p) (tlK m K (p + 1) r)

/-- The place of element number m of an object. -/
def placeK (l : Nat) {t : Ty} (xs : List t.den) (tail : List (List AV)) (m : Nat) (K : AV → Option R) : Option R :=
  match tail with
  | [] => K (.ptr l (.ty m) 0)
  | c :: cs => match xs with
    | [] => tlK m (fun p => K (.ptr l (.tl p) 0)) 0 (c :: cs)
    | _ => cond (decide (m < xs.length)) (K (.ptr l (.ty m) 0)) (tlK (m - xs.length) (fun p => K (.ptr l (.tl p) 0)) 0 (c :: cs))

def bytesOf (s : List UInt8) : List Int := s.map fun b => (b.toNat : Int)
def ofBytes (l : List Int) : List UInt8 := l.map fun n => UInt8.ofNat n.toNat

/-- The elements of a row, as data of type t. -/
def elems (get : Nat → AObj) (t : Ty) : AV → Option (List t.den × List Nat)
  | .nils => some ([], [])
  | .vl t' xs => if h : t' = t then some (h ▸ xs, []) else none
  | .hw l => match get l with
    | .arr sz t' xs tail => cond (Nat.beq sz t.sz) (if h : t' = t then (match tail with | [] => some (h ▸ xs, [l]) | c :: cs => (decAll t (c :: cs)).bind fun ys => some ((h ▸ xs) ++ ys, [l])) else
        (match xs with | [] => (decAll t tail).bind fun ys => some (ys, [l]) | _ => none)) none
    | _ => none
  | .hs l o n => match get l with
    | .arr sz t' xs tail => cond (Nat.beq sz t.sz) (if h : t' = t then (match tail with | [] => some ((xs.drop o).take n |> (h ▸ ·), [l]) | _ => none) else none) none
    | _ => none
  | .str s => if h : t = .int .u8 then some (h ▸ bytesOf s, []) else none
  | _ => none

def lowHigh (n : Nat) (lo hi : Option AV) (K : Option Nat → Option Nat → Option R) : Option R :=
  match lo, hi with
  | none, none => K none none
  | some (.int _ a), none => cond (decide (0 ≤ a) && decide (a ≤ (n : Int))) (K (some a.toNat) none) none
  | none, some (.int _ b) => cond (decide (0 ≤ b) && decide (b ≤ (n : Int))) (K none (some b.toNat)) none
  | some (.int _ a), some (.int _ b) => cond (decide (0 ≤ b) && decide (b ≤ (n : Int))) (cond (decide (0 ≤ a) && decide (a ≤ b)) (K (some a.toNat) (some b.toNat)) none) none
  | _, _ => none

def cutL {α : Type} (xs : List α) : Option Nat → Option Nat → List α
  | none, none => xs
  | some a, none => xs.drop a
  | none, some b => xs.take b
  | some a, some b => (xs.take b).drop a
def cutOff (o : Nat) : Option Nat → Nat
  | none => o
  | some a => offAdd o a
def cutLen (n : Nat) : Option Nat → Option Nat → Nat
  | none, none => n
  | some a, none => n - a
  | none, some b => b
  | some a, some b => b - a

/-- Which entry of a map's has a key. -/
def keyEq : (t : Ty) → t.den → t.den → Bool
  | .bool, a, b => a == b
  | .int _, a, b => a == b
  | .str, a, b => a == b
  | _, _, _ => false
def mget {kt vt : Ty} (k : kt.den) : List (kt.den × vt.den) → Option vt.den
  | [] => none
  | e :: es => cond (keyEq kt k e.1) (some e.2) (mget k es)
def mset {kt vt : Ty} (k : kt.den) (v : vt.den) : List (kt.den × vt.den) → List (kt.den × vt.den)
  | [] => [(k, v)]
  | e :: es => cond (keyEq kt k e.1) ((k, v) :: es) (e :: mset k v es)
def mdel {kt vt : Ty} (k : kt.den) : List (kt.den × vt.den) → List (kt.den × vt.den)
  | [] => []
  | e :: es => cond (keyEq kt k e.1) es (e :: mdel k es)
def isTy (a : Option Ty) (b : Ty) : Bool := match a with
  | some c => decide (c = b)
  | none => false
/-- Does a value lie in a map's entry as it lies in cells? -/
def aggOk (c : AV) (n : Nat) : Bool := match c with
  | .agg _ => Nat.blt 1 n
  | _ => true
def okKey : Ty → Bool
  | .bool => true
  | .int _ => true
  | .str => true
  | _ => false

/-- What an operation comes to: its value, what it makes of objects, which objects it looked at, the next free number. -/
abbrev Kont (R : Type) := AV → List (Nat × AObj) → List Nat → Nat → Option R

def sliceK (get : Nat → AObj) (sz : Nat) (x : AV) (lo hi mx : Option AV) (K : AV → List Nat → Option R) : Option R :=
  match mx with
  | some m => match lo, hi, m, x with
    | none, some (.int _ 0), .int _ 0, .vl _ _ => K .nils []
    | none, some (.int _ 0), .int _ 0, .hw l => K .nils [l]
    | none, some (.int _ 0), .int _ 0, .hs l _ _ => K .nils [l]
    | none, some (.int _ 0), .int _ 0, .nils => K .nils []
    | none, some (.int _ a), .int _ b, .vl t xs => cond (Nat.beq t.sz sz && decide (0 ≤ a) && decide (a = b) && decide (b ≤ (xs.length : Int))) (K (.vl t (xs.take a.toNat)) []) none
    | _, _, _, _ => none
  | none => match x with
    | .vl t xs => cond (Nat.beq t.sz sz) (lowHigh xs.length lo hi fun a b => K (.vl t (cutL xs a b)) []) none
    | .nils => lowHigh 0 lo hi fun _ _ => K .nils []
    | .hw l => match get l with
      | .arr sz' _ xs tail => cond (Nat.beq sz' sz) (lowHigh (alen xs tail) lo hi fun a b => K (match a, b with | none, none => .hw l | _, _ => .hs l (cutOff 0 a) (cutLen (alen xs tail) a b)) [l]) none
      | _ => none
    | .hs l o n => match get l with
      | .arr sz' _ _ _ => cond (Nat.beq sz' sz) (lowHigh n lo hi fun a b => K (.hs l (cutOff o a) (cutLen n a b)) [l]) none
      | _ => none
    | _ => none

/-- 'append' of elements to a row of the call's own. -/
def appendK (E : Env) (get : Nat → AObj) (nx : Nat) (elem : TypeId) (base src : AV) (K : Kont R) : Option R :=
  match E.row elem, E.tyOf elem with
  | some rw, some t =>
    cond (Nat.blt 0 rw.bytes) (match base with
    | .nils => (elems get t src).bind fun (ys, rd) =>
        match ys with
        | [] => K .nils [] rd nx
        | _ => cond (decide (ys.length * rw.bytes ≤ 140737488355328)) (K (.hw nx) [(nx, .arr rw.size t ys [])] rd (nx + 1)) none
    | .hw l => (elems get t base).bind fun (xs, _) => (elems get t src).bind fun (ys, rd) =>
        cond (decide ((xs ++ ys).length * rw.bytes ≤ 140737488355328)) (K (.hw nx) [(nx, .arr rw.size t (xs ++ ys) []), (l, .dead)] (l :: rd) (nx + 1)) none
    | _ => none) none
  | _, _ => none

def pickK {α : Type} (K : α → Option R) : List (Bool × α) → Option R
  | [] => none
  | (c, v) :: r => cond c (K v) (pickK K r)

/-- What a call leaves of the objects that it was told of, and what it made. -/
def patch (ls : List Nat) (nx : Nat) (objs : List AObj) : List (Nat × AObj) :=
  (List.range objs.length).filterMap fun i => (backI ls nx objs.length i).bind fun m => (objs[i]?).map fun o => (m, o.ren (backI ls nx objs.length))

def callK (E : Env) (get : Nat → AObj) (n : FuncId) (args : List AV) (nx : Nat) (K : Kont R) : Option R :=
  match E.con n with
  | .pure G => cond (closedL args) (pickK (fun r => cond r.closed (K r [] [] nx) none) (G args)) none
  | .eff F => (fun ls => cond (nodupB ls && allBelow ls nx)
      (pickK (fun r => cond (Nat.ble ls.length r.2.length) (K (r.1.ren (backI ls nx r.2.length)) (patch ls nx r.2) ls (nx + (r.2.length - ls.length))) none)
        (F (renL (idx ls 0) args) (ls.map fun l => (get l).ren (idx ls 0)))) none) (reach get reachFuel (locsL args) [])
  | _ => none

def evalOp (E : Env) (get : Nat → AObj) (nx : Nat) (ρ : Operand → AV) (o : Oper) (K : Kont R) : Option R :=
  match o.op with
  | .move x => K (ρ x) [] [] nx
  | .assign x => K (ρ x) [] [] nx
  | .pick c a b => match ρ c with
    | .bool q => cond q (K (ρ a) [] [] nx) (K (ρ b) [] [] nx)
    | _ => none
  | .alloc t => (E.row t).bind fun rw => K (.ptr nx (.tl 0) 0) [(nx, .arr rw.size .bool [] [rw.zero])] [] (nx + 1)
  | .box t x => (E.row t).bind fun rw => cond (Nat.blt 0 rw.size && Nat.beq (ρ x).cells.length rw.size) (K (.ptr nx (.tl 0) 0) [(nx, .arr rw.size .bool [] [(ρ x).cells])] [] (nx + 1)) none
  | .build t parts => (E.row t).bind fun rw => match rw.kind with
    | .struct fs _ => (fillC (fun i => fs[i]?) rw.zero (parts.toList.map fun p => (p.1, ρ p.2))).bind fun cs => K (.agg cs) [] [] nx
    | _ => none
  | .buildSlice t len parts => (E.row t).bind fun rw => match rw.kind with
    | .slice e => (E.row e).bind fun re =>
      cond (Nat.ble (len * re.size) 16777216 && Nat.ble len 16777216) ((fillC (fun i => some (i * re.size, re.size)) (List.replicate len re.zero).flatten (parts.toList.map fun p => (p.1, ρ p.2))).bind fun cs =>
        K (.hw nx) [(nx, .arr re.size .bool [] ((List.range len).map fun i => (cs.drop (i * re.size)).take re.size))] [] (nx + 1)) none
    | _ => none
  | .load t x => (E.row t).bind fun rw => match ρ x with
    | .ptr l e j => match get l with
      | .arr _ ty xs tail => let cs := ((eltCells ty xs tail e).drop j).take rw.size
          cond (Nat.beq cs.length rw.size) ((whole rw.kind.isAgg cs).bind fun v => K v [] [l] nx) none
      | _ => none
    | .eptr cs0 => let cs := cs0.take rw.size
          cond (Nat.beq cs.length rw.size) ((whole rw.kind.isAgg cs).bind fun v => K v [] [] nx) none
    | _ => none
  | .store t x y => (E.row t).bind fun rw => cond (Nat.blt 0 rw.size && Nat.beq (ρ y).cells.length rw.size && solidL (ρ y).cells) (match ρ x with
    | .ptr l e j => match get l with
      | .arr sz ty xs tail => match e with
        | .tl p => let old := tail.getD p []
            cond (Nat.ble (j + rw.size) old.length) (K .undef [(l, .arr sz ty xs (tail.set p (splice old j (ρ y).cells)))] [l] nx) none
        | .ty i => let old := enc ty (xs.getD i ty.zero)
            cond (Nat.ble (j + rw.size) old.length) ((dec ty (splice old j (ρ y).cells)).bind fun v => K .undef [(l, .arr sz ty (xs.set i v) tail)] [l] nx) none
      | _ => none
    | _ => none) none
  | .nilCheck x => match ρ x with
    | .ptr l e j => K (.ptr l e j) [] [] nx
    | .eptr cs => K (.eptr cs) [] [] nx
    | _ => none
  | .binOp op t x y _ => match ρ x with
    | .agg cs => (E.row t).bind fun rw => match rw.kind with
      | .struct _ (k :: ks) => match ρ y, op with
        | .agg ds, .eql => (eqCells (k :: ks) cs ds).bind fun q => K (.bool q) [] [] nx
        | .agg ds, .neq => (eqCells (k :: ks) cs ds).bind fun q => K (.bool (!q)) [] [] nx
        | _, _ => none
      | _ => none
    | .bool a => (E.row t).bind fun rw => match rw.kind, ρ y, op with
      | .bool, .bool b, .eql => K (.bool (a == b)) [] [] nx
      | .bool, .bool b, .neq => K (.bool (!(a == b))) [] [] nx
      | _, _, _ => none
    | .nilp => (E.row t).bind fun rw => match rw.kind, ρ y, op with
      | .ptr _, .nilp, .eql => K (.bool true) [] [] nx
      | .ptr _, .nilp, .neq => K (.bool false) [] [] nx
      | .ptr _, .ptr _ _ _, .eql => K (.bool false) [] [] nx
      | .ptr _, .ptr _ _ _, .neq => K (.bool true) [] [] nx
      | _, _, _ => none
    | .ptr _ _ _ => (E.row t).bind fun rw => match rw.kind, ρ y, op with
      | .ptr _, .nilp, .eql => K (.bool false) [] [] nx
      | .ptr _, .nilp, .neq => K (.bool true) [] [] nx
      | _, _, _ => none
    | a => binK op a (ρ y) fun v => K v [] [] nx
  | .unOp op _ x => unK op (ρ x) fun v => K v [] [] nx
  | .convert src dst x => (E.row src).bind fun rs => (E.row dst).bind fun rd => match rs.kind, rd.kind, ρ x with
    | .int _, .int k, .int _ n => K (.int k (k.wrap n)) [] [] nx
    | .str, .str, .str s => K (.str s) [] [] nx
    | .str, .slice e, .str s => (E.row e).bind fun re => match re.kind with
      | .int .u8 => K (.vl (.int .u8) (bytesOf s)) [] [] nx
      | _ => none
    | .slice e, .str, v => (E.row e).bind fun re => match re.kind, v with
      | _, .str _ => none
      | .int .u8, v => (elems get (.int .u8) v).bind fun (xs, rdl) => K (.str (ofBytes xs)) [] rdl nx
      | _, _ => none
    | .int _, .str, .int _ n => cond (Nat.ble (Utf8.encode n).data.toList.length 4) (K (.str (Utf8.encode n).data.toList) [] [] nx) none
    | _, _, _ => none
  | .makeInterface t x => (E.row t).bind fun rw => match rw.kind with
    | .iface => none
    | _ => K (.iface t (ρ x)) [] [] nx
  | .makeFunc f first cap => K (.fn f (first.toList.map ρ) (cap.toList.map ρ)) [] [] nx
  | .makeMap t none => (E.row t).bind fun rw => match rw.kind with
    | .map k v => (E.tyOf k).bind fun kt => (E.tyOf v).bind fun vt => cond (okKey kt) (K (.mp nx) [(nx, .map kt vt [])] [] (nx + 1)) none
    | _ => none
  | .makeSlice t l c => (E.row t).bind fun rw => match rw.kind with
    | .slice e => (E.row e).bind fun re => (E.tyOf e).bind fun te => match ρ l, ρ c with
      | .int .i64 n, .int .i64 m => cond (decide (0 ≤ n) && decide (n = m) && decide (n.toNat * re.bytes ≤ 140737488355328) && decide (n ≤ 9223372036854775807))
          (K (.hw nx) [(nx, .arr re.size te (List.replicate n.toNat te.zero) [])] [] (nx + 1)) none
      | _, _ => none
    | _ => none
  | .slice t x lo hi mx => (E.row t).bind fun rw => match rw.kind with
    | .str => match ρ x, mx with
      | .str s, none => lowHigh s.length (lo.map ρ) (hi.map ρ) fun a b => K (.str (cutL s a b)) [] [] nx
      | _, _ => none
    | .slice e => (E.row e).bind fun re => sliceK get re.size (ρ x) (lo.map ρ) (hi.map ρ) (mx.map ρ) fun v rd => K v [] rd nx
    | _ => none
  | .fieldAddr t x f => (E.row t).bind fun rw => match rw.kind with
    | .struct fs _ => (fs[f]?).bind fun p => match ρ x with
      | .ptr l e j => K (.ptr l e (j + p.1)) [] [] nx
      | .eptr cs => K (.eptr (cs.drop p.1)) [] [] nx
      | _ => none
    | _ => none
  | .field t x f => (E.row t).bind fun rw => match rw.kind with
    | .struct fs _ => (fs[f]?).bind fun p => match ρ x with
      | .agg cs => cond (Nat.ble (p.1 + p.2) cs.length) (match p.2 with | 1 => (match cs.drop p.1 with | c :: _ => K c [] [] nx | _ => none) | n => K (.agg ((cs.drop p.1).take n)) [] [] nx) none
      | _ => none
    | _ => none
  | .indexAddr t x i => (E.row t).bind fun rw => match rw.kind with
    | .slice e => (E.row e).bind fun re => match ρ i with
      | .int _ n => match ρ x with
        | .vl t xs => cond (Nat.beq t.sz re.size) (cond (decide (0 ≤ n) && decide (n < (xs.length : Int))) (K (.eptr (enc t (xs.getD n.toNat t.zero))) [] [] nx) none) none
        | .hw l => match get l with
          | .arr sz _ xs tail => cond (Nat.beq sz re.size) (cond (decide (0 ≤ n) && decide (n < (alen xs tail : Int))) (placeK l xs tail n.toNat fun v => K v [] [l] nx) none) none
          | _ => none
        | .hs l o m => match get l with
          | .arr sz _ xs tail => cond (Nat.beq sz re.size) (cond (decide (0 ≤ n) && decide (n < (m : Int))) (placeK l xs tail (offAdd o n.toNat) fun v => K v [] [l] nx) none) none
          | _ => none
        | _ => none
      | _ => none
    | .array m e => (E.row e).bind fun re => match ρ i with
      | .int _ n => match ρ x with
        | .ap t xs => cond (Nat.beq t.sz re.size && Nat.beq m xs.length) (cond (decide (0 ≤ n) && decide (n < (xs.length : Int))) (K (.eptr (enc t (xs.getD n.toNat t.zero))) [] [] nx) none) none
        | _ => none
      | _ => none
    | _ => none
  | .index t x i => (E.row t).bind fun rw => match rw.kind, ρ i, ρ x with
    | .str, .int _ n, .str s => cond (decide (0 ≤ n) && decide (n < (s.length : Int))) (K (.int .u8 ((s.getD n.toNat 0).toNat : Int)) [] [] nx) none
    | .array m e, .int _ n, .agg cs => (E.row e).bind fun re => cond (decide (0 ≤ n) && decide (n < (m : Int)))
        (match n with
          | .ofNat j => let ds := (cs.drop (j * re.size)).take re.size
              cond (Nat.beq ds.length re.size) ((whole re.kind.isAgg ds).bind fun v => K v [] [] nx) none
          | _ => none) none
    | _, _, _ => none
  | .lookup t x k ok => (E.row t).bind fun rw => match rw.kind with
    | .map kt0 vt0 => match ρ x with
      | .mp l => match get l with
        | .map kt vt es => cond (isTy (E.tyOf kt0) kt && isTy (E.tyOf vt0) vt) ((dec kt [ρ k]).bind fun key =>
            (whole (Nat.blt 1 vt.sz) (enc vt ((mget key es).getD vt.zero))).bind fun v =>
            K (cond ok (.tup [v, .bool (mget key es).isSome]) v) [] [l] nx) none
        | _ => none
      | _ => none
    | _ => none
  | .mapUpdate t x k v => (E.row t).bind fun rw => match rw.kind with
    | .map kt0 vt0 => match ρ x with
      | .mp l => match get l with
        | .map kt vt es => cond (isTy (E.tyOf kt0) kt && isTy (E.tyOf vt0) vt && decide (es.length < 9223372036854775807)) ((dec kt [ρ k]).bind fun key => cond (aggOk (ρ v) vt.sz) ((dec vt (ρ v).cells).bind fun val => K .undef [(l, .map kt vt (mset key val es))] [l] nx) none) none
        | _ => none
      | _ => none
    | _ => none
  | .range t x => (E.row t).bind fun rw => match rw.kind, ρ x with
    | .str, .str s => K (.it nx) [(nx, .siter s 0)] [] (nx + 1)
    | _, _ => none
  | .next x true => match ρ x with
    | .it l => match get l with
      | .siter s pos => cond (decide (pos < s.length))
          (K (.tup [.bool true, .int .i64 (pos : Int), .int .i32 ((Utf8.decode ⟨s.toArray⟩ pos).1 : Int)]) [(l, .siter s (pos + (Utf8.decode ⟨s.toArray⟩ pos).2))] [l] nx)
          (K (.tup [.bool false]) [] [l] nx)
      | _ => none
    | _ => none
  | .typeAssert x _ t ok => (E.row t).bind fun rw => match rw.kind with
    | .iface => none
    | _ => match ρ x with
      | .iface u v => cond (Nat.beq u t) (K (cond ok (.tup [v, .bool true]) v) [] [] nx)
          (cond ok ((whole rw.kind.isAgg rw.zero).bind fun z => K (.tup [z, .bool false]) [] [] nx) none)
      | .nilif => cond ok ((whole rw.kind.isAgg rw.zero).bind fun z => K (.tup [z, .bool false]) [] [] nx) none
      | _ => none
  | .extract x i => match ρ x with
    | .tup vs => (vs[i]?).bind fun v => K v [] [] nx
    | _ => none
  | .call c => match c.callee with
    | .builtin .len => (c.argTypes[0]?).bind fun t => (E.row t).bind fun rw => match rw.kind, c.args.toList.map ρ with
      | .str, [.str s] => K (.int .i64 (s.length : Int)) [] [] nx
      | .slice _, [.vl _ xs] => K (.int .i64 (xs.length : Int)) [] [] nx
      | .slice _, [.nils] => K (.int .i64 0) [] [] nx
      | .slice _, [.hs l _ n] => K (.int .i64 (n : Int)) [] [l] nx
      | .slice _, [.hw l] => match get l with
        | .arr _ _ xs tail => K (.int .i64 (alen xs tail : Int)) [] [l] nx
        | _ => none
      | .map _ _, [.mp l] => match get l with
        | .map _ _ es => K (.int .i64 (es.length : Int)) [] [l] nx
        | _ => none
      | _, _ => none
    | .builtin .append => match c.argTypes.toList, c.args.toList.map ρ with
      | [t, u], [b, s] => (E.row t).bind fun rw => (E.row u).bind fun ru => match rw.kind, ru.kind with
        | .slice e, .slice _ => appendK E get nx e b s K
        | .slice e, .str => appendK E get nx e b s K
        | _, _ => none
      | _, _ => none
    | .builtin .min => match c.args.toList.map ρ with
      | [.int k a, .int k' b] => cond (decide (k' = k)) (K (.int k (cond (decide (b < a)) b a)) [] [] nx) none
      | _ => none
    | .builtin .max => match c.args.toList.map ρ with
      | [.int k a, .int k' b] => cond (decide (k' = k)) (K (.int k (cond (decide (b > a)) b a)) [] [] nx) none
      | _ => none
    | .builtin .delete => (c.argTypes[0]?).bind fun t => (E.row t).bind fun rw => match rw.kind with
      | .map kt0 _ => match c.args.toList.map ρ with
        | [.mp l, k] => match get l with
          | .map kt vt es => cond (isTy (E.tyOf kt0) kt) ((dec kt [k]).bind fun key => K (.tup []) [(l, .map kt vt (mdel key es))] [l] nx) none
          | _ => none
        | _ => none
      | _ => none
    | .value f => match ρ f with
      | .fn (.func n) first cap => callK E get n (first ++ c.args.toList.map ρ ++ cap) nx K
      | _ => none
    | _ => none
  | _ => none
end
end Go.Sim
