/-
  SimB: the abstract machine: renumbering, regions, code, functions.
-/
import Derived.Test.YtpkjlefincabiaaDoorSimA
namespace Go.Sim
set_option linter.unusedSectionVars false

structure St where
  slots : Slots
  objs : Objs
  nx : Nat

def getO (objs : Objs) (l : Nat) : AObj := lk .dead objs l

/-- Only these slots live, and the objects that can be come to from them (behind the first k0, which stay). -/
def canonK {R : Type} (k0 : Nat) (live : List Nat) (s : St) (K : St → Option R) : Option R :=
  let ls := reach (getO s.objs) reachFuel (List.range k0 ++ locsL (live.map fun t => lk .undef s.slots t)) []
  cond (nodupB ls && startsNum k0 0 ls) (K { slots := live.map fun t => (t, (lk .undef s.slots t).ren (idx ls 0)), objs := numbered 0 (ls.map fun l => (getO s.objs l).ren (idx ls 0)), nx := ls.length }) none

/-- How the value of an operation is told from then on: the value, what turns of objects, which it looked at, the next free number. -/
def adjK {R : Type} (E : Env) (H : Hint) (o : Oper) (get : Nat → AObj) (nx : Nat) (v : AV) (K : AV → List (Nat × AObj) → List Nat → Nat → Option R) : Option R :=
  match o.dst with
  | none => K v [] [] nx
  | some d =>
    cond (has H.vs d) (match E.row o.type with
      | some rw => match rw.kind with
        | .slice e => (E.tyOf e).bind fun t => match v with
          | .hw l => (elems get t (.hw l)).bind fun (xs, _) => K (.vl t xs) [(l, .dead)] [l] nx
          | .nils => K (.vl t []) [] [] nx
          | v => K v [] [] nx
        | _ => none
      | none => none)
    (match lk? H.nh d with
      | some e => match E.row e, E.tyOf e with
        | some re, some t => match v with
          | .nils => K (.hw nx) [(nx, .arr re.size t [] [])] [] (nx + 1)
          | .hw l => match get l with
            | .arr sz t' _ tail => cond (decide (t' = t) && tail.isEmpty) (K v [] [] nx) ((elems get t (.hw l)).bind fun (ys, _) => K (.hw nx) [(nx, .arr sz t ys []), (l, .dead)] [l] (nx + 1))
            | _ => none
          | v => K v [] [] nx
        | _, _ => none
      | none => K v [] [] nx)

def putS (dst : Option Tmp) (v : AV) (s : Slots) : Slots :=
  match dst with
  | some d => (d, v) :: s
  | none => s
/-- What is written lies in the frame. -/
def dstOk (H : Hint) (o : Oper) : Bool :=
  match o.dst with
  | some d => Nat.blt d H.nt
  | none => true

/-- What an operation looked at and what it changed: its place in the region, objects. -/
structure Tr where
  i : Nat
  rd : List Nat
  wr : List Nat
  n0 : Nat      -- the numbers from here on to ahead of n1 are new with it
  n1 : Nat
def keysOf : List (Nat × AObj) → List Nat
  | [] => []
  | (k, _) :: r => k :: keysOf r
def below : List (Nat × AObj) → Nat → Bool
  | [], _ => true
  | (k, _) :: r, n => Nat.blt k n && below r n

section
variable {R : Type}

/-- An operation that is done. -/
def runK (E : Env) (H : Hint) (i : Nat) (o : Oper) (s : St) (K : St → Tr → Option R) : Option R :=
  evalOp E (getO s.objs) s.nx (operand E s.slots) o fun v pat rd nx =>
    cond (below pat nx) (adjK E H o (getO (pat ++ s.objs)) nx v fun v' pat' rd' nx' =>
      cond (below pat' nx') (K { slots := putS o.dst v' s.slots, objs := pat' ++ (pat ++ s.objs), nx := nx' } { i := i, rd := rd' ++ rd, wr := keysOf (pat' ++ pat), n0 := s.nx, n1 := nx' }) none) none
def skipK (i : Nat) (o : Oper) (s : St) (K : St → Tr → Option R) : Option R :=
  K { s with slots := putS o.dst (.tup []) s.slots } { i := i, rd := [], wr := [], n0 := s.nx, n1 := s.nx }
/-- An operation, with its guard. -/
def opK (E : Env) (H : Hint) (all : Array Oper) (i : Nat) (o : Oper) (s : St) (K : St → Tr → Option R) : Option R :=
  cond (dstOk H o) (match o.guard with
    | none => runK E H i o s K
    | some (j, want) =>
      match (all[j]?).bind (·.dst) with
      | some d => cond (Nat.blt d H.nt) (match lk .undef s.slots d with
        | .bool g => cond g (cond want (runK E H i o { s with slots := (d, .bool true) :: s.slots } K) (skipK i o { s with slots := (d, .bool true) :: s.slots } K))
            (cond want (skipK i o { s with slots := (d, .bool false) :: s.slots } K) (runK E H i o { s with slots := (d, .bool false) :: s.slots } K))
        | .tup [] => skipK i o s K
        | _ => none) none
      | none => none) none
def evalOps (E : Env) (H : Hint) (all : Array Oper) : List Oper → Nat → St → List Tr → (St → List Tr → Option R) → Option R
  | [], _, s, tr, K => K s tr
  | o :: r, i, s, tr, K => opK E H all i o s fun s' t => evalOps E H all r (i + 1) s' (t :: tr) K

def anyIn : List Nat → List Nat → Bool
  | [], _ => false
  | x :: r, l => has l x || anyIn r l

/-- Operation j (behind i in the text) meets what i does: then it waits for i. -/
def pairOk (bits : Array Nat) (a b : Tr) : Bool :=
  cond (anyIn a.wr b.rd || anyIn a.wr b.wr || anyIn a.rd b.wr) ((bits.getD b.i 0).testBit a.i) true
def pairsOk (bits : Array Nat) : List Tr → Bool
  | [] => true
  | b :: r => (r.all fun a => pairOk bits a b) && pairsOk bits r

/-- Slots: whoever names a slot that another one writes is in one order with it. -/
def slotPair (all : Array Oper) (bits : Array Nat) (i j : Nat) (a b : Oper) : Bool :=
  cond ((match a.dst with | some d => has (Oper.looksAt all b) d || (match b.dst with | some e => Nat.beq d e | none => false) | none => false) ||
      (match b.dst with | some d => has (Oper.looksAt all a) d | none => false)) ((bits.getD j 0).testBit i) true
def slotsOkFrom (all : Array Oper) (bits : Array Nat) (j : Nat) (b : Oper) : Nat → List Oper → Bool
  | _, [] => true
  | i, a :: r => cond (Nat.blt i j) (slotPair all bits i j a b && slotsOkFrom all bits j b (i + 1) r) true
def slotsOk (all : Array Oper) (bits : Array Nat) : Nat → List Oper → Bool
  | _, [] => true
  | j, b :: r => slotsOkFrom all bits j b 0 all.toList && slotsOk all bits (j + 1) r
def edgesOk : Nat → List Oper → Bool
  | _, [] => true
  | j, b :: r => (b.after.all fun e => !Region.binds .any e || Nat.blt e.on j) && (match b.guard with | some (g, _) => Nat.blt g j | none => true) && edgesOk (j + 1) r

/-- What is new is written. -/
def newIn (wr : List Nat) : Nat → Nat → Bool
  | _, 0 => true
  | i, k + 1 => has wr i && newIn wr (i + 1) k
def drawOk (ops : Array Oper) (tr : List Tr) : Bool :=
  (tr.all fun t => newIn t.wr t.n0 (t.n1 - t.n0)) && pairsOk (Region.before ops) tr && slotsOk ops (Region.before ops) 0 ops.toList && edgesOk 0 ops.toList
def opsK (E : Env) (H : Hint) (ops : Array Oper) (draw : Bool) (s : St) (K : St → Option R) : Option R :=
  evalOps E H ops ops.toList 0 s [] fun s' tr => cond (!draw || drawOk ops tr) (K s') none
def regionK (E : Env) (H : Hint) (id : Nat) (ops : Array Oper) (draw : Bool) (s : St) (K : St → Option R) : Option R :=
  match lk? H.join id with
  | some c =>
    (opsK (R := Bool) E H ops draw s fun s' =>
      cond (Nat.beq s'.objs.length s.objs.length && Nat.beq s'.nx s.nx) (match lk .undef s'.slots c with | .bool b => some b | _ => none) none).bind fun b =>
    K { s with slots := (c, .bool b) :: ((ops.toList.filterMap (·.dst)).map fun d => (d, AV.undef)) ++ s.slots }
  | none => opsK E H ops draw s K

inductive Ex where
  | normal
  | exit (id : Nat)
  | ret

def firstRegion : Code → Nat
  | .region id _ _ => id
  | .seq a _ => firstRegion a
  | .block _ b => firstRegion b
  | .loop b => firstRegion b
  | .scope b => firstRegion b
  | _ => 0

/-- Round after round. -/
def loopN (k0 : Nat) (live : List Nat) (step : St → (Ex → St → Option R) → Option R) : Nat → St → (Ex → St → Option R) → Option R
  | 0, _, _ => none
  | n + 1, s, K => step s fun e s' => match e with
    | .normal => canonK k0 live s' fun s2 => loopN k0 live step n s2 K
    | e => canonK k0 live s' fun s2 => K e s2

/-- What is known of a function's loops: by the first region of a loop's body. -/
abbrev Loops (R : Type) := Nat → St → (Ex → St → Option R) → Option R

def ev (E : Env) (H : Hint) (k0 : Nat) (LP : Loops R) : Code → St → (Ex → St → Option R) → Option R
  | .skip, s, K => K .normal s
  | .label _, s, K => K .normal s
  | .region id ops draw, s, K => regionK E H id ops draw s fun s' => K .normal s'
  | .seq a b, s, K => ev E H k0 LP a s fun e s' => match e with
    | .normal => ev E H k0 LP b s' K
    | e => K e s'
  | .cond c x y, s, K => match operand E s.slots c with
    | .bool b => cond b (ev E H k0 LP x s K) (ev E H k0 LP y s K)
    | _ => none
  | .block id b, s, K => ev E H k0 LP b s fun e s' => match e with
    | .exit i => cond (Nat.beq i id) (K .normal s') (K (.exit i) s')
    | e => K e s'
  | .loop b, s, K => match lk? H.loops (firstRegion b) with
    | some live => canonK k0 live s fun s2 => LP (firstRegion b) s2 K
    | none => none
  | .exit id, s, K => K (.exit id) s
  | .ret, s, K => K .ret s
  | .scope b, s, K => ev E H k0 LP b s K
  | _, _, _ => none

/-- The bodies of all loops in code. -/
def loopsIn : Code → List Code
  | .seq a b => loopsIn a ++ loopsIn b
  | .cond _ a b => loopsIn a ++ loopsIn b
  | .block _ b => loopsIn b
  | .scope b => loopsIn b
  | .loop b => b :: loopsIn b
  | _ => []
def findL (id : Nat) : List Code → Code
  | [] => .skip
  | b :: r => cond (Nat.beq (firstRegion b) id) b (findL id r)
/-- A function's loop whose body begins with this region. -/
def loopOf (fn : Func) (id : Nat) : Code := match fn.body with
  | some c => findL id (loopsIn c)
  | none => .skip

/-- A function's results. -/
def resultOf (E : Env) (s : St) : ResultVar → Option AV
  | .tmp t => some (lk .undef s.slots t)
  | .cell a t => (E.row t).bind fun rw => match lk .undef s.slots a with
    | .ptr l e j => match getO s.objs l with
      | .arr _ ty xs tail => let cs := ((eltCells ty xs tail e).drop j).take rw.size
          cond (Nat.beq cs.length rw.size) (whole rw.kind.isAgg cs) none
      | _ => none
    | _ => none
def resultsOf (E : Env) (s : St) : List ResultVar → Option (List AV)
  | [] => some []
  | r :: rs => (resultOf E s r).bind fun v => (resultsOf E s rs).bind fun vs => some (v :: vs)
def oneOr : List AV → AV
  | [v] => v
  | vs => .tup vs

def initSt (args : List AV) (objs : List AObj) : St := { slots := numbered 0 args, objs := numbered 0 objs, nx := objs.length }

/-- A call of a function with a body. -/
def evFn (E : Env) (H : Hint) (LP : Loops R) (fn : Func) (args : List AV) (objs : List AObj) (K : AV → St → Option R) : Option R :=
  match fn.body with
  | none => none
  | some c => ev E H objs.length LP c (initSt args objs) fun e s => match e with
    | .exit _ => none
    | _ => (resultsOf E s fn.results.toList).bind fun vs => K (oneOr vs) s
end

end Go.Sim
