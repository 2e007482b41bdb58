/-
  WkU7: the law SegsSeals. · PlDed: tables of producers: the plain side. · SimCut: code in parts. · WkD1: walks of slices.BinarySearchFunc and slices.Insert. · WkD2: slices.Insert, in parts (states written by a tool). · WkD3: slices.Insert, in parts (states written by a tool). · WkD4: slices.Insert: what it leaves. · WkD5: contracts of slices.Insert and slices.BinarySearchFunc. · WkD6: walks of dedup's table. · WkX1: walks of a state: New, Apply. · WkX2: walks of a state: since. · WkX3: walks of the law StateSince. · LdN: what the rows say of the tables of package utf8 holds of the tables of PlTab.
-/
import Derived.Lib.Overlaps
import Derived.Test.YtpkobajkogcmkaaGreatDoorRows
import Derived.OpenShut
import Derived.MakeChecks
import Derived.FnData
import Derived.Test.YtpkobajkogcmkaaGreatDoorPartE
namespace Go.Sim.XU
set_option linter.unusedSimpArgs false
set_option linter.unusedVariables false
set_option maxRecDepth 10000
def caseAll : VCase := ⟨[.lit (.hw 0)], rowP, .vl segT, rowP, fun _ ⟨⟨f, ⟨b, n, _, _, _, _, _, _, z, _, _⟩, _⟩, rs, _⟩ => [(smallL f && decide (List.length rs ≤ 1000000000), (segsL (f, b, n, z, rs), (f, (b, n, (), (), (), (), (), (), z, (), ()), ()), rs, ()))]⟩
theorem all_ok : caseAll.e.ok P0 I.segs_all := vcase_ok (c := caseAll) (H := H.segs_all) (E := env consC2) (env_ok consC2_ok) glob0 mixed0 G.segs_all Bd.segs_all (by kernel_rfl) (loops_good (tab := [(3, alLC)]) (by kernel_rfl) (fun x hx => by simp at hx; subst hx; exact al_lok)) fun _ ⟨⟨f, ⟨b, n, _, _, _, _, _, _, z, _, _⟩, _⟩, rs, _⟩ r h hw1 hw2 => by
  obtain ⟨hc, rfl⟩ := pick_pre h
  simp only [Bool.and_eq_true] at hc
  refine (all_ev f b n z rs).trans ?_
  have e : List.take (List.length f + 1) (segsL (f, b, n, z, rs)) = segsL (f, b, n, z, rs) := List.take_of_length_le (by rw [segsL_len]; exact Nat.le_refl _)
  rw [hc.1, hc.2, e]
  simp only [decide_true, Bool.and_self, cond_true]
  rfl
noncomputable abbrev consD1 : List (FuncId × Con) := [(I.segs_all, .eff (effOf [caseAll.e]))]
theorem consD1_ok : ∀ x ∈ consD1, HoldsC P0 x.1 x.2 := by
  intro x hx
  simp at hx
  subst hx
  exact ⟨fun args objs r objs2 h _ => effOf_holds (by simp; exact all_ok) args objs r objs2 h, C.segs_all⟩
theorem segments_ev (f : List Seg) (b n z : Int) (rs : List Rec) : evFn (env consD1) H.segs_Log_Segments (LPof []) F.segs_Log_Segments [.ptr 0 (.tl 0) 0] [.arr 1 .bool [] [[.hw 1]], .arr 10 segT f [actC b n z], .log recT rs] (finV (.vl segT) logP 3) = bif smallL f && decide (rs.length ≤ 1000000000) then some (segsL (f, b, n, z, rs), (((), ()), ()), (f, (b, n, (), (), (), (), (), (), z, (), ()), ()), rs, ()) else none := by kernel_rfl

def caseSegments : VCase := ⟨[.lit (.ptr 0 (.tl 0) 0)], logP, .vl segT, logP, fun _ ⟨_, ⟨f, ⟨b, n, _, _, _, _, _, _, z, _, _⟩, _⟩, rs, _⟩ => [(smallL f && decide (List.length rs ≤ 1000000000), (segsL (f, b, n, z, rs), ((((), ()), ()), (f, (b, n, (), (), (), (), (), (), z, (), ()), ()), rs, ())))]⟩
theorem segments_ok : caseSegments.e.ok P0 I.segs_Log_Segments := vcase_ok (c := caseSegments) (H := H.segs_Log_Segments) (E := env consD1) (env_ok consD1_ok) glob0 mixed0 G.segs_Log_Segments Bd.segs_Log_Segments (by kernel_rfl) noLoops fun _ ⟨_, ⟨f, ⟨b, n, _, _, _, _, _, _, z, _, _⟩, _⟩, rs, _⟩ r h hw1 hw2 => by
  obtain ⟨hc, rfl⟩ := pick_pre h
  refine (segments_ev f b n z rs).trans ?_
  have hc : (smallL f && decide (List.length rs ≤ 1000000000)) = true := hc
  rw [hc]
  rfl
def recK (j : Int) : Rec := (j, j, [107], [], false)
def recsK (b : Int) (c : Nat) : List Rec := (List.range c).map fun j => recK (b + (j : Nat))
def goodF (most : Int) (g : Seg) : Bool := g.2.2.2.2.2.1 && decide (IntKind.i64.wrap (g.2.1 - g.1) ≤ most) && decide (g.2.2.1 = IntKind.i64.wrap (g.2.1 - 1))
structure InvK (most : Int) (i : Nat) (L : LogS) : Prop where
  next : L.2.2.1 = (i : Int)
  base : 0 ≤ L.2.1 ∧ L.2.1 ≤ (i : Int) ∧ (i : Int) - L.2.1 < most
  recs : L.2.2.2.2 = recsK L.2.1 ((i : Int) - L.2.1).toNat
  good : L.1.all (goodF most) = true
  low : lowP L = 0
  ok : okB (4 * i) L = true
theorem lowP_seal (L : LogS) : lowP (sealP L) = lowP L := by
  unfold sealP
  cases L.2.1 == L.2.2.1 with
  | true => rfl
  | false =>
    obtain ⟨f, b, n, z, rs⟩ := L
    cases f <;> rfl
/-- What is left of a step before it is known whether the log is sealed. -/
structure MidK (most : Int) (i : Nat) (L : LogS) : Prop where
  next : L.2.2.1 = (i : Int)
  base : 0 ≤ L.2.1 ∧ L.2.1 ≤ (i : Int) ∧ (i : Int) - L.2.1 ≤ most
  recs : L.2.2.2.2 = recsK L.2.1 ((i : Int) - L.2.1).toNat
  good : L.1.all (goodF most) = true
  low : lowP L = 0
end Go.Sim.XU
namespace Go.Sim
set_option linter.unusedSimpArgs false
set_option linter.unusedVariables false
abbrev Row3 := Int × Int × Int
/-- Where a producer's row stands, or would. -/
def posL : List Row3 → Int → Nat
  | [], _ => 0
  | r :: l, p => bif decide (r.1 < p) then posL l p + 1 else 0
def atL (l : List Row3) (i : Nat) : Row3 := l.getD i (0, 0, 0)
def hasL (l : List Row3) (p : Int) : Bool := decide (posL l p < l.length) && (atL l (posL l p)).1 == p
def sortedL : List Row3 → Bool
  | [] => true
  | r :: l => l.all (fun s => decide (r.1 < s.1)) && sortedL l
def putAt (l : List Row3) (k t : Nat) (r : Row3) : List Row3 := l.take k ++ r :: l.drop t
/-- A table in which a row was set; what Set tells. -/
def setL (l : List Row3) (r : Row3) : List Row3 × Int :=
  bif hasL l r.1 then (putAt l (posL l r.1) (posL l r.1 + 1) r, 0) else bif decide ((l.length : Int) ≥ 100) then (l, 7) else (putAt l (posL l r.1) (posL l r.1) r, 0)
def askL (l : List Row3) (p s : Int) : Int × Int :=
  bif hasL l p then (bif (atL l (posL l p)).2.1 == s then (1, (atL l (posL l p)).2.2) else bif decide ((atL l (posL l p)).2.1 < s) && (atL l (posL l p)).2.1 == s - 1 then (0, 0) else (2, 0)) else bif s == 0 then (0, 0) else (2, 0)
theorem pos_le : ∀ (l : List Row3) (p : Int), posL l p ≤ l.length
  | [], _ => Nat.le_refl _
  | r :: l, p => by
    have := pos_le l p
    simp only [posL, List.length_cons]
    cases decide (r.1 < p) <;> simp only [cond_true, cond_false] <;> omega
theorem pos_below : ∀ {l : List Row3} {p : Int} {i : Nat}, i < posL l p → (atL l i).1 < p
  | r :: l, p, i, h => by
    simp only [posL] at h
    by_cases hr : r.1 < p
    · cases i with
      | zero => exact hr
      | succ i =>
        rw [cond_pos hr] at h
        have := pos_below (l := l) (p := p) (i := i) (by omega)
        simpa [atL] using this
    · rw [cond_neg hr] at h; omega
theorem pos_at : ∀ {l : List Row3} {p : Int}, posL l p < l.length → p ≤ (atL l (posL l p)).1
  | r :: l, p, h => by
    simp only [posL] at h ⊢
    by_cases hr : r.1 < p
    · rw [cond_pos hr] at h ⊢
      have := pos_at (l := l) (p := p) (by simpa using h)
      simpa [atL] using this
    · rw [cond_neg hr]
      show p ≤ r.1
      omega
theorem sorted_lt : ∀ {l : List Row3} {i j : Nat}, sortedL l = true → i < j → j < l.length → (atL l i).1 < (atL l j).1
  | r :: l, i, j, hs, hij, hj => by
    simp only [sortedL, Bool.and_eq_true, List.all_eq_true, decide_eq_true_eq] at hs
    cases j with
    | zero => omega
    | succ j =>
      have hj : j < l.length := by simpa using hj
      cases i with
      | zero =>
        have : (atL l j) ∈ l := by unfold atL; rw [List.getD_eq_getElem?_getD, List.getElem?_eq_getElem hj]; exact List.getElem_mem hj
        have := hs.1 _ this
        simpa [atL] using this
      | succ i =>
        have := sorted_lt (l := l) (i := i) (j := j) hs.2 (by omega) hj
        simpa [atL] using this
/-- A place with nothing less behind it and nothing else ahead is the row's. -/
theorem pos_eq {l : List Row3} {p : Int} {k : Nat} (hk : k ≤ l.length) (h1 : ∀ i, i < k → (atL l i).1 < p) (h2 : k < l.length → p ≤ (atL l k).1) : posL l p = k := by
  rcases Nat.lt_trichotomy (posL l p) k with h | h | h
  · have := pos_at (l := l) (p := p) (by omega)
    have := h1 _ h
    omega
  · exact h
  · have := pos_below h
    have := h2 (by have := pos_le l p; omega)
    omega
end Go.Sim
namespace Go.Sim
/-- What is left of code behind its first n parts. -/
def sufC : Nat → Code → Code
  | 0, c => c
  | n + 1, .seq _ b => sufC n b
  | _ + 1, _ => .skip
/-- The first n parts of code. -/
def preC : Nat → Code → Code
  | 0, _ => .skip
  | n + 1, .seq a b => .seq a (preC n b)
  | _ + 1, c => c
theorem cut_skip {E : Env} {H : Hint} {k0 : Nat} {R : Type} {LP : Loops R} (K : Ex → St → Option R) : (fun e s' => match e with
      | .normal => ev E H k0 LP .skip s' K
      | e => K e s') = K := by
  funext e s'
  cases e <;> rfl
theorem ev_cut {E : Env} {H : Hint} {k0 : Nat} (hj : H.jc = []) {R : Type} {LP : Loops R} : ∀ (n : Nat) (c : Code) (s : St) (K : Ex → St → Option R),
    ev E H k0 LP c s K = ev E H k0 LP (preC n c) s fun e s' => match e with
      | .normal => ev E H k0 LP (sufC n c) s' K
      | e => K e s' := by
  intro n
  induction n with
  | zero => intro c s K; rfl
  | succ n ih =>
    intro c s K
    cases c with
    | seq a b =>
      have hn : (cond (loopFree a) (lk? H.jc (firstRegion a)) none) = none := by rw [hj]; cases loopFree a <;> rfl
      simp only [preC, sufC, ev]
      rw [hn]
      simp only
      congr 1
      funext e s'
      cases e with
      | normal => exact ih b s' K
      | exit i => rfl
      | ret => rfl
    | _ => simp only [preC, sufC]; rw [cut_skip]
end Go.Sim
namespace Go.Sim.XD
set_option linter.unusedSimpArgs false
set_option linter.unusedVariables false
set_option maxRecDepth 10000
theorem env_nil : ∀ x ∈ ([] : List (FuncId × Con)), HoldsC P0 x.1 x.2 := fun x h => by cases h
abbrev rowT : Ty := .pair (.int .i64) (.pair (.int .i64) (.int .i64))
theorem isnan_ev (a : Int) : evFn (env []) H.cmp_isNaN_int (LPof []) F.cmp_isNaN_int [.int .i64 a] [] (finT [.bool]) = some (a != a, ()) := by kernel_rfl

def caseIsnan : PCase := ⟨[.ty (.int .i64)], [.bool], fun x => (fun (a : Int) => [(true, (false, ()))]) x.1⟩
theorem isnan_val (a : Int) : evFn (env []) H.cmp_isNaN_int (LPof []) F.cmp_isNaN_int [.int .i64 a] [] (finT [.bool]) = some (false, ()) := by
  rw [isnan_ev]; simp
theorem isnan_ok : caseIsnan.ok P0 I.cmp_isNaN_int := case_ok2 (H := H.cmp_isNaN_int) (E := env []) (env_ok env_nil) glob0 mixed0 G.cmp_isNaN_int Bd.cmp_isNaN_int (by kernel_rfl) noLoops fun ⟨a, ()⟩ y h hw => by
  obtain ⟨hc, rfl⟩ := pick_pre h
  exact isnan_val a
noncomputable abbrev consA1 : List (FuncId × Con) := [(I.cmp_isNaN_int, .pure (pureOf [caseIsnan]))]
theorem consA1_ok : ∀ x ∈ consA1, HoldsC P0 x.1 x.2 := by
  intro x hx
  simp at hx
  subst hx
  exact ⟨pureOf_holds (by simp; exact isnan_ok), C.cmp_isNaN_int⟩
theorem cmp_ev (a b : Int) : evFn (env consA1) H.cmp_Compare_int (LPof []) F.cmp_Compare_int [.int .i64 a, .int .i64 b] [] (finT [.int .i64]) = bif decide (a < b) then some ((-1 : Int), ()) else bif decide (a > b) then some ((1 : Int), ()) else some ((0 : Int), ()) := by kernel_rfl

def cmpI (a b : Int) : Int := bif decide (a < b) then -1 else bif decide (a > b) then 1 else 0
def caseCmp : PCase := ⟨[.ty (.int .i64), .ty (.int .i64)], [.int .i64], fun x => (fun (a b : Int) => [(true, (cmpI a b, ()))]) x.1 x.2.1⟩
theorem cmp_val (a b : Int) : evFn (env consA1) H.cmp_Compare_int (LPof []) F.cmp_Compare_int [.int .i64 a, .int .i64 b] [] (finT [.int .i64]) = some (cmpI a b, ()) := by
  rw [cmp_ev]
  unfold cmpI
  cases decide (a < b) <;> cases decide (a > b) <;> rfl
theorem cmp_ok : caseCmp.ok P0 I.cmp_Compare_int := case_ok2 (H := H.cmp_Compare_int) (E := env consA1) (env_ok consA1_ok) glob0 mixed0 G.cmp_Compare_int Bd.cmp_Compare_int (by kernel_rfl) noLoops fun ⟨a, b, ()⟩ y h hw => by
  obtain ⟨hc, rfl⟩ := pick_pre h
  exact cmp_val a b
noncomputable abbrev consA2 : List (FuncId × Con) := [(I.cmp_Compare_int, .pure (pureOf [caseCmp]))]
theorem consA2_ok : ∀ x ∈ consA2, HoldsC P0 x.1 x.2 := by
  intro x hx
  simp at hx
  subst hx
  exact ⟨pureOf_holds (by simp; exact cmp_ok), C.cmp_Compare_int⟩
theorem find1_ev (r : Row3) (p : Int) : evFn (env consA2) H.dedup_Table_find_1 (LPof []) F.dedup_Table_find_1 [valOf rowT r, .int .i64 p] [] (finT [.int .i64]) = some (cmpI r.fst p, ()) := by kernel_rfl

def H.ins2 : Hint := { H.slices_Insert_dedup_Row_dedup_Row with vs := [51], hw := [83], nh := [(6, 145)] }
noncomputable abbrev consA3 : List (FuncId × Con) := [(182, .apart)]
def insObj (r : Row3) : AObj := .arr 3 .bool [] [[.int .i64 r.1, .int .i64 r.2.1, .int .i64 r.2.2]]
theorem ins1_ev {R : Type} (xs : List Row3) (i : Int) (r : Row3) (c : Nat) (K : Ex → St → Option R) : ev (env consA3) H.ins2 2 (LPof []) (preC 7 B.slices_Insert_dedup_Row_dedup_Row) (initSt [.hc 0 0 xs.length c, .int .i64 i, .hw 1] [.arr 3 rowT xs [], insObj r]) K = bif decide ((0 : Int) ≤ i) && decide (i ≤ (↑xs.length : Int)) then bif i == (↑xs.length : Int) then bif decide ((List.take xs.length xs ++ [r]).length * 24 ≤ 140737488355328) then K Ex.ret { slots := [(6, AV.hw 3), (25, AV.hw 3), (24, AV.hw 1), (23, AV.hc 0 0 xs.length c), (22, AV.bool (i == (↑xs.length : Int))), (21, AV.int IntKind.i64 (↑xs.length : Int)), (20, AV.int IntKind.i64 i), (8, AV.int IntKind.i64 (↑xs.length : Int)), (19, AV.int IntKind.i64 (↑xs.length : Int)), (18, AV.hc 0 0 xs.length c), (16, AV.bool false), (15, AV.int IntKind.i64 (1 : Int)), (7, AV.int IntKind.i64 (1 : Int)), (14, AV.int IntKind.i64 (1 : Int)), (13, AV.hw 1), (12, AV.hc 0 i.toNat (xs.length - i.toNat) (cutCap c (some i.toNat))), (11, AV.int IntKind.i64 i), (10, AV.hc 0 0 xs.length c), (6, AV.hw 2), (0, AV.hc 0 0 xs.length c), (1, AV.int IntKind.i64 i), (2, AV.hw 1)], objs := [(3, AObj.arr 3 ((Ty.int IntKind.i64).pair ((Ty.int IntKind.i64).pair (Ty.int IntKind.i64))) (List.take xs.length xs ++ [r]) []), (0, AObj.dead), (2, AObj.arr 3 ((Ty.int IntKind.i64).pair ((Ty.int IntKind.i64).pair (Ty.int IntKind.i64))) [] []), (0, AObj.arr 3 ((Ty.int IntKind.i64).pair ((Ty.int IntKind.i64).pair (Ty.int IntKind.i64))) xs []), (1, AObj.arr 3 Ty.bool [] [[AV.int IntKind.i64 r.fst, AV.int IntKind.i64 r.snd.fst, AV.int IntKind.i64 r.snd.snd]])], nx := 4 } else none else bif decide (IntKind.i64.wrap ((↑xs.length : Int) + (1 : Int)) > (↑c : Int)) then bif decide ((0 : Int) ≤ i) && decide (i ≤ (↑xs.length : Int)) then bif decide ((0 : Int) < IntKind.i64.wrap (IntKind.i64.wrap ((↑xs.length : Int) + (1 : Int)) - i)) && decide (c < i.toNat + (IntKind.i64.wrap (IntKind.i64.wrap ((↑xs.length : Int) + (1 : Int)) - i)).toNat) && decide (0 + i.toNat ≤ xs.length) && decide ((i.toNat + (IntKind.i64.wrap (IntKind.i64.wrap ((↑xs.length : Int) + (1 : Int)) - i)).toNat) * 24 ≤ 140737488355328) then bif decide ((0 : Int) ≤ i) && decide (i ≤ (↑(List.take i.toNat xs ++ List.replicate (IntKind.i64.wrap (IntKind.i64.wrap ((↑xs.length : Int) + (1 : Int)) - i)).toNat ((Ty.int IntKind.i64).pair ((Ty.int IntKind.i64).pair (Ty.int IntKind.i64))).zero).length : Int)) then bif decide (1 ≤ (List.take i.toNat xs ++ List.replicate (IntKind.i64.wrap (IntKind.i64.wrap ((↑xs.length : Int) + (1 : Int)) - i)).toNat ((Ty.int IntKind.i64).pair ((Ty.int IntKind.i64).pair (Ty.int IntKind.i64))).zero).length - i.toNat) && decide (i.toNat + 1 ≤ (List.take i.toNat xs ++ List.replicate (IntKind.i64.wrap (IntKind.i64.wrap ((↑xs.length : Int) + (1 : Int)) - i)).toNat ((Ty.int IntKind.i64).pair ((Ty.int IntKind.i64).pair (Ty.int IntKind.i64))).zero).length) then bif decide ((0 : Int) ≤ IntKind.i64.wrap (i + (1 : Int))) && decide (IntKind.i64.wrap (i + (1 : Int)) ≤ (↑(List.take i.toNat (List.take i.toNat xs ++ List.replicate (IntKind.i64.wrap (IntKind.i64.wrap ((↑xs.length : Int) + (1 : Int)) - i)).toNat ((Ty.int IntKind.i64).pair ((Ty.int IntKind.i64).pair (Ty.int IntKind.i64))).zero) ++ [r] ++ List.drop (i.toNat + 1) (List.take i.toNat xs ++ List.replicate (IntKind.i64.wrap (IntKind.i64.wrap ((↑xs.length : Int) + (1 : Int)) - i)).toNat ((Ty.int IntKind.i64).pair ((Ty.int IntKind.i64).pair (Ty.int IntKind.i64))).zero)).length : Int)) then bif decide (xs.length = xs.length) && decide (0 < c) then bif decide ((0 : Int) ≤ i) && decide (i ≤ (↑xs.length : Int)) then bif decide ((List.drop i.toNat xs).length ≤ (List.take i.toNat (List.take i.toNat xs ++ List.replicate (IntKind.i64.wrap (IntKind.i64.wrap ((↑xs.length : Int) + (1 : Int)) - i)).toNat ((Ty.int IntKind.i64).pair ((Ty.int IntKind.i64).pair (Ty.int IntKind.i64))).zero) ++ [r] ++ List.drop (i.toNat + 1) (List.take i.toNat xs ++ List.replicate (IntKind.i64.wrap (IntKind.i64.wrap ((↑xs.length : Int) + (1 : Int)) - i)).toNat ((Ty.int IntKind.i64).pair ((Ty.int IntKind.i64).pair (Ty.int IntKind.i64))).zero)).length - (IntKind.i64.wrap (i + (1 : Int))).toNat) && decide ((IntKind.i64.wrap (i + (1 : Int))).toNat + (List.drop i.toNat xs).length ≤ (List.take i.toNat (List.take i.toNat xs ++ List.replicate (IntKind.i64.wrap (IntKind.i64.wrap ((↑xs.length : Int) + (1 : Int)) - i)).toNat ((Ty.int IntKind.i64).pair ((Ty.int IntKind.i64).pair (Ty.int IntKind.i64))).zero) ++ [r] ++ List.drop (i.toNat + 1) (List.take i.toNat xs ++ List.replicate (IntKind.i64.wrap (IntKind.i64.wrap ((↑xs.length : Int) + (1 : Int)) - i)).toNat ((Ty.int IntKind.i64).pair ((Ty.int IntKind.i64).pair (Ty.int IntKind.i64))).zero)).length) then K Ex.ret { slots := [(6, AV.hw 3), (55, AV.hw 3), (54, AV.int IntKind.i64 (↑(List.drop i.toNat xs).length : Int)), (53, AV.vl ((Ty.int IntKind.i64).pair ((Ty.int IntKind.i64).pair (Ty.int IntKind.i64))) (List.drop i.toNat xs)), (52, AV.int IntKind.i64 i), (51, AV.vl ((Ty.int IntKind.i64).pair ((Ty.int IntKind.i64).pair (Ty.int IntKind.i64))) xs), (50, AV.hs 3 (IntKind.i64.wrap (i + (1 : Int))).toNat ((List.take i.toNat (List.take i.toNat xs ++ List.replicate (IntKind.i64.wrap (IntKind.i64.wrap ((↑xs.length : Int) + (1 : Int)) - i)).toNat ((Ty.int IntKind.i64).pair ((Ty.int IntKind.i64).pair (Ty.int IntKind.i64))).zero) ++ [r] ++ List.drop (i.toNat + 1) (List.take i.toNat xs ++ List.replicate (IntKind.i64.wrap (IntKind.i64.wrap ((↑xs.length : Int) + (1 : Int)) - i)).toNat ((Ty.int IntKind.i64).pair ((Ty.int IntKind.i64).pair (Ty.int IntKind.i64))).zero)).length - (IntKind.i64.wrap (i + (1 : Int))).toNat)), (49, AV.int IntKind.i64 (IntKind.i64.wrap (i + (1 : Int)))), (48, AV.int IntKind.i64 (1 : Int)), (47, AV.int IntKind.i64 i), (46, AV.hw 3), (45, AV.int IntKind.i64 (1 : Int)), (44, AV.hw 1), (43, AV.hs 3 i.toNat ((List.take i.toNat xs ++ List.replicate (IntKind.i64.wrap (IntKind.i64.wrap ((↑xs.length : Int) + (1 : Int)) - i)).toNat ((Ty.int IntKind.i64).pair ((Ty.int IntKind.i64).pair (Ty.int IntKind.i64))).zero).length - i.toNat)), (42, AV.int IntKind.i64 i), (41, AV.hw 3), (9, AV.hw 3), (40, AV.hw 3), (39, AV.int IntKind.i64 (IntKind.i64.wrap (IntKind.i64.wrap ((↑xs.length : Int) + (1 : Int)) - i))), (38, AV.int IntKind.i64 i), (37, AV.int IntKind.i64 (IntKind.i64.wrap ((↑xs.length : Int) + (1 : Int)))), (36, AV.int IntKind.i64 (1 : Int)), (35, AV.int IntKind.i64 (↑xs.length : Int)), (34, AV.hc 0 0 i.toNat c), (33, AV.int IntKind.i64 i), (32, AV.hc 0 0 xs.length c), (31, AV.bool (decide (IntKind.i64.wrap ((↑xs.length : Int) + (1 : Int)) > (↑c : Int)))), (30, AV.int IntKind.i64 (↑c : Int)), (29, AV.hc 0 0 xs.length c), (28, AV.int IntKind.i64 (IntKind.i64.wrap ((↑xs.length : Int) + (1 : Int)))), (27, AV.int IntKind.i64 (1 : Int)), (26, AV.int IntKind.i64 (↑xs.length : Int)), (22, AV.bool (i == (↑xs.length : Int))), (21, AV.int IntKind.i64 (↑xs.length : Int)), (20, AV.int IntKind.i64 i), (8, AV.int IntKind.i64 (↑xs.length : Int)), (19, AV.int IntKind.i64 (↑xs.length : Int)), (18, AV.hc 0 0 xs.length c), (16, AV.bool false), (15, AV.int IntKind.i64 (1 : Int)), (7, AV.int IntKind.i64 (1 : Int)), (14, AV.int IntKind.i64 (1 : Int)), (13, AV.hw 1), (12, AV.hc 0 i.toNat (xs.length - i.toNat) (cutCap c (some i.toNat))), (11, AV.int IntKind.i64 i), (10, AV.hc 0 0 xs.length c), (6, AV.hw 2), (0, AV.hc 0 0 xs.length c), (1, AV.int IntKind.i64 i), (2, AV.hw 1)], objs := [(3, AObj.arr 3 ((Ty.int IntKind.i64).pair ((Ty.int IntKind.i64).pair (Ty.int IntKind.i64))) (List.take (IntKind.i64.wrap (i + (1 : Int))).toNat (List.take i.toNat (List.take i.toNat xs ++ List.replicate (IntKind.i64.wrap (IntKind.i64.wrap ((↑xs.length : Int) + (1 : Int)) - i)).toNat ((Ty.int IntKind.i64).pair ((Ty.int IntKind.i64).pair (Ty.int IntKind.i64))).zero) ++ [r] ++ List.drop (i.toNat + 1) (List.take i.toNat xs ++ List.replicate (IntKind.i64.wrap (IntKind.i64.wrap ((↑xs.length : Int) + (1 : Int)) - i)).toNat ((Ty.int IntKind.i64).pair ((Ty.int IntKind.i64).pair (Ty.int IntKind.i64))).zero)) ++ List.drop i.toNat xs ++ List.drop ((IntKind.i64.wrap (i + (1 : Int))).toNat + (List.drop i.toNat xs).length) (List.take i.toNat (List.take i.toNat xs ++ List.replicate (IntKind.i64.wrap (IntKind.i64.wrap ((↑xs.length : Int) + (1 : Int)) - i)).toNat ((Ty.int IntKind.i64).pair ((Ty.int IntKind.i64).pair (Ty.int IntKind.i64))).zero) ++ [r] ++ List.drop (i.toNat + 1) (List.take i.toNat xs ++ List.replicate (IntKind.i64.wrap (IntKind.i64.wrap ((↑xs.length : Int) + (1 : Int)) - i)).toNat ((Ty.int IntKind.i64).pair ((Ty.int IntKind.i64).pair (Ty.int IntKind.i64))).zero))) []), (0, AObj.dead), (3, AObj.arr 3 ((Ty.int IntKind.i64).pair ((Ty.int IntKind.i64).pair (Ty.int IntKind.i64))) (List.take i.toNat (List.take i.toNat xs ++ List.replicate (IntKind.i64.wrap (IntKind.i64.wrap ((↑xs.length : Int) + (1 : Int)) - i)).toNat ((Ty.int IntKind.i64).pair ((Ty.int IntKind.i64).pair (Ty.int IntKind.i64))).zero) ++ [r] ++ List.drop (i.toNat + 1) (List.take i.toNat xs ++ List.replicate (IntKind.i64.wrap (IntKind.i64.wrap ((↑xs.length : Int) + (1 : Int)) - i)).toNat ((Ty.int IntKind.i64).pair ((Ty.int IntKind.i64).pair (Ty.int IntKind.i64))).zero)) []), (3, AObj.arr 3 ((Ty.int IntKind.i64).pair ((Ty.int IntKind.i64).pair (Ty.int IntKind.i64))) (List.take i.toNat xs ++ List.replicate (IntKind.i64.wrap (IntKind.i64.wrap ((↑xs.length : Int) + (1 : Int)) - i)).toNat ((Ty.int IntKind.i64).pair ((Ty.int IntKind.i64).pair (Ty.int IntKind.i64))).zero) []), (2, AObj.arr 3 ((Ty.int IntKind.i64).pair ((Ty.int IntKind.i64).pair (Ty.int IntKind.i64))) [] []), (0, AObj.arr 3 ((Ty.int IntKind.i64).pair ((Ty.int IntKind.i64).pair (Ty.int IntKind.i64))) xs []), (1, AObj.arr 3 Ty.bool [] [[AV.int IntKind.i64 r.fst, AV.int IntKind.i64 r.snd.fst, AV.int IntKind.i64 r.snd.snd]])], nx := 4 } else none else none else none else none else none else none else none else bif decide (i = (↑xs.length : Int) + (1 : Int)) && decide (xs.length + 1 ≤ c) && decide (0 + xs.length = xs.length) && decide (xs.length < 9223372036854775807) && true then none else none else K Ex.normal { slots := [(31, AV.bool (decide (IntKind.i64.wrap ((↑xs.length : Int) + (1 : Int)) > (↑c : Int)))), (30, AV.int IntKind.i64 (↑c : Int)), (29, AV.hc 0 0 xs.length c), (28, AV.int IntKind.i64 (IntKind.i64.wrap ((↑xs.length : Int) + (1 : Int)))), (27, AV.int IntKind.i64 (1 : Int)), (26, AV.int IntKind.i64 (↑xs.length : Int)), (22, AV.bool (i == (↑xs.length : Int))), (21, AV.int IntKind.i64 (↑xs.length : Int)), (20, AV.int IntKind.i64 i), (8, AV.int IntKind.i64 (↑xs.length : Int)), (19, AV.int IntKind.i64 (↑xs.length : Int)), (18, AV.hc 0 0 xs.length c), (16, AV.bool false), (15, AV.int IntKind.i64 (1 : Int)), (7, AV.int IntKind.i64 (1 : Int)), (14, AV.int IntKind.i64 (1 : Int)), (13, AV.hw 1), (12, AV.hc 0 i.toNat (xs.length - i.toNat) (cutCap c (some i.toNat))), (11, AV.int IntKind.i64 i), (10, AV.hc 0 0 xs.length c), (6, AV.hw 2), (0, AV.hc 0 0 xs.length c), (1, AV.int IntKind.i64 i), (2, AV.hw 1)], objs := [(2, AObj.arr 3 ((Ty.int IntKind.i64).pair ((Ty.int IntKind.i64).pair (Ty.int IntKind.i64))) [] []), (0, AObj.arr 3 ((Ty.int IntKind.i64).pair ((Ty.int IntKind.i64).pair (Ty.int IntKind.i64))) xs []), (1, AObj.arr 3 Ty.bool [] [[AV.int IntKind.i64 r.fst, AV.int IntKind.i64 r.snd.fst, AV.int IntKind.i64 r.snd.snd]])], nx := 3 } else none := by kernel_rfl

end Go.Sim.XD
namespace Go.Sim.XD
set_option linter.unusedSimpArgs false
set_option linter.unusedVariables false
set_option maxRecDepth 10000
def insR1 (xs : List Row3) (i : Int) (r : Row3) (c : Nat) : St := { slots := [(6, AV.hw 3), (25, AV.hw 3), (24, AV.hw 1), (23, AV.hc 0 0 xs.length c), (22, AV.bool (i == (↑xs.length : Int))), (21, AV.int IntKind.i64 (↑xs.length : Int)), (20, AV.int IntKind.i64 i), (8, AV.int IntKind.i64 (↑xs.length : Int)), (19, AV.int IntKind.i64 (↑xs.length : Int)), (18, AV.hc 0 0 xs.length c), (16, AV.bool false), (15, AV.int IntKind.i64 (1 : Int)), (7, AV.int IntKind.i64 (1 : Int)), (14, AV.int IntKind.i64 (1 : Int)), (13, AV.hw 1), (12, AV.hc 0 i.toNat (xs.length - i.toNat) (cutCap c (some i.toNat))), (11, AV.int IntKind.i64 i), (10, AV.hc 0 0 xs.length c), (6, AV.hw 2), (0, AV.hc 0 0 xs.length c), (1, AV.int IntKind.i64 i), (2, AV.hw 1)], objs := [(3, AObj.arr 3 ((Ty.int IntKind.i64).pair ((Ty.int IntKind.i64).pair (Ty.int IntKind.i64))) (List.take xs.length xs ++ [r]) []), (0, AObj.dead), (2, AObj.arr 3 ((Ty.int IntKind.i64).pair ((Ty.int IntKind.i64).pair (Ty.int IntKind.i64))) [] []), (0, AObj.arr 3 ((Ty.int IntKind.i64).pair ((Ty.int IntKind.i64).pair (Ty.int IntKind.i64))) xs []), (1, AObj.arr 3 Ty.bool [] [[AV.int IntKind.i64 r.fst, AV.int IntKind.i64 r.snd.fst, AV.int IntKind.i64 r.snd.snd]])], nx := 4 }
def insR2 (xs : List Row3) (i : Int) (r : Row3) (c : Nat) : St := { slots := [(6, AV.hw 3), (55, AV.hw 3), (54, AV.int IntKind.i64 (↑(List.drop i.toNat xs).length : Int)), (53, AV.vl ((Ty.int IntKind.i64).pair ((Ty.int IntKind.i64).pair (Ty.int IntKind.i64))) (List.drop i.toNat xs)), (52, AV.int IntKind.i64 i), (51, AV.vl ((Ty.int IntKind.i64).pair ((Ty.int IntKind.i64).pair (Ty.int IntKind.i64))) xs), (50, AV.hs 3 (IntKind.i64.wrap (i + (1 : Int))).toNat ((List.take i.toNat (List.take i.toNat xs ++ List.replicate (IntKind.i64.wrap (IntKind.i64.wrap ((↑xs.length : Int) + (1 : Int)) - i)).toNat ((Ty.int IntKind.i64).pair ((Ty.int IntKind.i64).pair (Ty.int IntKind.i64))).zero) ++ [r] ++ List.drop (i.toNat + 1) (List.take i.toNat xs ++ List.replicate (IntKind.i64.wrap (IntKind.i64.wrap ((↑xs.length : Int) + (1 : Int)) - i)).toNat ((Ty.int IntKind.i64).pair ((Ty.int IntKind.i64).pair (Ty.int IntKind.i64))).zero)).length - (IntKind.i64.wrap (i + (1 : Int))).toNat)), (49, AV.int IntKind.i64 (IntKind.i64.wrap (i + (1 : Int)))), (48, AV.int IntKind.i64 (1 : Int)), (47, AV.int IntKind.i64 i), (46, AV.hw 3), (45, AV.int IntKind.i64 (1 : Int)), (44, AV.hw 1), (43, AV.hs 3 i.toNat ((List.take i.toNat xs ++ List.replicate (IntKind.i64.wrap (IntKind.i64.wrap ((↑xs.length : Int) + (1 : Int)) - i)).toNat ((Ty.int IntKind.i64).pair ((Ty.int IntKind.i64).pair (Ty.int IntKind.i64))).zero).length - i.toNat)), (42, AV.int IntKind.i64 i), (41, AV.hw 3), (9, AV.hw 3), (40, AV.hw 3), (39, AV.int IntKind.i64 (IntKind.i64.wrap (IntKind.i64.wrap ((↑xs.length : Int) + (1 : Int)) - i))), (38, AV.int IntKind.i64 i), (37, AV.int IntKind.i64 (IntKind.i64.wrap ((↑xs.length : Int) + (1 : Int)))), (36, AV.int IntKind.i64 (1 : Int)), (35, AV.int IntKind.i64 (↑xs.length : Int)), (34, AV.hc 0 0 i.toNat c), (33, AV.int IntKind.i64 i), (32, AV.hc 0 0 xs.length c), (31, AV.bool (decide (IntKind.i64.wrap ((↑xs.length : Int) + (1 : Int)) > (↑c : Int)))), (30, AV.int IntKind.i64 (↑c : Int)), (29, AV.hc 0 0 xs.length c), (28, AV.int IntKind.i64 (IntKind.i64.wrap ((↑xs.length : Int) + (1 : Int)))), (27, AV.int IntKind.i64 (1 : Int)), (26, AV.int IntKind.i64 (↑xs.length : Int)), (22, AV.bool (i == (↑xs.length : Int))), (21, AV.int IntKind.i64 (↑xs.length : Int)), (20, AV.int IntKind.i64 i), (8, AV.int IntKind.i64 (↑xs.length : Int)), (19, AV.int IntKind.i64 (↑xs.length : Int)), (18, AV.hc 0 0 xs.length c), (16, AV.bool false), (15, AV.int IntKind.i64 (1 : Int)), (7, AV.int IntKind.i64 (1 : Int)), (14, AV.int IntKind.i64 (1 : Int)), (13, AV.hw 1), (12, AV.hc 0 i.toNat (xs.length - i.toNat) (cutCap c (some i.toNat))), (11, AV.int IntKind.i64 i), (10, AV.hc 0 0 xs.length c), (6, AV.hw 2), (0, AV.hc 0 0 xs.length c), (1, AV.int IntKind.i64 i), (2, AV.hw 1)], objs := [(3, AObj.arr 3 ((Ty.int IntKind.i64).pair ((Ty.int IntKind.i64).pair (Ty.int IntKind.i64))) (List.take (IntKind.i64.wrap (i + (1 : Int))).toNat (List.take i.toNat (List.take i.toNat xs ++ List.replicate (IntKind.i64.wrap (IntKind.i64.wrap ((↑xs.length : Int) + (1 : Int)) - i)).toNat ((Ty.int IntKind.i64).pair ((Ty.int IntKind.i64).pair (Ty.int IntKind.i64))).zero) ++ [r] ++ List.drop (i.toNat + 1) (List.take i.toNat xs ++ List.replicate (IntKind.i64.wrap (IntKind.i64.wrap ((↑xs.length : Int) + (1 : Int)) - i)).toNat ((Ty.int IntKind.i64).pair ((Ty.int IntKind.i64).pair (Ty.int IntKind.i64))).zero)) ++ List.drop i.toNat xs ++ List.drop ((IntKind.i64.wrap (i + (1 : Int))).toNat + (List.drop i.toNat xs).length) (List.take i.toNat (List.take i.toNat xs ++ List.replicate (IntKind.i64.wrap (IntKind.i64.wrap ((↑xs.length : Int) + (1 : Int)) - i)).toNat ((Ty.int IntKind.i64).pair ((Ty.int IntKind.i64).pair (Ty.int IntKind.i64))).zero) ++ [r] ++ List.drop (i.toNat + 1) (List.take i.toNat xs ++ List.replicate (IntKind.i64.wrap (IntKind.i64.wrap ((↑xs.length : Int) + (1 : Int)) - i)).toNat ((Ty.int IntKind.i64).pair ((Ty.int IntKind.i64).pair (Ty.int IntKind.i64))).zero))) []), (0, AObj.dead), (3, AObj.arr 3 ((Ty.int IntKind.i64).pair ((Ty.int IntKind.i64).pair (Ty.int IntKind.i64))) (List.take i.toNat (List.take i.toNat xs ++ List.replicate (IntKind.i64.wrap (IntKind.i64.wrap ((↑xs.length : Int) + (1 : Int)) - i)).toNat ((Ty.int IntKind.i64).pair ((Ty.int IntKind.i64).pair (Ty.int IntKind.i64))).zero) ++ [r] ++ List.drop (i.toNat + 1) (List.take i.toNat xs ++ List.replicate (IntKind.i64.wrap (IntKind.i64.wrap ((↑xs.length : Int) + (1 : Int)) - i)).toNat ((Ty.int IntKind.i64).pair ((Ty.int IntKind.i64).pair (Ty.int IntKind.i64))).zero)) []), (3, AObj.arr 3 ((Ty.int IntKind.i64).pair ((Ty.int IntKind.i64).pair (Ty.int IntKind.i64))) (List.take i.toNat xs ++ List.replicate (IntKind.i64.wrap (IntKind.i64.wrap ((↑xs.length : Int) + (1 : Int)) - i)).toNat ((Ty.int IntKind.i64).pair ((Ty.int IntKind.i64).pair (Ty.int IntKind.i64))).zero) []), (2, AObj.arr 3 ((Ty.int IntKind.i64).pair ((Ty.int IntKind.i64).pair (Ty.int IntKind.i64))) [] []), (0, AObj.arr 3 ((Ty.int IntKind.i64).pair ((Ty.int IntKind.i64).pair (Ty.int IntKind.i64))) xs []), (1, AObj.arr 3 Ty.bool [] [[AV.int IntKind.i64 r.fst, AV.int IntKind.i64 r.snd.fst, AV.int IntKind.i64 r.snd.snd]])], nx := 4 }
def insN (xs : List Row3) (i : Int) (r : Row3) (c : Nat) : St := { slots := [(31, AV.bool (decide (IntKind.i64.wrap ((↑xs.length : Int) + (1 : Int)) > (↑c : Int)))), (30, AV.int IntKind.i64 (↑c : Int)), (29, AV.hc 0 0 xs.length c), (28, AV.int IntKind.i64 (IntKind.i64.wrap ((↑xs.length : Int) + (1 : Int)))), (27, AV.int IntKind.i64 (1 : Int)), (26, AV.int IntKind.i64 (↑xs.length : Int)), (22, AV.bool (i == (↑xs.length : Int))), (21, AV.int IntKind.i64 (↑xs.length : Int)), (20, AV.int IntKind.i64 i), (8, AV.int IntKind.i64 (↑xs.length : Int)), (19, AV.int IntKind.i64 (↑xs.length : Int)), (18, AV.hc 0 0 xs.length c), (16, AV.bool false), (15, AV.int IntKind.i64 (1 : Int)), (7, AV.int IntKind.i64 (1 : Int)), (14, AV.int IntKind.i64 (1 : Int)), (13, AV.hw 1), (12, AV.hc 0 i.toNat (xs.length - i.toNat) (cutCap c (some i.toNat))), (11, AV.int IntKind.i64 i), (10, AV.hc 0 0 xs.length c), (6, AV.hw 2), (0, AV.hc 0 0 xs.length c), (1, AV.int IntKind.i64 i), (2, AV.hw 1)], objs := [(2, AObj.arr 3 ((Ty.int IntKind.i64).pair ((Ty.int IntKind.i64).pair (Ty.int IntKind.i64))) [] []), (0, AObj.arr 3 ((Ty.int IntKind.i64).pair ((Ty.int IntKind.i64).pair (Ty.int IntKind.i64))) xs []), (1, AObj.arr 3 Ty.bool [] [[AV.int IntKind.i64 r.fst, AV.int IntKind.i64 r.snd.fst, AV.int IntKind.i64 r.snd.snd]])], nx := 3 }
theorem ins2_ev {R : Type} (xs : List Row3) (i : Int) (r : Row3) (c : Nat) (K : Ex → St → Option R) : ev (env consA3) H.ins2 2 (LPof []) (preC 1 (sufC 7 B.slices_Insert_dedup_Row_dedup_Row)) (insN xs i r c) K = bif decide ((0 : Int) ≤ IntKind.i64.wrap ((↑xs.length : Int) + (1 : Int))) && decide (IntKind.i64.wrap ((↑xs.length : Int) + (1 : Int)) ≤ (↑xs.length : Int)) then K Ex.normal { slots := [(0, AV.hc 0 0 (IntKind.i64.wrap ((↑xs.length : Int) + (1 : Int))).toNat c), (60, AV.hc 0 0 (IntKind.i64.wrap ((↑xs.length : Int) + (1 : Int))).toNat c), (59, AV.int IntKind.i64 (IntKind.i64.wrap ((↑xs.length : Int) + (1 : Int)))), (58, AV.int IntKind.i64 (1 : Int)), (57, AV.int IntKind.i64 (↑xs.length : Int)), (56, AV.hc 0 0 xs.length c), (31, AV.bool (decide (IntKind.i64.wrap ((↑xs.length : Int) + (1 : Int)) > (↑c : Int)))), (30, AV.int IntKind.i64 (↑c : Int)), (29, AV.hc 0 0 xs.length c), (28, AV.int IntKind.i64 (IntKind.i64.wrap ((↑xs.length : Int) + (1 : Int)))), (27, AV.int IntKind.i64 (1 : Int)), (26, AV.int IntKind.i64 (↑xs.length : Int)), (22, AV.bool (i == (↑xs.length : Int))), (21, AV.int IntKind.i64 (↑xs.length : Int)), (20, AV.int IntKind.i64 i), (8, AV.int IntKind.i64 (↑xs.length : Int)), (19, AV.int IntKind.i64 (↑xs.length : Int)), (18, AV.hc 0 0 xs.length c), (16, AV.bool false), (15, AV.int IntKind.i64 (1 : Int)), (7, AV.int IntKind.i64 (1 : Int)), (14, AV.int IntKind.i64 (1 : Int)), (13, AV.hw 1), (12, AV.hc 0 i.toNat (xs.length - i.toNat) (cutCap c (some i.toNat))), (11, AV.int IntKind.i64 i), (10, AV.hc 0 0 xs.length c), (6, AV.hw 2), (0, AV.hc 0 0 xs.length c), (1, AV.int IntKind.i64 i), (2, AV.hw 1)], objs := [(2, AObj.arr 3 ((Ty.int IntKind.i64).pair ((Ty.int IntKind.i64).pair (Ty.int IntKind.i64))) [] []), (0, AObj.arr 3 ((Ty.int IntKind.i64).pair ((Ty.int IntKind.i64).pair (Ty.int IntKind.i64))) xs []), (1, AObj.arr 3 Ty.bool [] [[AV.int IntKind.i64 r.fst, AV.int IntKind.i64 r.snd.fst, AV.int IntKind.i64 r.snd.snd]])], nx := 3 } else bif decide (IntKind.i64.wrap ((↑xs.length : Int) + (1 : Int)) = (↑xs.length : Int) + (1 : Int)) && decide (xs.length + 1 ≤ c) && decide (0 + xs.length = xs.length) && decide (xs.length < 9223372036854775807) && true then K Ex.normal { slots := [(0, AV.hc 3 0 (xs.length + 1) c), (60, AV.hc 3 0 (xs.length + 1) c), (59, AV.int IntKind.i64 (IntKind.i64.wrap ((↑xs.length : Int) + (1 : Int)))), (58, AV.int IntKind.i64 (1 : Int)), (57, AV.int IntKind.i64 (↑xs.length : Int)), (56, AV.hc 0 0 xs.length c), (31, AV.bool (decide (IntKind.i64.wrap ((↑xs.length : Int) + (1 : Int)) > (↑c : Int)))), (30, AV.int IntKind.i64 (↑c : Int)), (29, AV.hc 0 0 xs.length c), (28, AV.int IntKind.i64 (IntKind.i64.wrap ((↑xs.length : Int) + (1 : Int)))), (27, AV.int IntKind.i64 (1 : Int)), (26, AV.int IntKind.i64 (↑xs.length : Int)), (22, AV.bool (i == (↑xs.length : Int))), (21, AV.int IntKind.i64 (↑xs.length : Int)), (20, AV.int IntKind.i64 i), (8, AV.int IntKind.i64 (↑xs.length : Int)), (19, AV.int IntKind.i64 (↑xs.length : Int)), (18, AV.hc 0 0 xs.length c), (16, AV.bool false), (15, AV.int IntKind.i64 (1 : Int)), (7, AV.int IntKind.i64 (1 : Int)), (14, AV.int IntKind.i64 (1 : Int)), (13, AV.hw 1), (12, AV.hc 0 i.toNat (xs.length - i.toNat) (cutCap c (some i.toNat))), (11, AV.int IntKind.i64 i), (10, AV.hc 0 0 xs.length c), (6, AV.hw 2), (0, AV.hc 0 0 xs.length c), (1, AV.int IntKind.i64 i), (2, AV.hw 1)], objs := [(3, AObj.arr 3 ((Ty.int IntKind.i64).pair ((Ty.int IntKind.i64).pair (Ty.int IntKind.i64))) xs [[AV.undef, AV.undef, AV.undef]]), (0, AObj.dead), (2, AObj.arr 3 ((Ty.int IntKind.i64).pair ((Ty.int IntKind.i64).pair (Ty.int IntKind.i64))) [] []), (0, AObj.arr 3 ((Ty.int IntKind.i64).pair ((Ty.int IntKind.i64).pair (Ty.int IntKind.i64))) xs []), (1, AObj.arr 3 Ty.bool [] [[AV.int IntKind.i64 r.fst, AV.int IntKind.i64 r.snd.fst, AV.int IntKind.i64 r.snd.snd]])], nx := 4 } else none := by kernel_rfl

end Go.Sim.XD
namespace Go.Sim.XD
set_option linter.unusedSimpArgs false
set_option linter.unusedVariables false
set_option maxRecDepth 10000
def insM (xs : List Row3) (i : Int) (r : Row3) (c : Nat) : St := { slots := [(0, AV.hc 3 0 (xs.length + 1) c), (60, AV.hc 3 0 (xs.length + 1) c), (59, AV.int IntKind.i64 (IntKind.i64.wrap ((↑xs.length : Int) + (1 : Int)))), (58, AV.int IntKind.i64 (1 : Int)), (57, AV.int IntKind.i64 (↑xs.length : Int)), (56, AV.hc 0 0 xs.length c), (31, AV.bool (decide (IntKind.i64.wrap ((↑xs.length : Int) + (1 : Int)) > (↑c : Int)))), (30, AV.int IntKind.i64 (↑c : Int)), (29, AV.hc 0 0 xs.length c), (28, AV.int IntKind.i64 (IntKind.i64.wrap ((↑xs.length : Int) + (1 : Int)))), (27, AV.int IntKind.i64 (1 : Int)), (26, AV.int IntKind.i64 (↑xs.length : Int)), (22, AV.bool (i == (↑xs.length : Int))), (21, AV.int IntKind.i64 (↑xs.length : Int)), (20, AV.int IntKind.i64 i), (8, AV.int IntKind.i64 (↑xs.length : Int)), (19, AV.int IntKind.i64 (↑xs.length : Int)), (18, AV.hc 0 0 xs.length c), (16, AV.bool false), (15, AV.int IntKind.i64 (1 : Int)), (7, AV.int IntKind.i64 (1 : Int)), (14, AV.int IntKind.i64 (1 : Int)), (13, AV.hw 1), (12, AV.hc 0 i.toNat (xs.length - i.toNat) (cutCap c (some i.toNat))), (11, AV.int IntKind.i64 i), (10, AV.hc 0 0 xs.length c), (6, AV.hw 2), (0, AV.hc 0 0 xs.length c), (1, AV.int IntKind.i64 i), (2, AV.hw 1)], objs := [(3, AObj.arr 3 ((Ty.int IntKind.i64).pair ((Ty.int IntKind.i64).pair (Ty.int IntKind.i64))) xs [[AV.undef, AV.undef, AV.undef]]), (0, AObj.dead), (2, AObj.arr 3 ((Ty.int IntKind.i64).pair ((Ty.int IntKind.i64).pair (Ty.int IntKind.i64))) [] []), (0, AObj.arr 3 ((Ty.int IntKind.i64).pair ((Ty.int IntKind.i64).pair (Ty.int IntKind.i64))) xs []), (1, AObj.arr 3 Ty.bool [] [[AV.int IntKind.i64 r.fst, AV.int IntKind.i64 r.snd.fst, AV.int IntKind.i64 r.snd.snd]])], nx := 4 }
theorem ins3_ev {R : Type} (xs : List Row3) (i : Int) (r : Row3) (c : Nat) (K : Ex → St → Option R) : ev (env consA3) H.ins2 2 (LPof []) (sufC 8 B.slices_Insert_dedup_Row_dedup_Row) (insM xs i r c) K = bif decide ((0 : Int) ≤ IntKind.i64.wrap (i + (1 : Int))) && decide (IntKind.i64.wrap (i + (1 : Int)) ≤ (↑(xs.length + 1) : Int)) then bif decide (0 < cutCap c (some (IntKind.i64.wrap (i + (1 : Int))).toNat)) then bif decide ((0 : Int) ≤ IntKind.i64.wrap (i + (1 : Int))) && decide (IntKind.i64.wrap (i + (1 : Int)) ≤ (↑(xs.length + 1) : Int)) then bif decide ((0 : Int) ≤ i) && decide (i ≤ (↑(xs.length + 1) : Int)) then bif decide ((IntKind.i64.wrap (i + (1 : Int))).toNat + (xs.length + 1 - (IntKind.i64.wrap (i + (1 : Int))).toNat) = xs.length + 1) && decide ((IntKind.i64.wrap (i + (1 : Int))).toNat ≤ xs.length) && decide (i.toNat + (xs.length + 1 - (IntKind.i64.wrap (i + (1 : Int))).toNat) ≤ xs.length) && decide (xs.length + 1 - (IntKind.i64.wrap (i + (1 : Int))).toNat ≤ xs.length + 1 - i.toNat) then bif decide ((0 : Int) ≤ i) && decide (i ≤ (↑(xs.length + 1) : Int)) then bif decide (1 ≤ xs.length + 1 - i.toNat) && decide (i.toNat + 1 ≤ (List.take xs.length (List.take (IntKind.i64.wrap (i + (1 : Int))).toNat xs ++ List.take (xs.length + 1 - (IntKind.i64.wrap (i + (1 : Int))).toNat) (List.drop i.toNat xs))).length) then bif decide (xs.length + 1 = (List.take i.toNat (List.take xs.length (List.take (IntKind.i64.wrap (i + (1 : Int))).toNat xs ++ List.take (xs.length + 1 - (IntKind.i64.wrap (i + (1 : Int))).toNat) (List.drop i.toNat xs))) ++ [r] ++ List.drop (i.toNat + 1) (List.take xs.length (List.take (IntKind.i64.wrap (i + (1 : Int))).toNat xs ++ List.take (xs.length + 1 - (IntKind.i64.wrap (i + (1 : Int))).toNat) (List.drop i.toNat xs)))).length + 1) && decide (0 < c) then K Ex.ret { slots := [(6, AV.hw 4), (83, AV.hw 3), (82, AV.int IntKind.i64 (1 : Int)), (81, AV.hw 1), (80, AV.hc 3 i.toNat (xs.length + 1 - i.toNat) (cutCap c (some i.toNat))), (79, AV.int IntKind.i64 i), (78, AV.hc 3 0 (xs.length + 1) c), (77, AV.int IntKind.i64 (↑(xs.length + 1 - (IntKind.i64.wrap (i + (1 : Int))).toNat) : Int)), (76, AV.hc 3 i.toNat (xs.length + 1 - i.toNat) (cutCap c (some i.toNat))), (75, AV.int IntKind.i64 i), (74, AV.hc 3 0 (xs.length + 1) c), (73, AV.hc 3 (IntKind.i64.wrap (i + (1 : Int))).toNat (xs.length + 1 - (IntKind.i64.wrap (i + (1 : Int))).toNat) (cutCap c (some (IntKind.i64.wrap (i + (1 : Int))).toNat))), (72, AV.int IntKind.i64 (IntKind.i64.wrap (i + (1 : Int)))), (71, AV.int IntKind.i64 (1 : Int)), (70, AV.int IntKind.i64 i), (69, AV.hc 3 0 (xs.length + 1) c), (68, AV.bool true), (67, AV.bool false), (66, AV.hc 3 (IntKind.i64.wrap (i + (1 : Int))).toNat (xs.length + 1 - (IntKind.i64.wrap (i + (1 : Int))).toNat) (cutCap c (some (IntKind.i64.wrap (i + (1 : Int))).toNat))), (65, AV.int IntKind.i64 (IntKind.i64.wrap (i + (1 : Int)))), (64, AV.int IntKind.i64 (1 : Int)), (63, AV.int IntKind.i64 i), (62, AV.hc 3 0 (xs.length + 1) c), (61, AV.hw 1), (0, AV.hc 3 0 (xs.length + 1) c), (60, AV.hc 3 0 (xs.length + 1) c), (59, AV.int IntKind.i64 (IntKind.i64.wrap ((↑xs.length : Int) + (1 : Int)))), (58, AV.int IntKind.i64 (1 : Int)), (57, AV.int IntKind.i64 (↑xs.length : Int)), (56, AV.hc 0 0 xs.length c), (31, AV.bool (decide (IntKind.i64.wrap ((↑xs.length : Int) + (1 : Int)) > (↑c : Int)))), (30, AV.int IntKind.i64 (↑c : Int)), (29, AV.hc 0 0 xs.length c), (28, AV.int IntKind.i64 (IntKind.i64.wrap ((↑xs.length : Int) + (1 : Int)))), (27, AV.int IntKind.i64 (1 : Int)), (26, AV.int IntKind.i64 (↑xs.length : Int)), (22, AV.bool (i == (↑xs.length : Int))), (21, AV.int IntKind.i64 (↑xs.length : Int)), (20, AV.int IntKind.i64 i), (8, AV.int IntKind.i64 (↑xs.length : Int)), (19, AV.int IntKind.i64 (↑xs.length : Int)), (18, AV.hc 0 0 xs.length c), (16, AV.bool false), (15, AV.int IntKind.i64 (1 : Int)), (7, AV.int IntKind.i64 (1 : Int)), (14, AV.int IntKind.i64 (1 : Int)), (13, AV.hw 1), (12, AV.hc 0 i.toNat (xs.length - i.toNat) (cutCap c (some i.toNat))), (11, AV.int IntKind.i64 i), (10, AV.hc 0 0 xs.length c), (6, AV.hw 2), (0, AV.hc 0 0 xs.length c), (1, AV.int IntKind.i64 i), (2, AV.hw 1)], objs := [(4, AObj.arr 3 ((Ty.int IntKind.i64).pair ((Ty.int IntKind.i64).pair (Ty.int IntKind.i64))) (List.take i.toNat (List.take xs.length (List.take (IntKind.i64.wrap (i + (1 : Int))).toNat xs ++ List.take (xs.length + 1 - (IntKind.i64.wrap (i + (1 : Int))).toNat) (List.drop i.toNat xs))) ++ [r] ++ List.drop (i.toNat + 1) (List.take xs.length (List.take (IntKind.i64.wrap (i + (1 : Int))).toNat xs ++ List.take (xs.length + 1 - (IntKind.i64.wrap (i + (1 : Int))).toNat) (List.drop i.toNat xs))) ++ [(List.take (IntKind.i64.wrap (i + (1 : Int))).toNat xs ++ List.take (xs.length + 1 - (IntKind.i64.wrap (i + (1 : Int))).toNat) (List.drop i.toNat xs)).getD xs.length ((Ty.int IntKind.i64).pair ((Ty.int IntKind.i64).pair (Ty.int IntKind.i64))).zero]) []), (3, AObj.dead), (3, AObj.arr 3 ((Ty.int IntKind.i64).pair ((Ty.int IntKind.i64).pair (Ty.int IntKind.i64))) (List.take i.toNat (List.take xs.length (List.take (IntKind.i64.wrap (i + (1 : Int))).toNat xs ++ List.take (xs.length + 1 - (IntKind.i64.wrap (i + (1 : Int))).toNat) (List.drop i.toNat xs))) ++ [r] ++ List.drop (i.toNat + 1) (List.take xs.length (List.take (IntKind.i64.wrap (i + (1 : Int))).toNat xs ++ List.take (xs.length + 1 - (IntKind.i64.wrap (i + (1 : Int))).toNat) (List.drop i.toNat xs)))) [[AV.int IntKind.i64 ((List.take (IntKind.i64.wrap (i + (1 : Int))).toNat xs ++ List.take (xs.length + 1 - (IntKind.i64.wrap (i + (1 : Int))).toNat) (List.drop i.toNat xs)).getD xs.length ((Ty.int IntKind.i64).pair ((Ty.int IntKind.i64).pair (Ty.int IntKind.i64))).zero).fst, AV.int IntKind.i64 ((List.take (IntKind.i64.wrap (i + (1 : Int))).toNat xs ++ List.take (xs.length + 1 - (IntKind.i64.wrap (i + (1 : Int))).toNat) (List.drop i.toNat xs)).getD xs.length ((Ty.int IntKind.i64).pair ((Ty.int IntKind.i64).pair (Ty.int IntKind.i64))).zero).snd.fst, AV.int IntKind.i64 ((List.take (IntKind.i64.wrap (i + (1 : Int))).toNat xs ++ List.take (xs.length + 1 - (IntKind.i64.wrap (i + (1 : Int))).toNat) (List.drop i.toNat xs)).getD xs.length ((Ty.int IntKind.i64).pair ((Ty.int IntKind.i64).pair (Ty.int IntKind.i64))).zero).snd.snd]]), (3, AObj.arr 3 ((Ty.int IntKind.i64).pair ((Ty.int IntKind.i64).pair (Ty.int IntKind.i64))) (List.take xs.length (List.take (IntKind.i64.wrap (i + (1 : Int))).toNat xs ++ List.take (xs.length + 1 - (IntKind.i64.wrap (i + (1 : Int))).toNat) (List.drop i.toNat xs))) [[AV.int IntKind.i64 ((List.take (IntKind.i64.wrap (i + (1 : Int))).toNat xs ++ List.take (xs.length + 1 - (IntKind.i64.wrap (i + (1 : Int))).toNat) (List.drop i.toNat xs)).getD xs.length ((Ty.int IntKind.i64).pair ((Ty.int IntKind.i64).pair (Ty.int IntKind.i64))).zero).fst, AV.int IntKind.i64 ((List.take (IntKind.i64.wrap (i + (1 : Int))).toNat xs ++ List.take (xs.length + 1 - (IntKind.i64.wrap (i + (1 : Int))).toNat) (List.drop i.toNat xs)).getD xs.length ((Ty.int IntKind.i64).pair ((Ty.int IntKind.i64).pair (Ty.int IntKind.i64))).zero).snd.fst, AV.int IntKind.i64 ((List.take (IntKind.i64.wrap (i + (1 : Int))).toNat xs ++ List.take (xs.length + 1 - (IntKind.i64.wrap (i + (1 : Int))).toNat) (List.drop i.toNat xs)).getD xs.length ((Ty.int IntKind.i64).pair ((Ty.int IntKind.i64).pair (Ty.int IntKind.i64))).zero).snd.snd]]), (3, AObj.arr 3 ((Ty.int IntKind.i64).pair ((Ty.int IntKind.i64).pair (Ty.int IntKind.i64))) xs [[AV.undef, AV.undef, AV.undef]]), (0, AObj.dead), (2, AObj.arr 3 ((Ty.int IntKind.i64).pair ((Ty.int IntKind.i64).pair (Ty.int IntKind.i64))) [] []), (0, AObj.arr 3 ((Ty.int IntKind.i64).pair ((Ty.int IntKind.i64).pair (Ty.int IntKind.i64))) xs []), (1, AObj.arr 3 Ty.bool [] [[AV.int IntKind.i64 r.fst, AV.int IntKind.i64 r.snd.fst, AV.int IntKind.i64 r.snd.snd]])], nx := 5 } else none else none else none else none else none else none else none else none := by kernel_rfl

end Go.Sim.XD
namespace Go.Sim.XD
set_option linter.unusedSimpArgs false
set_option linter.unusedVariables false
set_option maxRecDepth 10000
def insR3 (xs : List Row3) (i : Int) (r : Row3) (c : Nat) : St := { slots := [(6, AV.hw 4), (83, AV.hw 3), (82, AV.int IntKind.i64 (1 : Int)), (81, AV.hw 1), (80, AV.hc 3 i.toNat (xs.length + 1 - i.toNat) (cutCap c (some i.toNat))), (79, AV.int IntKind.i64 i), (78, AV.hc 3 0 (xs.length + 1) c), (77, AV.int IntKind.i64 (↑(xs.length + 1 - (IntKind.i64.wrap (i + (1 : Int))).toNat) : Int)), (76, AV.hc 3 i.toNat (xs.length + 1 - i.toNat) (cutCap c (some i.toNat))), (75, AV.int IntKind.i64 i), (74, AV.hc 3 0 (xs.length + 1) c), (73, AV.hc 3 (IntKind.i64.wrap (i + (1 : Int))).toNat (xs.length + 1 - (IntKind.i64.wrap (i + (1 : Int))).toNat) (cutCap c (some (IntKind.i64.wrap (i + (1 : Int))).toNat))), (72, AV.int IntKind.i64 (IntKind.i64.wrap (i + (1 : Int)))), (71, AV.int IntKind.i64 (1 : Int)), (70, AV.int IntKind.i64 i), (69, AV.hc 3 0 (xs.length + 1) c), (68, AV.bool true), (67, AV.bool false), (66, AV.hc 3 (IntKind.i64.wrap (i + (1 : Int))).toNat (xs.length + 1 - (IntKind.i64.wrap (i + (1 : Int))).toNat) (cutCap c (some (IntKind.i64.wrap (i + (1 : Int))).toNat))), (65, AV.int IntKind.i64 (IntKind.i64.wrap (i + (1 : Int)))), (64, AV.int IntKind.i64 (1 : Int)), (63, AV.int IntKind.i64 i), (62, AV.hc 3 0 (xs.length + 1) c), (61, AV.hw 1), (0, AV.hc 3 0 (xs.length + 1) c), (60, AV.hc 3 0 (xs.length + 1) c), (59, AV.int IntKind.i64 (IntKind.i64.wrap ((↑xs.length : Int) + (1 : Int)))), (58, AV.int IntKind.i64 (1 : Int)), (57, AV.int IntKind.i64 (↑xs.length : Int)), (56, AV.hc 0 0 xs.length c), (31, AV.bool (decide (IntKind.i64.wrap ((↑xs.length : Int) + (1 : Int)) > (↑c : Int)))), (30, AV.int IntKind.i64 (↑c : Int)), (29, AV.hc 0 0 xs.length c), (28, AV.int IntKind.i64 (IntKind.i64.wrap ((↑xs.length : Int) + (1 : Int)))), (27, AV.int IntKind.i64 (1 : Int)), (26, AV.int IntKind.i64 (↑xs.length : Int)), (22, AV.bool (i == (↑xs.length : Int))), (21, AV.int IntKind.i64 (↑xs.length : Int)), (20, AV.int IntKind.i64 i), (8, AV.int IntKind.i64 (↑xs.length : Int)), (19, AV.int IntKind.i64 (↑xs.length : Int)), (18, AV.hc 0 0 xs.length c), (16, AV.bool false), (15, AV.int IntKind.i64 (1 : Int)), (7, AV.int IntKind.i64 (1 : Int)), (14, AV.int IntKind.i64 (1 : Int)), (13, AV.hw 1), (12, AV.hc 0 i.toNat (xs.length - i.toNat) (cutCap c (some i.toNat))), (11, AV.int IntKind.i64 i), (10, AV.hc 0 0 xs.length c), (6, AV.hw 2), (0, AV.hc 0 0 xs.length c), (1, AV.int IntKind.i64 i), (2, AV.hw 1)], objs := [(4, AObj.arr 3 ((Ty.int IntKind.i64).pair ((Ty.int IntKind.i64).pair (Ty.int IntKind.i64))) (List.take i.toNat (List.take xs.length (List.take (IntKind.i64.wrap (i + (1 : Int))).toNat xs ++ List.take (xs.length + 1 - (IntKind.i64.wrap (i + (1 : Int))).toNat) (List.drop i.toNat xs))) ++ [r] ++ List.drop (i.toNat + 1) (List.take xs.length (List.take (IntKind.i64.wrap (i + (1 : Int))).toNat xs ++ List.take (xs.length + 1 - (IntKind.i64.wrap (i + (1 : Int))).toNat) (List.drop i.toNat xs))) ++ [(List.take (IntKind.i64.wrap (i + (1 : Int))).toNat xs ++ List.take (xs.length + 1 - (IntKind.i64.wrap (i + (1 : Int))).toNat) (List.drop i.toNat xs)).getD xs.length ((Ty.int IntKind.i64).pair ((Ty.int IntKind.i64).pair (Ty.int IntKind.i64))).zero]) []), (3, AObj.dead), (3, AObj.arr 3 ((Ty.int IntKind.i64).pair ((Ty.int IntKind.i64).pair (Ty.int IntKind.i64))) (List.take i.toNat (List.take xs.length (List.take (IntKind.i64.wrap (i + (1 : Int))).toNat xs ++ List.take (xs.length + 1 - (IntKind.i64.wrap (i + (1 : Int))).toNat) (List.drop i.toNat xs))) ++ [r] ++ List.drop (i.toNat + 1) (List.take xs.length (List.take (IntKind.i64.wrap (i + (1 : Int))).toNat xs ++ List.take (xs.length + 1 - (IntKind.i64.wrap (i + (1 : Int))).toNat) (List.drop i.toNat xs)))) [[AV.int IntKind.i64 ((List.take (IntKind.i64.wrap (i + (1 : Int))).toNat xs ++ List.take (xs.length + 1 - (IntKind.i64.wrap (i + (1 : Int))).toNat) (List.drop i.toNat xs)).getD xs.length ((Ty.int IntKind.i64).pair ((Ty.int IntKind.i64).pair (Ty.int IntKind.i64))).zero).fst, AV.int IntKind.i64 ((List.take (IntKind.i64.wrap (i + (1 : Int))).toNat xs ++ List.take (xs.length + 1 - (IntKind.i64.wrap (i + (1 : Int))).toNat) (List.drop i.toNat xs)).getD xs.length ((Ty.int IntKind.i64).pair ((Ty.int IntKind.i64).pair (Ty.int IntKind.i64))).zero).snd.fst, AV.int IntKind.i64 ((List.take (IntKind.i64.wrap (i + (1 : Int))).toNat xs ++ List.take (xs.length + 1 - (IntKind.i64.wrap (i + (1 : Int))).toNat) (List.drop i.toNat xs)).getD xs.length ((Ty.int IntKind.i64).pair ((Ty.int IntKind.i64).pair (Ty.int IntKind.i64))).zero).snd.snd]]), (3, AObj.arr 3 ((Ty.int IntKind.i64).pair ((Ty.int IntKind.i64).pair (Ty.int IntKind.i64))) (List.take xs.length (List.take (IntKind.i64.wrap (i + (1 : Int))).toNat xs ++ List.take (xs.length + 1 - (IntKind.i64.wrap (i + (1 : Int))).toNat) (List.drop i.toNat xs))) [[AV.int IntKind.i64 ((List.take (IntKind.i64.wrap (i + (1 : Int))).toNat xs ++ List.take (xs.length + 1 - (IntKind.i64.wrap (i + (1 : Int))).toNat) (List.drop i.toNat xs)).getD xs.length ((Ty.int IntKind.i64).pair ((Ty.int IntKind.i64).pair (Ty.int IntKind.i64))).zero).fst, AV.int IntKind.i64 ((List.take (IntKind.i64.wrap (i + (1 : Int))).toNat xs ++ List.take (xs.length + 1 - (IntKind.i64.wrap (i + (1 : Int))).toNat) (List.drop i.toNat xs)).getD xs.length ((Ty.int IntKind.i64).pair ((Ty.int IntKind.i64).pair (Ty.int IntKind.i64))).zero).snd.fst, AV.int IntKind.i64 ((List.take (IntKind.i64.wrap (i + (1 : Int))).toNat xs ++ List.take (xs.length + 1 - (IntKind.i64.wrap (i + (1 : Int))).toNat) (List.drop i.toNat xs)).getD xs.length ((Ty.int IntKind.i64).pair ((Ty.int IntKind.i64).pair (Ty.int IntKind.i64))).zero).snd.snd]]), (3, AObj.arr 3 ((Ty.int IntKind.i64).pair ((Ty.int IntKind.i64).pair (Ty.int IntKind.i64))) xs [[AV.undef, AV.undef, AV.undef]]), (0, AObj.dead), (2, AObj.arr 3 ((Ty.int IntKind.i64).pair ((Ty.int IntKind.i64).pair (Ty.int IntKind.i64))) [] []), (0, AObj.arr 3 ((Ty.int IntKind.i64).pair ((Ty.int IntKind.i64).pair (Ty.int IntKind.i64))) xs []), (1, AObj.arr 3 Ty.bool [] [[AV.int IntKind.i64 r.fst, AV.int IntKind.i64 r.snd.fst, AV.int IntKind.i64 r.snd.snd]])], nx := 5 }
abbrev insOut : List OPat := [.dead, .box 3 [[.int .i64, .int .i64, .int .i64]], .arr 3 rowT []]
noncomputable def insFin (e : Ex) (s : St) : Option ((Pat.lit (.hw 2)).den × opatsDen insOut) := match e with
  | .exit _ => none
  | _ => (resultsOf (env consA3) s F.slices_Insert_dedup_Row_dedup_Row.results.toList).bind fun vs => finV (.lit (.hw 2)) insOut 2 (oneOr vs) s
theorem fin1_ev (xs : List Row3) (i : Int) (r : Row3) (c : Nat) : insFin .ret (insR1 xs i r c) = some ((), (), ((r.fst, r.snd.fst, r.snd.snd, ()), ()), (List.take xs.length xs ++ [r], ()), ()) := by kernel_rfl

theorem fin2_ev (xs : List Row3) (i : Int) (r : Row3) (c : Nat) : insFin .ret (insR2 xs i r c) = some ((), (), ((r.fst, r.snd.fst, r.snd.snd, ()), ()), (List.take (IntKind.i64.wrap (i + (1 : Int))).toNat (List.take i.toNat (List.take i.toNat xs ++ List.replicate (IntKind.i64.wrap (IntKind.i64.wrap ((↑xs.length : Int) + (1 : Int)) - i)).toNat ((Ty.int IntKind.i64).pair ((Ty.int IntKind.i64).pair (Ty.int IntKind.i64))).zero) ++ [r] ++ List.drop (i.toNat + 1) (List.take i.toNat xs ++ List.replicate (IntKind.i64.wrap (IntKind.i64.wrap ((↑xs.length : Int) + (1 : Int)) - i)).toNat ((Ty.int IntKind.i64).pair ((Ty.int IntKind.i64).pair (Ty.int IntKind.i64))).zero)) ++ List.drop i.toNat xs ++ List.drop ((IntKind.i64.wrap (i + (1 : Int))).toNat + (List.drop i.toNat xs).length) (List.take i.toNat (List.take i.toNat xs ++ List.replicate (IntKind.i64.wrap (IntKind.i64.wrap ((↑xs.length : Int) + (1 : Int)) - i)).toNat ((Ty.int IntKind.i64).pair ((Ty.int IntKind.i64).pair (Ty.int IntKind.i64))).zero) ++ [r] ++ List.drop (i.toNat + 1) (List.take i.toNat xs ++ List.replicate (IntKind.i64.wrap (IntKind.i64.wrap ((↑xs.length : Int) + (1 : Int)) - i)).toNat ((Ty.int IntKind.i64).pair ((Ty.int IntKind.i64).pair (Ty.int IntKind.i64))).zero)), ()), ()) := by kernel_rfl

theorem fin3_ev (xs : List Row3) (i : Int) (r : Row3) (c : Nat) : insFin .ret (insR3 xs i r c) = some ((), (), ((r.fst, r.snd.fst, r.snd.snd, ()), ()), (List.take i.toNat (List.take xs.length (List.take (IntKind.i64.wrap (i + (1 : Int))).toNat xs ++ List.take (xs.length + 1 - (IntKind.i64.wrap (i + (1 : Int))).toNat) (List.drop i.toNat xs))) ++ [r] ++ List.drop (i.toNat + 1) (List.take xs.length (List.take (IntKind.i64.wrap (i + (1 : Int))).toNat xs ++ List.take (xs.length + 1 - (IntKind.i64.wrap (i + (1 : Int))).toNat) (List.drop i.toNat xs))) ++ [(List.take (IntKind.i64.wrap (i + (1 : Int))).toNat xs ++ List.take (xs.length + 1 - (IntKind.i64.wrap (i + (1 : Int))).toNat) (List.drop i.toNat xs)).getD xs.length ((Ty.int IntKind.i64).pair ((Ty.int IntKind.i64).pair (Ty.int IntKind.i64))).zero], ()), ()) := by kernel_rfl

theorem cond_t {α : Type _} {b : Bool} {x y : α} (h : b = true) : cond b x y = x := by rw [h]; rfl
theorem cond_f {α : Type _} {b : Bool} {x y : α} (h : b = false) : cond b x y = y := by rw [h]; rfl
theorem suf_skip : ∀ m, sufC m .skip = .skip
  | 0 => rfl
  | _ + 1 => rfl
theorem suf_suf : ∀ (n m : Nat) (c : Code), sufC m (sufC n c) = sufC (n + m) c
  | 0, m, c => by rw [Nat.zero_add]; rfl
  | n + 1, m, c => by
    rw [show n + 1 + m = (n + m) + 1 by omega]
    cases c <;> first | exact suf_suf n m _ | exact suf_skip m
theorem ins_grow (xs : List Row3) (z r : Row3) (k : Nat) (hk : k ≤ xs.length) : List.take (k + 1) (List.take k (List.take k xs ++ List.replicate (xs.length + 1 - k) z) ++ [r] ++ List.drop (k + 1) (List.take k xs ++ List.replicate (xs.length + 1 - k) z)) ++ List.drop k xs ++
    List.drop (k + 1 + (List.drop k xs).length) (List.take k (List.take k xs ++ List.replicate (xs.length + 1 - k) z) ++ [r] ++ List.drop (k + 1) (List.take k xs ++ List.replicate (xs.length + 1 - k) z)) = putAt xs k k r := by
  have hl : (List.take k xs).length = k := by simp; omega
  have e1 : List.take k (List.take k xs ++ List.replicate (xs.length + 1 - k) z) = List.take k xs := by
    rw [List.take_append_of_le_length (by omega), List.take_take, Nat.min_self]
  have e2 : List.drop (k + 1) (List.take k xs ++ List.replicate (xs.length + 1 - k) z) = List.replicate (xs.length - k) z := by
    rw [List.drop_append, List.drop_of_length_le (by omega), hl, Nat.add_sub_cancel_left, List.drop_replicate, List.nil_append]
    congr 1
    omega
  rw [e1, e2]
  have hl1 : (List.take k xs ++ [r]).length = k + 1 := by rw [List.length_append, hl]; rfl
  have e3 : List.take (k + 1) (List.take k xs ++ [r] ++ List.replicate (xs.length - k) z) = List.take k xs ++ [r] := by
    rw [List.take_append_of_le_length (by omega), List.take_of_length_le (by omega)]
  have e4 : List.drop (k + 1 + (List.drop k xs).length) (List.take k xs ++ [r] ++ List.replicate (xs.length - k) z) = [] :=
    List.drop_of_length_le (by rw [List.length_append, hl1, List.length_replicate, List.length_drop]; omega)
  rw [e3, e4]
  unfold putAt
  simp
theorem ins_move (xs : List Row3) (z r : Row3) (k : Nat) (hk : k < xs.length) : List.take k (List.take xs.length (List.take (k + 1) xs ++ List.take (xs.length + 1 - (k + 1)) (List.drop k xs))) ++ [r] ++
    List.drop (k + 1) (List.take xs.length (List.take (k + 1) xs ++ List.take (xs.length + 1 - (k + 1)) (List.drop k xs))) ++ [(List.take (k + 1) xs ++ List.take (xs.length + 1 - (k + 1)) (List.drop k xs)).getD xs.length z] = putAt xs k k r := by
  have eA : List.take (xs.length + 1 - (k + 1)) (List.drop k xs) = List.drop k xs := List.take_of_length_le (by simp only [List.length_drop]; omega)
  rw [eA]
  have hl : (List.take (k + 1) xs).length = k + 1 := by simp; omega
  obtain ⟨A, hA⟩ : ∃ A, A = List.take (k + 1) xs ++ List.drop k xs := ⟨_, rfl⟩
  have hAl : A.length = xs.length + 1 := by rw [hA, List.length_append, hl, List.length_drop]; omega
  rw [← hA]
  have h1 : List.take k (List.take xs.length A) = List.take k xs := by
    rw [List.take_take, Nat.min_eq_left (by omega), hA, List.take_append_of_le_length (by omega), List.take_take, Nat.min_eq_left (by omega)]
  have h2 : List.take xs.length A ++ [A.getD xs.length z] = A := by
    have hget : A.getD xs.length z = A[xs.length]'(by omega) := by rw [List.getD_eq_getElem?_getD, List.getElem?_eq_getElem (by omega)]; rfl
    rw [hget, List.take_append_getElem, List.take_of_length_le (by omega)]
  have h3 : List.drop (k + 1) (List.take xs.length A) ++ [A.getD xs.length z] = List.drop k xs := by
    have : List.drop (k + 1) (List.take xs.length A ++ [A.getD xs.length z]) = List.drop (k + 1) (List.take xs.length A) ++ [A.getD xs.length z] := List.drop_append_of_le_length (by rw [List.length_take, hAl]; omega)
    rw [← this, h2, hA, List.drop_append, hl, Nat.sub_self, List.drop_of_length_le (by omega)]
    simp
  rw [h1, List.append_assoc, List.append_assoc, h3]
  unfold putAt
  simp
theorem mv_len (A : List Row3) (r : Row3) (n k : Nat) (hA : A.length = n + 1) (hk : k < n) : (List.take k (List.take n A) ++ [r] ++ List.drop (k + 1) (List.take n A)).length = n := by
  simp only [List.length_append, List.length_take, List.length_drop, List.length_cons, List.length_nil, hA]
  omega
theorem ins_val (xs : List Row3) (r : Row3) (c k : Nat) (hk : k ≤ xs.length) (hn : xs.length ≤ 1000000) (hc : xs.length ≤ c) (hM : c ≤ maxL) :
    evFn (env consA3) H.ins2 (LPof []) F.slices_Insert_dedup_Row_dedup_Row [.hc 0 0 xs.length c, .int .i64 (k : Int), .hw 1] [.arr 3 rowT xs [], insObj r] (finV (.lit (.hw 2)) insOut 2) = some ((), (), ((r.1, r.2.1, r.2.2, ()), ()), (putAt xs k k r, ()), ()) := by
  have h0 : evFn (env consA3) H.ins2 (LPof []) F.slices_Insert_dedup_Row_dedup_Row [.hc 0 0 xs.length c, .int .i64 (k : Int), .hw 1] [.arr 3 rowT xs [], insObj r] (finV (.lit (.hw 2)) insOut 2) =
    ev (env consA3) H.ins2 2 (LPof []) B.slices_Insert_dedup_Row_dedup_Row (initSt [.hc 0 0 xs.length c, .int .i64 (k : Int), .hw 1] [.arr 3 rowT xs [], insObj r]) insFin := by
    unfold evFn
    rw [Bd.slices_Insert_dedup_Row_dedup_Row]
    rfl
  have w1 : IntKind.i64.wrap ((xs.length : Int) + 1) = (xs.length : Int) + 1 := wrap64 (by omega) (by omega)
  have w2 : IntKind.i64.wrap ((xs.length : Int) + 1 - (k : Int)) = (xs.length : Int) + 1 - (k : Int) := wrap64 (by omega) (by omega)
  have w3 : IntKind.i64.wrap ((k : Int) + 1) = (k : Int) + 1 := wrap64 (by omega) (by omega)
  have t1 : ((xs.length : Int) + 1 - (k : Int)).toNat = xs.length + 1 - k := by omega
  have t2 : ((k : Int) + 1).toNat = k + 1 := by omega
  rw [h0, ev_cut (by rfl) 7, ins1_ev]
  rw [cond_pos2 (by omega) (by omega)]
  by_cases he : k = xs.length
  · subst he
    rw [show (((xs.length : Int) == (xs.length : Int))) = true by simp, cond_true, cond_pos (by simp; omega)]
    refine (fin1_ev xs (xs.length : Int) r c).trans ?_
    congr 1
    unfold putAt
    simp
  · have hne : ((k : Int) == (xs.length : Int)) = false := by simp; omega
    rw [cond_f hne]
    by_cases hg : xs.length + 1 > c
    · have hl0 : (List.take k xs ++ List.replicate (xs.length + 1 - k) rowT.zero).length = xs.length + 1 := by simp only [List.length_append, List.length_take, List.length_replicate]; omega
      have hd : (List.drop k xs).length = xs.length - k := List.length_drop
      have hl1 : (List.take k (List.take k xs ++ List.replicate (xs.length + 1 - k) rowT.zero) ++ [r] ++ List.drop (k + 1) (List.take k xs ++ List.replicate (xs.length + 1 - k) rowT.zero)).length = xs.length + 1 := by
        rw [List.length_append, List.length_append, List.length_take, List.length_drop, hl0]
        simp only [List.length_cons, List.length_nil]
        omega
      rw [cond_t (by first | (simp only [w1, w2, w3, t1, t2, Int.toNat_natCast, hl0, hl1, hd, decide_true, Bool.and_true, Bool.true_and, Bool.and_eq_true, decide_eq_true_eq]; done) | (simp only [w1, w2, w3, t1, t2, Int.toNat_natCast, hl0, hl1, hd, decide_true, Bool.and_true, Bool.true_and, Bool.and_eq_true, decide_eq_true_eq]; omega)), cond_t (by first | (simp only [w1, w2, w3, t1, t2, Int.toNat_natCast, hl0, hl1, hd, decide_true, Bool.and_true, Bool.true_and, Bool.and_eq_true, decide_eq_true_eq]; done) | (simp only [w1, w2, w3, t1, t2, Int.toNat_natCast, hl0, hl1, hd, decide_true, Bool.and_true, Bool.true_and, Bool.and_eq_true, decide_eq_true_eq]; omega)), cond_t (by first | (simp only [w1, w2, w3, t1, t2, Int.toNat_natCast, hl0, hl1, hd, decide_true, Bool.and_true, Bool.true_and, Bool.and_eq_true, decide_eq_true_eq]; done) | (simp only [w1, w2, w3, t1, t2, Int.toNat_natCast, hl0, hl1, hd, decide_true, Bool.and_true, Bool.true_and, Bool.and_eq_true, decide_eq_true_eq]; omega)), cond_t (by first | (simp only [w1, w2, w3, t1, t2, Int.toNat_natCast, hl0, hl1, hd, decide_true, Bool.and_true, Bool.true_and, Bool.and_eq_true, decide_eq_true_eq]; done) | (simp only [w1, w2, w3, t1, t2, Int.toNat_natCast, hl0, hl1, hd, decide_true, Bool.and_true, Bool.true_and, Bool.and_eq_true, decide_eq_true_eq]; omega)), cond_t (by first | (simp only [w1, w2, w3, t1, t2, Int.toNat_natCast, hl0, hl1, hd, decide_true, Bool.and_true, Bool.true_and, Bool.and_eq_true, decide_eq_true_eq]; done) | (simp only [w1, w2, w3, t1, t2, Int.toNat_natCast, hl0, hl1, hd, decide_true, Bool.and_true, Bool.true_and, Bool.and_eq_true, decide_eq_true_eq]; omega)), cond_t (by first | (simp only [w1, w2, w3, t1, t2, Int.toNat_natCast, hl0, hl1, hd, decide_true, Bool.and_true, Bool.true_and, Bool.and_eq_true, decide_eq_true_eq]; done) | (simp only [w1, w2, w3, t1, t2, Int.toNat_natCast, hl0, hl1, hd, decide_true, Bool.and_true, Bool.true_and, Bool.and_eq_true, decide_eq_true_eq]; omega)), cond_t (by first | (simp only [w1, w2, w3, t1, t2, Int.toNat_natCast, hl0, hl1, hd, decide_true, Bool.and_true, Bool.true_and, Bool.and_eq_true, decide_eq_true_eq]; done) | (simp only [w1, w2, w3, t1, t2, Int.toNat_natCast, hl0, hl1, hd, decide_true, Bool.and_true, Bool.true_and, Bool.and_eq_true, decide_eq_true_eq]; omega)), cond_t (by first | (simp only [w1, w2, w3, t1, t2, Int.toNat_natCast, hl0, hl1, hd, decide_true, Bool.and_true, Bool.true_and, Bool.and_eq_true, decide_eq_true_eq]; done) | (simp only [w1, w2, w3, t1, t2, Int.toNat_natCast, hl0, hl1, hd, decide_true, Bool.and_true, Bool.true_and, Bool.and_eq_true, decide_eq_true_eq]; omega)), cond_t (by first | (simp only [w1, w2, w3, t1, t2, Int.toNat_natCast, hl0, hl1, hd, decide_true, Bool.and_true, Bool.true_and, Bool.and_eq_true, decide_eq_true_eq]; done) | (simp only [w1, w2, w3, t1, t2, Int.toNat_natCast, hl0, hl1, hd, decide_true, Bool.and_true, Bool.true_and, Bool.and_eq_true, decide_eq_true_eq]; omega))]
      refine (fin2_ev xs (k : Int) r c).trans ?_
      simp only [w1, w2, w3, t1, t2, Int.toNat_natCast]
      rw [ins_grow xs _ r k hk]
    · have hA : List.take (xs.length + 1 - (k + 1)) (List.drop k xs) = List.drop k xs := List.take_of_length_le (by simp only [List.length_drop]; omega)
      have hA2 : (List.take xs.length (List.take (k + 1) xs ++ List.drop k xs)).length = xs.length := by simp only [List.length_take, List.length_append, List.length_drop]; omega
      have hA3 : True := trivial
      rw [cond_f (by simp only [w1, decide_eq_false_iff_not]; omega)]
      show ev (env consA3) H.ins2 2 (LPof []) (sufC 7 B.slices_Insert_dedup_Row_dedup_Row) (insN xs (k : Int) r c) insFin = _
      rw [ev_cut (by rfl) 1, ins2_ev, cond_f (by simp only [w1, Bool.and_eq_false_iff, decide_eq_false_iff_not]; omega), cond_t (by first | (simp only [w1, w3, t2, Int.toNat_natCast, hA, hA2, hA3, cutCap, decide_true, Bool.and_true, Bool.true_and, Bool.and_eq_true, decide_eq_true_eq]; done) | (simp only [w1, w3, t2, Int.toNat_natCast, hA, hA2, hA3, cutCap, decide_true, Bool.and_true, Bool.true_and, Bool.and_eq_true, decide_eq_true_eq]; omega))]
      rw [suf_suf]
      show ev (env consA3) H.ins2 2 (LPof []) (sufC 8 B.slices_Insert_dedup_Row_dedup_Row) (insM xs (k : Int) r c) insFin = _
      rw [ins3_ev, cond_t (by first | (simp only [w1, w3, t2, Int.toNat_natCast, hA, hA2, hA3, cutCap, decide_true, Bool.and_true, Bool.true_and, Bool.and_eq_true, decide_eq_true_eq]; done) | (simp only [w1, w3, t2, Int.toNat_natCast, hA, hA2, hA3, cutCap, decide_true, Bool.and_true, Bool.true_and, Bool.and_eq_true, decide_eq_true_eq]; omega)), cond_t (by first | (simp only [w1, w3, t2, Int.toNat_natCast, hA, hA2, hA3, cutCap, decide_true, Bool.and_true, Bool.true_and, Bool.and_eq_true, decide_eq_true_eq]; done) | (simp only [w1, w3, t2, Int.toNat_natCast, hA, hA2, hA3, cutCap, decide_true, Bool.and_true, Bool.true_and, Bool.and_eq_true, decide_eq_true_eq]; omega)), cond_t (by first | (simp only [w1, w3, t2, Int.toNat_natCast, hA, hA2, hA3, cutCap, decide_true, Bool.and_true, Bool.true_and, Bool.and_eq_true, decide_eq_true_eq]; done) | (simp only [w1, w3, t2, Int.toNat_natCast, hA, hA2, hA3, cutCap, decide_true, Bool.and_true, Bool.true_and, Bool.and_eq_true, decide_eq_true_eq]; omega)), cond_t (by first | (simp only [w1, w3, t2, Int.toNat_natCast, hA, hA2, hA3, cutCap, decide_true, Bool.and_true, Bool.true_and, Bool.and_eq_true, decide_eq_true_eq]; done) | (simp only [w1, w3, t2, Int.toNat_natCast, hA, hA2, hA3, cutCap, decide_true, Bool.and_true, Bool.true_and, Bool.and_eq_true, decide_eq_true_eq]; omega)), cond_t (by first | (simp only [w1, w3, t2, Int.toNat_natCast, hA, hA2, hA3, cutCap, decide_true, Bool.and_true, Bool.true_and, Bool.and_eq_true, decide_eq_true_eq]; done) | (simp only [w1, w3, t2, Int.toNat_natCast, hA, hA2, hA3, cutCap, decide_true, Bool.and_true, Bool.true_and, Bool.and_eq_true, decide_eq_true_eq]; omega)), cond_t (by first | (simp only [w1, w3, t2, Int.toNat_natCast, hA, hA2, hA3, cutCap, decide_true, Bool.and_true, Bool.true_and, Bool.and_eq_true, decide_eq_true_eq]; done) | (simp only [w1, w3, t2, Int.toNat_natCast, hA, hA2, hA3, cutCap, decide_true, Bool.and_true, Bool.true_and, Bool.and_eq_true, decide_eq_true_eq]; omega)), cond_t (by first | (simp only [w1, w3, t2, Int.toNat_natCast, hA, hA2, hA3, cutCap, decide_true, Bool.and_true, Bool.true_and, Bool.and_eq_true, decide_eq_true_eq]; done) | (simp only [w1, w3, t2, Int.toNat_natCast, hA, hA2, hA3, cutCap, decide_true, Bool.and_true, Bool.true_and, Bool.and_eq_true, decide_eq_true_eq]; omega))]
      rw [cond_t (by
        rw [Bool.and_eq_true]
        refine ⟨?_, decide_eq_true (by omega)⟩
        rw [decide_eq_true_eq]
        have hml := mv_len (List.take (k + 1) xs ++ List.drop k xs) r xs.length k (by simp only [List.length_append, List.length_take, List.length_drop]; omega) (by omega)
        rw [w3, t2, Int.toNat_natCast, hA]
        rw [hml])]
      refine (fin3_ev xs (k : Int) r c).trans ?_
      simp only [w3, t2, Int.toNat_natCast]
      rw [ins_move xs _ r k (by omega)]
end Go.Sim.XD
namespace Go.Sim.XD
set_option linter.unusedSimpArgs false
set_option linter.unusedVariables false
set_option maxRecDepth 10000
theorem row36 : P0.underlying 104 = some (.slice 145) := by kernel_rfl
theorem size65 (w : World) : (Go.sizeOf 145).run P0 w = .ok 3 w := by
  have h : (P0.info? 145).map (fun x => x.size) = some 3 := by kernel_rfl
  obtain ⟨i0, hi0, h1⟩ := Option.map_eq_some_iff.1 h
  simp [sizeOf, typeInfo, hi0, h1]
theorem apart28 : ApartOK P0 182 := fun w a b la ca lb cb tA tB kA kB h1 h2 h3 h4 h5 h6 => by
  rw [run_callFunc_extern (P := P0) (f := 182) (fn := Proofs.Tryz.f182) Proofs.Tryz.func182 (by kernel_rfl) (by kernel_rfl) (by kernel_rfl) (e := Extern.SlicesOverlaps.overlaps #[104, 104] #[4]) (by kernel_rfl),
    Lib.run_overlaps_apart w 104 4 145 row36 3 size65 a b la ca lb cb h1 tA tB kA kB h2 h3 h4 h5 h6]
  rfl
theorem consA3_ok : ∀ x ∈ consA3, HoldsC P0 x.1 x.2 := by
  intro x hx
  simp at hx
  subst hx
  exact apart28
def caseIns : VCase := ⟨[.lit (.hw 0), .int .i64, .lit (.hw 1)], [.arr 3 rowT [], .box 3 [[.int .i64, .int .i64, .int .i64]]], .lit (.hw 2), insOut,
  fun ⟨_, i, _⟩ ⟨⟨xs, _⟩, ⟨⟨a, b, c, _⟩, _⟩, _⟩ => [(decide (0 ≤ i) && decide (i ≤ (List.length xs : Int)) && decide (List.length xs ≤ 1000000), ((), ((), ((a, b, c, ()), ()), (putAt xs i.toNat i.toNat (a, b, c), ()), ())))]⟩
theorem ins_ok : caseIns.e.ok P0 I.slices_Insert_dedup_Row_dedup_Row := fun ⟨_, i, _, _⟩ ⟨⟨xs, _⟩, ⟨⟨a, b, c, _⟩, _⟩, _⟩ r objs' hxy hw1 hw2 => by
  obtain ⟨z, hz, e0⟩ := pick_mapAlt hxy
  cases e0
  obtain ⟨hc, rfl⟩ := pick_pre hz
  simp only [Bool.and_eq_true, decide_eq_true_eq] at hc
  obtain ⟨k, rfl⟩ := Int.eq_ofNat_of_zero_le hc.1.1
  refine EffGood.of_cap (n := I.slices_Insert_dedup_Row_dedup_Row) (t := rowT) (xs := xs) fun cp h1 h2 => ?_
  exact eff_of_ev (H := H.ins2) (E := env consA3) (env_ok consA3_ok) glob0 mixed0 G.slices_Insert_dedup_Row_dedup_Row Bd.slices_Insert_dedup_Row_dedup_Row (by kernel_rfl) noLoops (out := .lit (.hw 2)) (outs := insOut) (ins_val xs (a, b, c) cp k (Int.ofNat_le.1 hc.1.2) hc.2 h1 h2)
def caseFind1 : PCase := ⟨[.ty rowT, .ty (.int .i64)], [.int .i64], fun x => (fun (r : Row3) (p : Int) => [(true, (cmpI r.1 p, ()))]) x.1 x.2.1⟩
theorem find1_val (r : Row3) (p : Int) : evFn (env consA2) H.dedup_Table_find_1 (LPof []) F.dedup_Table_find_1 [valOf rowT r, .int .i64 p] [] (finT [.int .i64]) = some (cmpI r.1 p, ()) := by
  rw [find1_ev]
theorem find1_ok : caseFind1.ok P0 I.dedup_Table_find_1 := case_ok2 (H := H.dedup_Table_find_1) (E := env consA2) (env_ok consA2_ok) glob0 mixed0 G.dedup_Table_find_1 Bd.dedup_Table_find_1 (by kernel_rfl) noLoops fun ⟨r, p, ()⟩ y h hw => by
  obtain ⟨hc, rfl⟩ := pick_pre h
  exact find1_val r p
noncomputable abbrev consA4 : List (FuncId × Con) := [(I.dedup_Table_find_1, .pure (pureOf [caseFind1]))]
theorem consA4_ok : ∀ x ∈ consA4, HoldsC P0 x.1 x.2 := by
  intro x hx
  simp at hx
  subst hx
  exact ⟨pureOf_holds (by simp; exact find1_ok), C.dedup_Table_find_1⟩
theorem bs_rd {R : Type} (xs : List Row3) (p n i j : Int) (K : Ex → St → Option R) : roundK (env consA4) H.slices_BinarySearchFunc_dedup_Row_dedup_Row_int 1 (LPof []) V.slices_BinarySearchFunc_dedup_Row_dedup_Row_int_3 L.slices_BinarySearchFunc_dedup_Row_dedup_Row_int_3 ⟨[(0, .hw 0), (1, .int .i64 p), (2, .fn (.func I.dedup_Table_find_1) [] []), (8, .int .i64 n), (9, .int .i64 i), (10, .int .i64 j)], [(0, .arr 3 rowT xs [])], 1⟩ K = bif decide (i < j) then bif decide ((0 : Int) ≤ IntKind.i64.wrap ((IntKind.u64.wrap (IntKind.i64.wrap (i + j))).fdiv (2 : Int))) && decide (IntKind.i64.wrap ((IntKind.u64.wrap (IntKind.i64.wrap (i + j))).fdiv (2 : Int)) < (↑xs.length : Int)) then bif decide (cmpI (xs.getD (IntKind.i64.wrap ((IntKind.u64.wrap (IntKind.i64.wrap (i + j))).fdiv (2 : Int))).toNat rowT.zero).fst p < (0 : Int)) then K Ex.normal { slots := [(0, AV.hw 0), (1, AV.int IntKind.i64 p), (2, AV.fn (Fn.func 180) [] []), (8, AV.int IntKind.i64 n), (9, AV.int IntKind.i64 (IntKind.i64.wrap (IntKind.i64.wrap ((IntKind.u64.wrap (IntKind.i64.wrap (i + j))).fdiv (2 : Int)) + (1 : Int)))), (10, AV.int IntKind.i64 j)], objs := [(0, AObj.arr 3 ((Ty.int IntKind.i64).pair ((Ty.int IntKind.i64).pair (Ty.int IntKind.i64))) xs [])], nx := 1 } else K Ex.normal { slots := [(0, AV.hw 0), (1, AV.int IntKind.i64 p), (2, AV.fn (Fn.func 180) [] []), (8, AV.int IntKind.i64 n), (9, AV.int IntKind.i64 i), (10, AV.int IntKind.i64 (IntKind.i64.wrap ((IntKind.u64.wrap (IntKind.i64.wrap (i + j))).fdiv (2 : Int))))], objs := [(0, AObj.arr 3 ((Ty.int IntKind.i64).pair ((Ty.int IntKind.i64).pair (Ty.int IntKind.i64))) xs [])], nx := 1 } else none else K (Ex.exit 0) { slots := [(0, AV.hw 0), (1, AV.int IntKind.i64 p), (2, AV.fn (Fn.func 180) [] []), (8, AV.int IntKind.i64 n), (9, AV.int IntKind.i64 i), (10, AV.int IntKind.i64 j)], objs := [(0, AObj.arr 3 ((Ty.int IntKind.i64).pair ((Ty.int IntKind.i64).pair (Ty.int IntKind.i64))) xs [])], nx := 1 } := by kernel_rfl

def bsSt (xs : List Row3) (p : Int) (i j : Nat) : St := ⟨[(0, .hw 0), (1, .int .i64 p), (2, .fn (.func I.dedup_Table_find_1) [] []), (8, .int .i64 xs.length), (9, .int .i64 i), (10, .int .i64 j)], [(0, .arr 3 rowT xs [])], 1⟩
theorem cmp_lt (a b : Int) : decide (cmpI a b < 0) = decide (a < b) := by
  unfold cmpI
  by_cases h : a < b
  · simp [h]
  · by_cases g : a > b <;> simp [h, g]
theorem cmp_eq (a b : Int) : (cmpI a b == 0) = (a == b) := by
  unfold cmpI
  by_cases h : a < b
  · have : ¬ a = b := by omega
    simp [h, this]
  · by_cases g : a > b
    · have : ¬ a = b := by omega
      simp [h, g, this]
    · have : a = b := by omega
      simp [h, g, this]
theorem bs_rounds {R : Type} (xs : List Row3) (p : Int) (hs : sortedL xs = true) (hn : xs.length ≤ 1000000) (K : Ex → St → Option R) : ∀ (d i j : Nat), j - i ≤ d → i ≤ j → j ≤ xs.length → (∀ a, a < i → (atL xs a).1 < p) → (∀ a, j ≤ a → a < xs.length → p ≤ (atL xs a).1) →
    ∃ m, rounds (env consA4) H.slices_BinarySearchFunc_dedup_Row_dedup_Row_int 1 (LPof []) V.slices_BinarySearchFunc_dedup_Row_dedup_Row_int_3 L.slices_BinarySearchFunc_dedup_Row_dedup_Row_int_3 m (bsSt xs p i j) K = K (.exit 0) (bsSt xs p (posL xs p) (posL xs p)) := by
  intro d
  induction d with
  | zero =>
    intro i j hd hij hj h1 h2
    obtain rfl : i = j := by omega
    have hp := pos_eq hj h1 (fun h => h2 i (Nat.le_refl _) h)
    refine ⟨1, ?_⟩
    rw [rounds_succ']
    refine (bs_rd _ _ _ _ _ _).trans ?_
    rw [cond_neg (by omega), hp]
    rfl
  | succ d ih =>
    intro i j hd hij hj h1 h2
    by_cases hlt : i < j
    · have e1 : IntKind.i64.wrap ((i : Int) + (j : Int)) = (i : Int) + (j : Int) := wrap64 (by omega) (by omega)
      have e2 : IntKind.u64.wrap ((i : Int) + (j : Int)) = (i : Int) + (j : Int) := wrapu64 (by omega) (by omega)
      have e3 : ((i : Int) + (j : Int)).fdiv 2 = (((i + j) / 2 : Nat) : Int) := by rw [Int.fdiv_eq_ediv_of_nonneg _ (by omega)]; omega
      have e4 : IntKind.i64.wrap ((((i + j) / 2 : Nat)) : Int) = (((i + j) / 2 : Nat) : Int) := wrap64 (by omega) (by omega)
      have e5 : IntKind.i64.wrap ((((i + j) / 2 : Nat) : Int) + 1) = (((i + j) / 2 + 1 : Nat) : Int) := by rw [wrap64 (by omega) (by omega)]; omega
      by_cases hc : (atL xs ((i + j) / 2)).1 < p
      · obtain ⟨m, hm⟩ := ih ((i + j) / 2 + 1) j (by omega) (by omega) hj (fun a ha => by
          rcases Nat.lt_or_ge a ((i + j) / 2) with h | h
          · have := sorted_lt hs h (by omega); omega
          · have : a = (i + j) / 2 := by omega
            subst this; exact hc) h2
        refine ⟨m + 1, ?_⟩
        rw [rounds_succ']
        refine (bs_rd _ _ _ _ _ _).trans ?_
        rw [cond_pos (by omega), e1, e2, e3, e4, cond_pos2 (by omega) (by omega), Int.toNat_natCast, cmp_lt, cond_pos (show (xs.getD ((i + j) / 2) rowT.zero).1 < p from hc), e5]
        exact hm
      · obtain ⟨m, hm⟩ := ih i ((i + j) / 2) (by omega) (by omega) (by omega) h1 (fun a ha hx => by
          rcases Nat.lt_or_ge ((i + j) / 2) a with h | h
          · have := sorted_lt hs h hx; omega
          · have : a = (i + j) / 2 := by omega
            subst this; omega)
        refine ⟨m + 1, ?_⟩
        rw [rounds_succ']
        refine (bs_rd _ _ _ _ _ _).trans ?_
        rw [cond_pos (by omega), e1, e2, e3, e4, cond_pos2 (by omega) (by omega), Int.toNat_natCast, cmp_lt, cond_neg (show ¬ (xs.getD ((i + j) / 2) rowT.zero).1 < p from hc)]
        exact hm
    · obtain ⟨m, hm⟩ := ih i j (by omega) hij hj h1 h2
      exact ⟨m, hm⟩
abbrev bsLC : LoopC := LoopC.of ⟨[(0, .lit (.hw 0)), (1, .int .i64), (2, .fn I.dedup_Table_find_1 []), (8, .int .i64), (9, .int .i64), (10, .int .i64)], [.arr 3 rowT []]⟩
    (fun x => decide (x.1.2.2.2.1 = (List.length x.2.1.1 : Int)) && decide (x.1.2.2.2.2.1 = 0) && decide (x.1.2.2.2.2.2.1 = (List.length x.2.1.1 : Int)) && sortedL x.2.1.1 && decide (List.length x.2.1.1 ≤ 1000000))
    fun x => [(true, .exit 0, bsSt x.2.1.1 x.1.2.1 (posL x.2.1.1 x.1.2.1) (posL x.2.1.1 x.1.2.1))]
theorem bs_lok : LoopOK P0 H.slices_BinarySearchFunc_dedup_Row_dedup_Row_int 1 L.slices_BinarySearchFunc_dedup_Row_dedup_Row_int_3 bsLC :=
  loop_ok_of (env_ok consA4_ok) glob0 mixed0 noLoops V.slices_BinarySearchFunc_dedup_Row_dedup_Row_int_3 (by decide) fun ⟨⟨_, p, _, n, i, j, _⟩, ⟨xs, _⟩, _⟩ h hw => by
    simp only [Bool.and_eq_true, decide_eq_true_eq] at h
    obtain ⟨⟨⟨⟨rfl, rfl⟩, rfl⟩, h4⟩, h5⟩ := h
    exact bs_rounds xs p h4 h5 _ (List.length xs) 0 (List.length xs) (by omega) (by omega) (Nat.le_refl _) (fun a ha => absurd ha (Nat.not_lt_zero _)) (fun a h1 h2 => absurd h2 (Nat.not_lt.2 h1))
theorem bs_ev (xs : List Row3) (p : Int) : evFn (env consA4) H.slices_BinarySearchFunc_dedup_Row_dedup_Row_int (LPof [(3, bsLC)]) F.slices_BinarySearchFunc_dedup_Row_dedup_Row_int [.hw 0, .int .i64 p, .fn (.func I.dedup_Table_find_1) [] []] [.arr 3 rowT xs []] (finV (.tup [.int .i64, .bool]) [.arr 3 rowT []] 1) = bif decide ((↑xs.length : Int) = (↑xs.length : Int)) && true && decide ((↑xs.length : Int) = (↑xs.length : Int)) && sortedL xs && decide (xs.length ≤ 1000000) && true then bif decide ((↑(posL xs p) : Int) < (↑xs.length : Int)) then bif decide ((0 : Int) ≤ (↑(posL xs p) : Int)) && decide ((↑(posL xs p) : Int) < (↑xs.length : Int)) then some (((↑(posL xs p) : Int), cmpI (xs.getD (posL xs p) rowT.zero).fst p == (0 : Int), ()), (xs, ()), ()) else none else some (((↑(posL xs p) : Int), false, ()), (xs, ()), ()) else none := by kernel_rfl

def caseBs : VCase := ⟨[.lit (.hw 0), .int .i64, .fn I.dedup_Table_find_1 []], [.arr 3 rowT []], .tup [.int .i64, .bool], [.arr 3 rowT []], fun ⟨_, p, _, ()⟩ ⟨⟨xs, ()⟩, ()⟩ => [(sortedL xs && decide (List.length xs ≤ 1000000), ((((posL xs p : Nat) : Int), hasL xs p, ()), ((xs, ()), ())))]⟩
theorem bs_val (xs : List Row3) (p : Int) (hc : (sortedL xs && decide (List.length xs ≤ 1000000)) = true) : evFn (env consA4) H.slices_BinarySearchFunc_dedup_Row_dedup_Row_int (LPof [(3, bsLC)]) F.slices_BinarySearchFunc_dedup_Row_dedup_Row_int [.hw 0, .int .i64 p, .fn (.func I.dedup_Table_find_1) [] []] [.arr 3 rowT xs []] (finV (.tup [.int .i64, .bool]) [.arr 3 rowT []] 1) = some ((((posL xs p : Nat) : Int), hasL xs p, ()), ((xs, ()), ())) := by
  simp only [Bool.and_eq_true, decide_eq_true_eq] at hc
  rw [bs_ev, hc.1, decide_eq_true hc.2, decide_eq_true rfl]
  simp only [Bool.and_self, cond_true]
  unfold hasL
  by_cases h : posL xs p < xs.length
  · rw [cond_pos (by omega), cond_pos2 (by omega) (by omega), decide_eq_true h, cmp_eq, Bool.true_and]
    rfl
  · rw [cond_neg (by omega), decide_eq_false h, Bool.false_and]
theorem bs_ok : caseBs.e.ok P0 I.slices_BinarySearchFunc_dedup_Row_dedup_Row_int := vcase_ok (c := caseBs) (H := H.slices_BinarySearchFunc_dedup_Row_dedup_Row_int) (E := env consA4) (env_ok consA4_ok) glob0 mixed0 G.slices_BinarySearchFunc_dedup_Row_dedup_Row_int Bd.slices_BinarySearchFunc_dedup_Row_dedup_Row_int (by kernel_rfl) (loops_good (tab := [(3, bsLC)]) (by kernel_rfl) (fun x hx => by simp at hx; subst hx; exact bs_lok)) fun ⟨_, p, _, ()⟩ ⟨⟨xs, ()⟩, ()⟩ r h hw1 hw2 => by
  obtain ⟨hc, rfl⟩ := pick_pre h
  exact bs_val xs p hc
theorem bs0_ev (p : Int) : evFn (env consA4) H.slices_BinarySearchFunc_dedup_Row_dedup_Row_int (loopsF (env consA4) H.slices_BinarySearchFunc_dedup_Row_dedup_Row_int 0 B.slices_BinarySearchFunc_dedup_Row_dedup_Row_int 3) F.slices_BinarySearchFunc_dedup_Row_dedup_Row_int [.nils, .int .i64 p, .fn (.func I.dedup_Table_find_1) [] []] [] (finV (.tup [.int .i64, .bool]) [] 0) = some (((0 : Int), false, ()), ()) := by kernel_rfl

theorem ins0_ev (r : Row3) : evFn (env consA3) H.ins2 (LPof []) F.slices_Insert_dedup_Row_dedup_Row [.nils, .int .i64 0, .hw 0] [insObj r] (finV (.lit (.hw 1)) [.box 3 [[.int .i64, .int .i64, .int .i64]], .arr 3 rowT []] 1) = some ((), ((r.fst, r.snd.fst, r.snd.snd, ()), ()), ([r], ()), ()) := by kernel_rfl

def caseBs0 : VCase := ⟨[.lit .nils, .int .i64, .fn I.dedup_Table_find_1 []], [], .tup [.int .i64, .bool], [], fun ⟨_, p, _, ()⟩ () => [(true, (((0 : Int), false, ()), ()))]⟩
theorem bs0_val (p : Int) : evFn (env consA4) H.slices_BinarySearchFunc_dedup_Row_dedup_Row_int (loopsF (env consA4) H.slices_BinarySearchFunc_dedup_Row_dedup_Row_int 0 B.slices_BinarySearchFunc_dedup_Row_dedup_Row_int 3) F.slices_BinarySearchFunc_dedup_Row_dedup_Row_int [.nils, .int .i64 p, .fn (.func I.dedup_Table_find_1) [] []] [] (finV (.tup [.int .i64, .bool]) [] 0) = some (((0 : Int), false, ()), ()) := by
  exact bs0_ev p
theorem bs0_ok : caseBs0.e.ok P0 I.slices_BinarySearchFunc_dedup_Row_dedup_Row_int := vcase_ok (c := caseBs0) (H := H.slices_BinarySearchFunc_dedup_Row_dedup_Row_int) (E := env consA4) (env_ok consA4_ok) glob0 mixed0 G.slices_BinarySearchFunc_dedup_Row_dedup_Row_int Bd.slices_BinarySearchFunc_dedup_Row_dedup_Row_int (by kernel_rfl) (loopsF_good (env_ok consA4_ok) glob0 mixed0 (by kernel_rfl) 3) fun ⟨_, p, _, ()⟩ () r h hw1 hw2 => by
  obtain ⟨hc, rfl⟩ := pick_pre h
  exact bs0_val p
def caseIns0 : VCase := ⟨[.lit .nils, .lit (.int .i64 0), .lit (.hw 0)], [.box 3 [[.int .i64, .int .i64, .int .i64]]], .lit (.hw 1), [.box 3 [[.int .i64, .int .i64, .int .i64]], .arr 3 rowT []],
  fun _ ⟨⟨⟨a, b, c, _⟩, _⟩, _⟩ => [(true, ((), (((a, b, c, ()), ()), ([(a, b, c)], ()), ())))]⟩
theorem ins0_ok : caseIns0.e.ok P0 I.slices_Insert_dedup_Row_dedup_Row := vcase_ok (c := caseIns0) (H := H.ins2) (E := env consA3) (env_ok consA3_ok) glob0 mixed0 G.slices_Insert_dedup_Row_dedup_Row Bd.slices_Insert_dedup_Row_dedup_Row (by kernel_rfl) noLoops fun _ ⟨⟨⟨a, b, c, _⟩, _⟩, _⟩ r h hw1 hw2 => by
  obtain ⟨hc, rfl⟩ := pick_pre h
  exact ins0_ev (a, b, c)
noncomputable abbrev consB1 : List (FuncId × Con) := [(I.slices_BinarySearchFunc_dedup_Row_dedup_Row_int, .eff (effOf [caseBs.e, caseBs0.e])), (I.slices_Insert_dedup_Row_dedup_Row, .eff (effOf [caseIns.e, caseIns0.e]))]
theorem consB1_ok : ∀ x ∈ consB1, HoldsC P0 x.1 x.2 := by
  intro x hx
  simp at hx
  rcases hx with rfl | rfl
  · exact ⟨fun args objs r objs2 h _ => effOf_holds (by simp; exact ⟨bs_ok, bs0_ok⟩) args objs r objs2 h, C.slices_BinarySearchFunc_dedup_Row_dedup_Row_int⟩
  · exact ⟨fun args objs r objs2 h _ => effOf_holds (by simp; exact ⟨ins_ok, ins0_ok⟩) args objs r objs2 h, C.slices_Insert_dedup_Row_dedup_Row⟩
noncomputable abbrev consB2 : List (FuncId × Con) := [(I.dedup_Table_find, inl (env consB1) H.dedup_Table_find F.dedup_Table_find (fun R k0 => loopsF (env consB1) H.dedup_Table_find k0 B.dedup_Table_find 1))] ++ consB1
theorem consB2_ok : ∀ x ∈ consB2, HoldsC P0 x.1 x.2 := by
  intro x hx
  rcases List.mem_append.1 hx with hx | hx
  · simp at hx
    subst hx
    exact inl_ok (env_ok consB1_ok) glob0 mixed0 G.dedup_Table_find Bd.dedup_Table_find C.dedup_Table_find (fun R k0 => loopsF_good (env_ok consB1_ok) glob0 mixed0 (by kernel_rfl) 1)
  · exact consB1_ok x hx
end Go.Sim.XD
namespace Go.Sim.XD
set_option linter.unusedSimpArgs false
set_option linter.unusedVariables false
set_option maxRecDepth 10000
def H.set2 : Hint := { H.dedup_Table_Set with vs := [] }
theorem ask_ev (xs : List Row3) (p s : Int) : evFn (env consB2) H.dedup_Table_Ask (LPof []) F.dedup_Table_Ask [.ptr 0 (.tl 0) 0, .int .i64 p, .int .i64 s] [.arr 1 .bool [] [[.hw 1]], .arr 3 rowT xs []] (finV (.tup [.int .i64, .int .i64]) [.box 1 [[.lit (.hw 1)]], .arr 3 rowT []] 2) = bif sortedL xs && decide (xs.length ≤ 1000000) then Option.bind (bif !hasL xs p then some (s == (0 : Int)) else some false) fun v => bif v then some (((0 : Int), (0 : Int), ()), (((), ()), ()), (xs, ()), ()) else bif !hasL xs p then some (((2 : Int), (0 : Int), ()), (((), ()), ()), (xs, ()), ()) else bif decide ((0 : Int) ≤ (↑(posL xs p) : Int)) && decide ((↑(posL xs p) : Int) < (↑xs.length : Int)) then bif (xs.getD (posL xs p) rowT.zero).snd.fst == s then bif decide ((0 : Int) ≤ (↑(posL xs p) : Int)) && decide ((↑(posL xs p) : Int) < (↑xs.length : Int)) then some (((1 : Int), (xs.getD (posL xs p) rowT.zero).snd.snd, ()), (((), ()), ()), (xs, ()), ()) else none else Option.bind (bif decide ((0 : Int) ≤ (↑(posL xs p) : Int)) && decide ((↑(posL xs p) : Int) < (↑xs.length : Int)) then bif decide ((xs.getD (posL xs p) rowT.zero).snd.fst < s) then bif decide ((0 : Int) ≤ (↑(posL xs p) : Int)) && decide ((↑(posL xs p) : Int) < (↑xs.length : Int)) then some (IntKind.i64.wrap ((xs.getD (posL xs p) rowT.zero).snd.fst + (1 : Int)) == s) else none else some false else none) fun v => bif v then some (((0 : Int), (0 : Int), ()), (((), ()), ()), (xs, ()), ()) else some (((2 : Int), (0 : Int), ()), (((), ()), ()), (xs, ()), ()) else none else none := by kernel_rfl

theorem ask0_ev (p s : Int) : evFn (env consB2) H.dedup_Table_Ask (LPof []) F.dedup_Table_Ask [.ptr 0 (.tl 0) 0, .int .i64 p, .int .i64 s] [.arr 1 .bool [] [[.nils]]] (finV (.tup [.int .i64, .int .i64]) [.box 1 [[.lit .nils]]] 1) = bif s == (0 : Int) then some (((0 : Int), (0 : Int), ()), (((), ()), ()), ()) else some (((2 : Int), (0 : Int), ()), (((), ()), ()), ()) := by kernel_rfl

theorem seto_ev (xs : List Row3) (p s o : Int) : evFn (env consB2) H.set2 (LPof []) F.dedup_Table_Set [.ptr 0 (.tl 0) 0, .int .i64 p, .int .i64 s, .int .i64 o] [.arr 1 .bool [] [[.hw 1]], .arr 3 rowT xs []] (finV (.int .i64) [.box 1 [[.lit (.hw 1)]], .arr 3 rowT []] 2) = bif sortedL xs && decide (xs.length ≤ 1000000) then bif hasL xs p then bif decide ((0 : Int) ≤ (↑(posL xs p) : Int)) && decide ((↑(posL xs p) : Int) < (↑xs.length : Int)) then some ((0 : Int), (((), ()), ()), (xs.set (posL xs p) (p, s, o), ()), ()) else none else bif decide ((↑xs.length : Int) ≥ (100 : Int)) then some ((7 : Int), (((), ()), ()), (xs, ()), ()) else bif decide ((0 : (Pat.int IntKind.i64).den) ≤ (↑(posL xs p) : Int)) && decide ((↑(posL xs p) : Int) ≤ (↑xs.length : Int)) && decide (xs.length ≤ 1000000) then none else none else none := by kernel_rfl

theorem setn_ev (xs : List Row3) (p s o : Int) : evFn (env consB2) H.set2 (LPof []) F.dedup_Table_Set [.ptr 0 (.tl 0) 0, .int .i64 p, .int .i64 s, .int .i64 o] [.arr 1 .bool [] [[.hw 1]], .arr 3 rowT xs []] (finV (.int .i64) [.box 1 [[.lit (.hw 2)]], .dead, .arr 3 rowT []] 2) = bif sortedL xs && decide (xs.length ≤ 1000000) then bif hasL xs p then bif decide ((0 : Int) ≤ (↑(posL xs p) : Int)) && decide ((↑(posL xs p) : Int) < (↑xs.length : Int)) then none else none else bif decide ((↑xs.length : Int) ≥ (100 : Int)) then none else bif decide ((0 : (Pat.int IntKind.i64).den) ≤ (↑(posL xs p) : Int)) && decide ((↑(posL xs p) : Int) ≤ (↑xs.length : Int)) && decide (xs.length ≤ 1000000) then some ((0 : Int), (((), ()), ()), (), (putAt xs (posL xs p) (posL xs p) (p, s, o), ()), ()) else none else none := by kernel_rfl

theorem set0_ev (p s o : Int) : evFn (env consB2) H.set2 (LPof []) F.dedup_Table_Set [.ptr 0 (.tl 0) 0, .int .i64 p, .int .i64 s, .int .i64 o] [.arr 1 .bool [] [[.nils]]] (finV (.int .i64) [.box 1 [[.lit (.hw 1)]], .arr 3 rowT []] 1) = some ((0 : Int), (((), ()), ()), ([(p, s, o)], ()), ()) := by kernel_rfl

theorem wrap_next {a b : Int} (ha : In .i64 a) (h : a < b) (hb : In .i64 b) : (IntKind.i64.wrap (a + 1) == b) = (a == b - 1) := by
  have h1 := In.i64.1 ha
  have h2 := In.i64.1 hb
  rw [wrap64 (by omega) (by omega)]
  apply Bool.eq_iff_iff.2
  simp only [beq_iff_eq]
  omega
theorem at_in {xs : List Row3} (h : ∀ r ∈ xs, wfT rowT r) {i : Nat} (hi : i < xs.length) : wfT rowT (xs.getD i rowT.zero) := by
  rw [List.getD_eq_getElem?_getD, List.getElem?_eq_getElem hi]
  exact h _ (List.getElem_mem hi)
theorem has_lt {xs : List Row3} {p : Int} (h : hasL xs p = true) : posL xs p < xs.length := by
  unfold hasL at h
  simp only [Bool.and_eq_true, decide_eq_true_eq] at h
  exact h.1
theorem set_putAt (xs : List Row3) (k : Nat) (r : Row3) (h : k < xs.length) : xs.set k r = putAt xs k (k + 1) r := by
  unfold putAt
  rw [List.set_eq_take_append_cons_drop, if_pos h]
def caseAsk : VCase := ⟨[.lit (.ptr 0 (.tl 0) 0), .int .i64, .int .i64], [.box 1 [[.lit (.hw 1)]], .arr 3 rowT []], .tup [.int .i64, .int .i64], [.box 1 [[.lit (.hw 1)]], .arr 3 rowT []], fun ⟨_, p, s, ()⟩ ⟨_, ⟨xs, ()⟩, ()⟩ => [(sortedL xs && decide (List.length xs ≤ 1000000), (((askL xs p s).1, (askL xs p s).2, ()), ((((), ()), ()), (xs, ()), ())))]⟩
theorem ask_val (xs : List Row3) (p s : Int) (hc : (sortedL xs && decide (List.length xs ≤ 1000000)) = true) (hs : In .i64 s) (hx : ∀ r ∈ xs, wfT rowT r) : evFn (env consB2) H.dedup_Table_Ask (LPof []) F.dedup_Table_Ask [.ptr 0 (.tl 0) 0, .int .i64 p, .int .i64 s] [.arr 1 .bool [] [[.hw 1]], .arr 3 rowT xs []] (finV (.tup [.int .i64, .int .i64]) [.box 1 [[.lit (.hw 1)]], .arr 3 rowT []] 2) = some (((askL xs p s).1, (askL xs p s).2, ()), ((((), ()), ()), (xs, ()), ())) := by
  rw [ask_ev, hc, cond_true]
  unfold askL
  cases hh : hasL xs p with
  | false => cases s == 0 <;> rfl
  | true =>
    have hk := has_lt hh
    have hi := at_in hx hk
    simp only [Bool.not_true, cond_false, cond_true, Option.bind_some]
    rw [cond_pos2 (by omega) (by omega)]
    by_cases h1 : (xs.getD (posL xs p) rowT.zero).2.1 = s
    · have e1 : ((xs.getD (posL xs p) rowT.zero).2.1 == s) = true := by simpa using h1
      have e2 : ((atL xs (posL xs p)).2.1 == s) = true := e1
      rw [e1, e2, cond_true, cond_pos2 (by omega) (by omega)]
      rfl
    · have e1 : ((xs.getD (posL xs p) rowT.zero).2.1 == s) = false := by simpa using h1
      have e2 : ((atL xs (posL xs p)).2.1 == s) = false := e1
      rw [e1, e2, cond_false, cond_false, cond_pos2 (by omega) (by omega)]
      by_cases h2 : (xs.getD (posL xs p) rowT.zero).2.1 < s
      · have h2' : (atL xs (posL xs p)).2.1 < s := h2
        rw [cond_pos h2, cond_pos2 (by omega) (by omega), wrap_next hi.2.1 h2 hs, Option.bind_some, decide_eq_true h2', Bool.true_and]
        show (bif (atL xs (posL xs p)).2.1 == s - 1 then _ else _) = _
        cases (atL xs (posL xs p)).2.1 == s - 1 <;> rfl
      · have h2' : ¬ (atL xs (posL xs p)).2.1 < s := h2
        rw [cond_neg h2, decide_eq_false h2']
        rfl
theorem ask_ok : caseAsk.e.ok P0 I.dedup_Table_Ask := vcase_ok (c := caseAsk) (H := H.dedup_Table_Ask) (E := env consB2) (env_ok consB2_ok) glob0 mixed0 G.dedup_Table_Ask Bd.dedup_Table_Ask (by kernel_rfl) noLoops fun ⟨_, p, s, ()⟩ ⟨_, ⟨xs, ()⟩, ()⟩ r h hw1 hw2 => by
  obtain ⟨hc, rfl⟩ := pick_pre h
  exact ask_val xs p s hc hw1.2.2.1 hw2.2.1.1.2
def caseAsk0 : VCase := ⟨[.lit (.ptr 0 (.tl 0) 0), .int .i64, .int .i64], [.box 1 [[.lit .nils]]], .tup [.int .i64, .int .i64], [.box 1 [[.lit .nils]]], fun ⟨_, p, s, ()⟩ _ => [(true, (((askL [] p s).1, (askL [] p s).2, ()), ((((), ()), ()), ())))]⟩
theorem ask0_val (p s : Int) : evFn (env consB2) H.dedup_Table_Ask (LPof []) F.dedup_Table_Ask [.ptr 0 (.tl 0) 0, .int .i64 p, .int .i64 s] [.arr 1 .bool [] [[.nils]]] (finV (.tup [.int .i64, .int .i64]) [.box 1 [[.lit .nils]]] 1) = some (((askL [] p s).1, (askL [] p s).2, ()), ((((), ()), ()), ())) := by
  rw [ask0_ev]
  have : askL [] p s = bif s == 0 then (0, 0) else (2, 0) := rfl
  rw [this]
  cases s == 0 <;> rfl
theorem ask0_ok : caseAsk0.e.ok P0 I.dedup_Table_Ask := vcase_ok (c := caseAsk0) (H := H.dedup_Table_Ask) (E := env consB2) (env_ok consB2_ok) glob0 mixed0 G.dedup_Table_Ask Bd.dedup_Table_Ask (by kernel_rfl) noLoops fun ⟨_, p, s, ()⟩ _ r h hw1 hw2 => by
  obtain ⟨hc, rfl⟩ := pick_pre h
  exact ask0_val p s
def caseSetO : VCase := ⟨[.lit (.ptr 0 (.tl 0) 0), .int .i64, .int .i64, .int .i64], [.box 1 [[.lit (.hw 1)]], .arr 3 rowT []], .int .i64, [.box 1 [[.lit (.hw 1)]], .arr 3 rowT []], fun ⟨_, p, s, o, _⟩ ⟨_, ⟨xs, _⟩, _⟩ =>
  [(sortedL xs && decide (List.length xs ≤ 1000000) && (hasL xs p || decide ((List.length xs : Int) ≥ 100)), ((setL xs (p, s, o)).2, ((((), ()), ()), ((setL xs (p, s, o)).1, ()), ())))]⟩
theorem seto_ok : caseSetO.e.ok P0 I.dedup_Table_Set := vcase_ok (c := caseSetO) (H := H.set2) (E := env consB2) (env_ok consB2_ok) glob0 mixed0 G.dedup_Table_Set Bd.dedup_Table_Set (by kernel_rfl) noLoops fun ⟨_, p, s, o, _⟩ ⟨_, ⟨xs, _⟩, _⟩ r h hw1 hw2 => by
  obtain ⟨hc, rfl⟩ := pick_pre h
  refine (seto_ev xs p s o).trans ?_
  cases h1 : sortedL xs && decide (List.length xs ≤ 1000000) with
  | false => rw [h1] at hc; cases hc
  | true =>
    rw [h1, Bool.true_and] at hc
    unfold setL
    simp only [cond_true]
    cases hh : hasL xs p with
    | true =>
      have hk := has_lt hh
      rw [cond_true, cond_true, cond_pos2 (by omega) (Int.ofNat_lt.2 hk), set_putAt xs _ _ hk]
      rfl
    | false =>
      rw [hh, Bool.false_or] at hc
      rw [cond_false, cond_false, hc]
      rfl
def caseSetN : VCase := ⟨[.lit (.ptr 0 (.tl 0) 0), .int .i64, .int .i64, .int .i64], [.box 1 [[.lit (.hw 1)]], .arr 3 rowT []], .int .i64, [.box 1 [[.lit (.hw 2)]], .dead, .arr 3 rowT []], fun ⟨_, p, s, o, _⟩ ⟨_, ⟨xs, _⟩, _⟩ =>
  [(sortedL xs && decide (List.length xs ≤ 1000000) && !(hasL xs p || decide ((List.length xs : Int) ≥ 100)), ((setL xs (p, s, o)).2, ((((), ()), ()), (), ((setL xs (p, s, o)).1, ()), ())))]⟩
theorem setn_ok : caseSetN.e.ok P0 I.dedup_Table_Set := vcase_ok (c := caseSetN) (H := H.set2) (E := env consB2) (env_ok consB2_ok) glob0 mixed0 G.dedup_Table_Set Bd.dedup_Table_Set (by kernel_rfl) noLoops fun ⟨_, p, s, o, _⟩ ⟨_, ⟨xs, _⟩, _⟩ r h hw1 hw2 => by
  obtain ⟨hc, rfl⟩ := pick_pre h
  refine (setn_ev xs p s o).trans ?_
  cases h1 : sortedL xs && decide (List.length xs ≤ 1000000) with
  | false => rw [h1] at hc; cases hc
  | true =>
    rw [h1, Bool.true_and] at hc
    have h2 : decide (List.length xs ≤ 1000000) = true := (Bool.and_eq_true_iff.1 h1).2
    unfold setL
    simp only [cond_true]
    cases hh : hasL xs p with
    | true => rw [hh, Bool.true_or] at hc; cases hc
    | false =>
      rw [hh, Bool.false_or] at hc
      have hc : decide ((List.length xs : Int) ≥ 100) = false := by simpa using hc
      have hp := pos_le xs p
      rw [cond_false, cond_false, hc, cond_false, h2, Bool.and_true]
      rw [cond_pos2 (Int.natCast_nonneg _) (Int.ofNat_le.2 hp)]
      rfl
def caseSet0 : VCase := ⟨[.lit (.ptr 0 (.tl 0) 0), .int .i64, .int .i64, .int .i64], [.box 1 [[.lit .nils]]], .int .i64, [.box 1 [[.lit (.hw 1)]], .arr 3 rowT []], fun ⟨_, p, s, o, _⟩ _ => [(true, ((0 : Int), ((((), ()), ()), ([(p, s, o)], ()), ())))]⟩
theorem set0_ok : caseSet0.e.ok P0 I.dedup_Table_Set := vcase_ok (c := caseSet0) (H := H.set2) (E := env consB2) (env_ok consB2_ok) glob0 mixed0 G.dedup_Table_Set Bd.dedup_Table_Set (by kernel_rfl) noLoops fun ⟨_, p, s, o, _⟩ _ r h hw1 hw2 => by
  obtain ⟨hc, rfl⟩ := pick_pre h
  exact set0_ev p s o
theorem pick_or {α : Type} {v : α} : ∀ {a b : List (Bool × α)}, pick (a ++ b) = some v → pick a = some v ∨ pick b = some v
  | [], _, h => .inr h
  | (true, u) :: _, _, h => .inl h
  | (false, u) :: a, b, h => pick_or (a := a) h
def caseSetE : ECase := ⟨caseSetO.ins, caseSetO.objs, fun x y => caseSetO.e.f x y ++ caseSetN.e.f x y⟩
theorem set_ok : caseSetE.ok P0 I.dedup_Table_Set := fun x y r objs' h hw1 hw2 => by
  rcases pick_or h with h | h
  · exact seto_ok x y r objs' h hw1 hw2
  · exact setn_ok x y r objs' h hw1 hw2
noncomputable abbrev consB3 : List (FuncId × Con) := [(I.dedup_Table_Ask, .eff (effOf [caseAsk.e, caseAsk0.e])), (I.dedup_Table_Set, .eff (effOf [caseSetE, caseSet0.e]))]
theorem consB3_ok : ∀ x ∈ consB3, HoldsC P0 x.1 x.2 := by
  intro x hx
  simp at hx
  rcases hx with rfl | rfl
  · exact ⟨fun args objs r objs2 h _ => effOf_holds (by simp; exact ⟨ask_ok, ask0_ok⟩) args objs r objs2 h, C.dedup_Table_Ask⟩
  · exact ⟨fun args objs r objs2 h _ => effOf_holds (by simp; exact ⟨set_ok, set0_ok⟩) args objs r objs2 h, C.dedup_Table_Set⟩
end Go.Sim.XD
namespace Go.Sim
set_option linter.unusedSimpArgs false
set_option linter.unusedVariables false
set_option maxRecDepth 10000
open Go.Sim.XU
theorem num16_ev (n : Int) : evFn (env []) H.cooperagelaw16_num (LPof []) F.cooperagelaw16_num [.int .i64 n] [] (finT [.int .i64]) = some (n, ()) := by kernel_rfl

def caseNum16 : PCase := ⟨[.ty (.int .i64)], [.int .i64], fun x => (fun (n : Int) => [(true, (n, ()))]) x.1⟩
theorem num16_val (n : Int) : evFn (env []) H.cooperagelaw16_num (LPof []) F.cooperagelaw16_num [.int .i64 n] [] (finT [.int .i64]) = some (n, ()) := by
  rw [num16_ev]
theorem num16_ok : caseNum16.ok P0 I.cooperagelaw16_num := case_ok2 (H := H.cooperagelaw16_num) (E := env []) (env_ok env_nil) glob0 mixed0 G.cooperagelaw16_num Bd.cooperagelaw16_num (by kernel_rfl) noLoops fun ⟨n, ()⟩ y h hw => by
  obtain ⟨hc, rfl⟩ := pick_pre h
  exact num16_val n
noncomputable abbrev consQ1 : List (FuncId × Con) := [(I.state_failed, inl (env []) H.state_failed F.state_failed (fun R k0 => loopsF (env []) H.state_failed k0 B.state_failed 1)), (I.dedup_Table_Ask, .eff (effOf [XD.caseAsk.e, XD.caseAsk0.e])), (I.dedup_Table_Set, .eff (effOf [XD.caseSetE, XD.caseSet0.e])), (I.segs_Log_Append, .eff (effOf [XU.caseAppend.e])), (I.segs_Log_High, .eff (effOf [XU.caseHigh.e])), (I.segs_Log_Low, .eff (effOf [XU.caseLow.e])), (I.segs_New, .eff (effOf [XU.caseNew.e]))]
theorem consQ1_ok : ∀ x ∈ consQ1, HoldsC P0 x.1 x.2 := by
  intro x hx
  simp at hx
  rcases hx with rfl | rfl | rfl | rfl | rfl | rfl | rfl
  · exact inl_ok (env_ok env_nil) glob0 mixed0 G.state_failed Bd.state_failed C.state_failed (fun R k0 => loopsF_good (env_ok env_nil) glob0 mixed0 (by kernel_rfl) 1)
  · exact ⟨fun args objs r objs2 h _ => effOf_holds (by simp; exact ⟨XD.ask_ok, XD.ask0_ok⟩) args objs r objs2 h, C.dedup_Table_Ask⟩
  · exact ⟨fun args objs r objs2 h _ => effOf_holds (by simp; exact ⟨XD.set_ok, XD.set0_ok⟩) args objs r objs2 h, C.dedup_Table_Set⟩
  · exact ⟨fun args objs r objs2 h _ => effOf_holds (by simp; exact XU.append_ok) args objs r objs2 h, C.segs_Log_Append⟩
  · exact ⟨fun args objs r objs2 h _ => effOf_holds (by simp; exact XU.high_ok) args objs r objs2 h, C.segs_Log_High⟩
  · exact ⟨fun args objs r objs2 h _ => effOf_holds (by simp; exact XU.low_ok) args objs r objs2 h, C.segs_Log_Low⟩
  · exact ⟨fun args objs r objs2 h _ => effOf_holds (by simp; exact XU.new_ok) args objs r objs2 h, C.segs_New⟩
noncomputable abbrev consQ2 : List (FuncId × Con) := [(I.state_typed, inl (env []) H.state_typed F.state_typed (fun R k0 => loopsF (env []) H.state_typed k0 B.state_typed 1)), (I.state_State_produce, inl (env consQ1) H.state_State_produce F.state_State_produce (fun R k0 => loopsF (env consQ1) H.state_State_produce k0 B.state_State_produce 1)), (I.state_State_tidy, inl (env consQ1) H.state_State_tidy F.state_State_tidy (fun R k0 => loopsF (env consQ1) H.state_State_tidy k0 B.state_State_tidy 1)), (I.command_Right, .pure (pureOf [XS.caseCright]))] ++ consQ1
theorem consQ2_ok : ∀ x ∈ consQ2, HoldsC P0 x.1 x.2 := by
  intro x hx
  rcases List.mem_append.1 hx with hx | hx
  · simp at hx
    rcases hx with rfl | rfl | rfl | rfl
    · exact inl_ok (env_ok env_nil) glob0 mixed0 G.state_typed Bd.state_typed C.state_typed (fun R k0 => loopsF_good (env_ok env_nil) glob0 mixed0 (by kernel_rfl) 1)
    · exact inl_ok (env_ok consQ1_ok) glob0 mixed0 G.state_State_produce Bd.state_State_produce C.state_State_produce (fun R k0 => loopsF_good (env_ok consQ1_ok) glob0 mixed0 (by kernel_rfl) 1)
    · exact inl_ok (env_ok consQ1_ok) glob0 mixed0 G.state_State_tidy Bd.state_State_tidy C.state_State_tidy (fun R k0 => loopsF_good (env_ok consQ1_ok) glob0 mixed0 (by kernel_rfl) 1)
    · exact ⟨pureOf_holds (by simp; exact XS.cright_ok), C.command_Right⟩
  · exact consQ1_ok x hx
noncomputable abbrev consQ3 : List (FuncId × Con) := [(I.cooperagelaw16_num, .pure (pureOf [caseNum16])), (I.state_New, inl (env consQ1) H.state_New F.state_New (fun R k0 => loopsF (env consQ1) H.state_New k0 B.state_New 1)), (I.state_State_Apply, inl (env consQ2) H.state_State_Apply F.state_State_Apply (fun R k0 => loopsF (env consQ2) H.state_State_Apply k0 B.state_State_Apply 1))] ++ consQ1
theorem consQ3_ok : ∀ x ∈ consQ3, HoldsC P0 x.1 x.2 := by
  intro x hx
  rcases List.mem_append.1 hx with hx | hx
  · simp at hx
    rcases hx with rfl | rfl | rfl
    · exact ⟨pureOf_holds (by simp; exact num16_ok), C.cooperagelaw16_num⟩
    · exact inl_ok (env_ok consQ1_ok) glob0 mixed0 G.state_New Bd.state_New C.state_New (fun R k0 => loopsF_good (env_ok consQ1_ok) glob0 mixed0 (by kernel_rfl) 1)
    · exact inl_ok (env_ok consQ2_ok) glob0 mixed0 G.state_State_Apply Bd.state_State_Apply C.state_State_Apply (fun R k0 => loopsF_good (env_ok consQ2_ok) glob0 mixed0 (by kernel_rfl) 1)
  · exact consQ1_ok x hx
def H.al16 : Hint := { H.cooperagelaw16_alive with vs := [9], join := [] }
theorem alive16_ev : evFn (env consQ3) H.al16 (LPof []) F.cooperagelaw16_alive [] [] (finT [.bool]) = some (true, ()) := by kernel_rfl

end Go.Sim
namespace Go.Sim
set_option linter.unusedSimpArgs false
set_option linter.unusedVariables false
set_option maxRecDepth 10000
open Go.Sim.XU
abbrev actT (b n z : Int) : List AV := [.int .i64 b, .int .i64 n, .int .i64 0, .int .i64 0, .hw 3, .bool false, .bool false, .bool false, .int .i64 z, .int .u32 0]
abbrev actTP : List Pat := [.int .i64, .int .i64, .lit (.int .i64 0), .lit (.int .i64 0), .lit (.hw 3), .lit (.bool false), .lit (.bool false), .lit (.bool false), .int .i64, .lit (.int .u32 0)]
abbrev boxP : OPat := .box 7 [[.lit (.ptr 1 (.tl 0) 0), .int .i64, .int .i64, .int .i64, .int .i64, .lit (.ptr 4 (.tl 0) 0), .lit (.ptr 5 (.tl 0) 0)]]
abbrev boxO (c1 c2 c3 c4 : Int) : AObj := .arr 7 .bool [] [[.ptr 1 (.tl 0) 0, .int .i64 c1, .int .i64 c2, .int .i64 c3, .int .i64 c4, .ptr 4 (.tl 0) 0, .ptr 5 (.tl 0) 0]]
abbrev segBP : OPat := .box 10 [[.int .i64, .int .i64, .int .i64, .int .i64, .vl recT, .bool, .bool, .bool, .int .i64, .int .u32]]
abbrev segBO (g : Seg) : AObj := .arr 10 .bool [] [[.int .i64 g.1, .int .i64 g.2.1, .int .i64 g.2.2.1, .int .i64 g.2.2.2.1, .vl recT g.2.2.2.2.1, .bool g.2.2.2.2.2.1, .bool g.2.2.2.2.2.2.1, .bool g.2.2.2.2.2.2.2.1, .int .i64 g.2.2.2.2.2.2.2.2.1, .int .u32 g.2.2.2.2.2.2.2.2.2]]
abbrev VS6 : List Nat := [0, 1, 4, 6, 7, 14, 15, 16, 29, 30, 31]
def H.since2 : Hint := { H.state_State_since with loops := [(2, [0, 1, 4, 14, 15, 16]), (6, [0, 1, 4, 6, 7, 14, 15, 16, 29, 30, 31])] }
noncomputable abbrev consY0 : List (FuncId × Con) := [(I.segs_Log_Segments, .eff (effOf [XU.caseSegments.e])), (I.segs_Log_High, .eff (effOf [XU.caseHigh.e]))]
theorem consY0_ok : ∀ x ∈ consY0, HoldsC P0 x.1 x.2 := by
  intro x hx
  simp at hx
  rcases hx with rfl | rfl
  · exact ⟨fun args objs r objs2 h _ => effOf_holds (by simp; exact XU.segments_ok) args objs r objs2 h, C.segs_Log_Segments⟩
  · exact ⟨fun args objs r objs2 h _ => effOf_holds (by simp; exact XU.high_ok) args objs r objs2 h, C.segs_Log_High⟩
/-! ### the plain law: from which segment on a time is there -/
def lateR (now : Int) (rs : List Rec) : Bool := rs.any fun r => decide (r.2.1 ≥ now)
def lateG (now : Int) (g : Seg) : Bool := bif g.2.2.2.2.2.1 then decide (g.2.2.1 ≥ now) else lateR now g.2.2.2.2.1
def lateB (now : Int) (L : LogS) : Option Int := ((segsL L).find? (lateG now)).map (·.1)
theorem latI_ge (now : Int) (l : List Rec) : ∀ i, i < l.length → decide (latI l (i + 1) ≥ now) = lateR now (l.take (i + 1))
  | 0, h => by
    have e : l.take 1 = [l.getD 0 recTy.zero] := by have := take_snoc (l := l) (i := 0) h; simpa using this
    rw [e]
    show decide ((l.getD 0 recTy.zero).2.1 ≥ now) = _
    simp [lateR]
  | i + 1, h => by
    have ih := latI_ge now l i (by omega)
    rw [take_snoc h]
    unfold lateR at ih ⊢
    rw [List.any_append, ← ih]
    show decide ((bif decide (i + 1 = 0) || decide ((l.getD (i + 1) recTy.zero).2.1 > latI l (i + 1)) then (l.getD (i + 1) recTy.zero).2.1 else latI l (i + 1)) ≥ now) = _
    have e0 : decide (i + 1 = 0) = false := decide_eq_false (by omega)
    rw [e0, Bool.false_or]
    simp only [List.any_cons, List.any_nil, Bool.or_false]
    by_cases h1 : (l.getD (i + 1) recTy.zero).2.1 > latI l (i + 1)
    · rw [decide_eq_true h1, cond_true]
      by_cases h2 : (l.getD (i + 1) recTy.zero).2.1 ≥ now
      · rw [decide_eq_true h2, Bool.or_true]
      · rw [decide_eq_false h2, decide_eq_false (show ¬ latI l (i + 1) ≥ now by omega)]; rfl
    · rw [decide_eq_false h1, cond_false]
      by_cases h2 : (l.getD (i + 1) recTy.zero).2.1 ≥ now
      · rw [decide_eq_true h2, Bool.or_true, decide_eq_true (show latI l (i + 1) ≥ now by omega)]
      · rw [decide_eq_false h2, Bool.or_false]
theorem latS_late (now : Int) (l : List Rec) (h : l ≠ []) : decide (latS l ≥ now) = lateR now l := by
  obtain ⟨k, hk⟩ : ∃ k, l.length = k + 1 := ⟨l.length - 1, by have := List.length_pos_iff.2 h; omega⟩
  unfold latS
  rw [hk, latI_ge now l k (by omega), List.take_of_length_le (by omega)]
theorem lateB_eq (now : Int) (f : List Seg) (b n z : Int) (rs : List Rec) : lateB now (f, b, n, z, rs) = ((f.find? (lateG now)).map (·.1)).or (bif lateR now rs then some b else none) := by
  have e : lateG now (actS (f, b, n, z, rs)) = lateR now rs := rfl
  have e2 : (actS (f, b, n, z, rs)).1 = b := rfl
  unfold lateB segsL
  rw [List.find?_append, List.find?_cons, List.find?_nil, e]
  cases hf : f.find? (lateG now) with
  | some g => rfl
  | none =>
    cases lateR now rs with
    | true => simp [e2]
    | false => rfl
theorem lateR_snoc (now : Int) (rs : List Rec) (r : Rec) : lateR now (rs ++ [r]) = (lateR now rs || decide (r.2.1 ≥ now)) := by unfold lateR; simp
theorem lateB_push (now : Int) (L : LogS) (r : Rec) : lateB now (pushP L r) = (lateB now L).or (bif decide (r.2.1 ≥ now) then some L.2.1 else none) := by
  obtain ⟨f, b, n, z, rs⟩ := L
  show lateB now (f, b, n + 1, _, rs ++ [(n, r.2)]) = _
  have e : lateR now (rs ++ [(n, r.2)]) = (lateR now rs || decide (r.2.1 ≥ now)) := lateR_snoc now rs (n, r.2)
  rw [lateB_eq, lateB_eq, e]
  show _ = Option.or _ (bif decide (r.2.1 ≥ now) then some b else none)
  cases f.find? (lateG now) with
  | some g => rfl
  | none => cases lateR now rs <;> cases decide (r.2.1 ≥ now) <;> rfl
theorem lateB_seal (now : Int) (L : LogS) (h : L.2.2.2.2 ≠ []) : lateB now (sealP L) = lateB now L := by
  obtain ⟨f, b, n, z, rs⟩ := L
  have h : rs ≠ [] := h
  unfold sealP
  simp only
  cases hb : b == n with
  | true => rfl
  | false =>
    rw [cond_false, lateB_eq, lateB_eq, List.find?_append, List.find?_cons, List.find?_nil]
    have e : lateG now (b, n, latS rs, 0, rs, true, false, false, z, 0) = lateR now rs := latS_late now rs h
    rw [e]
    cases f.find? (lateG now) with
    | some g => rfl
    | none => cases lateR now rs <;> rfl
/-- What holds of the log, and of what the law wants, once i numbers are in. -/
structure InvS (now : Int) (c n i : Nat) (L : LogS) (w : Int) : Prop where
  next : L.2.2.1 = (i : Int)
  base : L.2.1 = ((i / c * c : Nat) : Int)
  bnd : ∀ b, lateB now L = some b → b ≤ L.2.1
  want : w = (lateB now L).getD (n : Int)
  low : lowP L = 0
  ok : okB (4 * i) L = true
def rT (t : Int) : Rec := (0, t, [107], [], false)
def wantS (now : Int) (c i : Nat) (t w : Int) : Int := bif decide (t ≥ now) && decide (((i / c * c : Nat) : Int) < w) then ((i / c * c : Nat) : Int) else w
theorem div_step {i c : Nat} (hc : 1 ≤ c) : (i + 1 - i / c * c ≥ c ∧ (i + 1) / c * c = i + 1) ∨ (i + 1 - i / c * c < c ∧ (i + 1) / c * c = i / c * c) := by
  have h1 := Nat.div_add_mod i c
  have h2 := Nat.mod_lt i (show 0 < c by omega)
  have h3 : i / c * c = c * (i / c) := Nat.mul_comm _ _
  by_cases h : i % c + 1 < c
  · refine .inr ⟨by omega, ?_⟩
    have e : i + 1 = c * (i / c) + (i % c + 1) := by omega
    have e2 : (i + 1) / c = i / c := by
      rw [e, Nat.mul_add_div (by omega), Nat.div_eq_of_lt h]
      simp
    rw [e2]
  · refine .inl ⟨by omega, ?_⟩
    have e : i + 1 = c * (i / c) + (i % c + 1) := by omega
    have e3 : i % c + 1 = c := by omega
    have e2 : (i + 1) / c = i / c + 1 := by
      conv => lhs; rw [e, e3]
      rw [Nat.mul_add_div (by omega), Nat.div_self (by omega)]
    rw [e2, Nat.add_mul, h3]
    omega
theorem InvS_zero (now : Int) {c n : Nat} : InvS now c n 0 ([], 0, 0, 0, []) n := ⟨rfl, by simp, (fun b h => by rw [lateB_eq] at h; cases h), (by rw [lateB_eq]; rfl), rfl, rfl⟩
theorem sealP_base {L : LogS} (h : L.2.1 ≠ L.2.2.1) : (sealP L).2.1 = L.2.2.1 := by
  unfold sealP
  rw [show (L.2.1 == L.2.2.1) = false by simpa using h]
  rfl
theorem InvS_step {now : Int} {c n i : Nat} {L : LogS} {w t : Int} (hc : 1 ≤ c) (hn : n ≤ 40) (hi : i < n) (ht : 0 ≤ t ∧ t ≤ 1023) (h : InvS now c n i L w) : InvS now c n (i + 1) (apR c L (rT t)) (wantS now c i t w) := by
  have hr : recR (0, (rT t).2) = true := by unfold recR rT; simp; omega
  have hmx : mxI (c : Int) = (c : Int) := by
    unfold mxI
    by_cases h1 : (c : Int) > 1
    · rw [cond_pos h1]
    · rw [cond_neg h1]; omega
  have hpo := pushP_ok (rT t) h.ok
  have hso := sealP_ok hpo (by omega)
  have hpb : (pushP L (rT t)).2.1 = L.2.1 := rfl
  have hpn : (pushP L (rT t)).2.2.1 = ((i + 1 : Nat) : Int) := by show L.2.2.1 + 1 = _; rw [h.next]; omega
  have hpl := lateB_push now L (rT t)
  have hle : i / c * c ≤ i := Nat.div_mul_le_self i c
  have hne : (pushP L (rT t)).2.2.2.2 ≠ [] := by show L.2.2.2.2 ++ [_] ≠ []; simp
  have hse := lateB_seal now (pushP L (rT t)) hne
  have hlo : lowP (pushP L (rT t)) = 0 := h.low
  have hls := lowP_seal (pushP L (rT t))
  have ht1 : (rT t).2.1 = t := rfl
  rw [ht1, h.base] at hpl
  -- what the law wants
  have hw : wantS now c i t w = (lateB now (pushP L (rT t))).getD (n : Int) := by
    rw [hpl, h.want]
    unfold wantS
    cases hb : lateB now L with
    | some b =>
      have := h.bnd b hb
      rw [h.base] at this
      rw [Option.getD_some, decide_eq_false (show ¬ ((i / c * c : Nat) : Int) < b by omega), Bool.and_false]
      rfl
    | none =>
      rw [Option.getD_none, decide_eq_true (show ((i / c * c : Nat) : Int) < (n : Int) by omega), Bool.and_true]
      cases decide (t ≥ now) <;> rfl
  have hbd : ∀ b, lateB now (pushP L (rT t)) = some b → b ≤ L.2.1 := fun b hb => by
    rw [hpl] at hb
    cases h1 : lateB now L with
    | some b' =>
      rw [h1] at hb
      cases hb
      exact h.bnd b h1
    | none =>
      rw [h1] at hb
      cases h2 : decide (t ≥ now) with
      | true => rw [h2] at hb; cases hb; rw [h.base]; exact Int.le_refl _
      | false => rw [h2] at hb; cases hb
  unfold apR
  rw [hr, cond_true, hmx, h.next, h.base]
  rcases div_step (i := i) hc with ⟨d1, d2⟩ | ⟨d1, d2⟩
  · rw [decide_eq_true (show (i : Int) + 1 - ((i / c * c : Nat) : Int) ≥ (c : Int) by omega), cond_true]
    have hb : (sealP (pushP L (rT t))).2.1 = ((i + 1 : Nat) : Int) := by
      rw [sealP_base (by rw [hpb, hpn, h.base]; omega)]
      exact hpn
    refine ⟨by rw [sealP_next]; exact hpn, by rw [hb, d2], fun b hb' => ?_, by rw [hse]; exact hw, by rw [hls]; exact hlo, okB_mono hso (by omega)⟩
    rw [hse] at hb'
    have := hbd b hb'
    rw [h.base] at this
    rw [hb]
    omega
  · rw [decide_eq_false (show ¬ (i : Int) + 1 - ((i / c * c : Nat) : Int) ≥ (c : Int) by omega), cond_false]
    exact ⟨hpn, by rw [hpb, h.base, d2], fun b hb' => by rw [hpb]; exact hbd b hb', hw, hlo, okB_mono hpo (by omega)⟩

def lateAt (now : Int) (l : List Seg) (i : Nat) : Bool := lateG now (l.getD i segTy.zero)
/-- Is a segment's time late, once k of its records are seen? -/
def lateQ (now : Int) (sl : Bool) (xs : List Rec) (q : Bool) : Nat → Bool
  | 0 => q
  | k + 1 => lateQ now sl xs q k || (!sl && decide ((xs.getD k recTy.zero).2.1 ≥ now))
theorem lateQ_any (now : Int) (sl : Bool) (xs : List Rec) (q : Bool) : ∀ k, k ≤ xs.length → lateQ now sl xs q k = (q || (!sl && lateR now (xs.take k)))
  | 0, _ => by simp [lateQ, lateR]
  | k + 1, h => by
    rw [take_snoc (by omega), lateR_snoc]
    simp only [lateQ, lateQ_any now sl xs q k (by omega)]
    cases q <;> cases sl <;> rfl
theorem lateQ_end (now : Int) (g : Seg) : lateQ now g.2.2.2.2.2.1 g.2.2.2.2.1 (g.2.2.2.2.2.1 && decide (g.2.2.1 ≥ now)) g.2.2.2.2.1.length = lateG now g := by
  rw [lateQ_any now _ _ _ _ (Nat.le_refl _), List.take_length]
  unfold lateG
  cases g.2.2.2.2.2.1 with
  | true => simp
  | false => simp
theorem first_find (p : Seg → Bool) (l : List Seg) : ∀ (m i : Nat), i + m = l.length → (match firstFrom (fun k => p (l.getD k segTy.zero)) i m with
    | some k => some (l.getD k segTy.zero)
    | none => none) = (l.drop i).find? p
  | 0, i, h => by
    rw [List.drop_of_length_le (by omega)]
    rfl
  | m + 1, i, h => by
    have hi : i < l.length := by omega
    have e : l.drop i = l.getD i segTy.zero :: l.drop (i + 1) := by
      rw [List.drop_eq_getElem_cons hi, List.getD_eq_getElem?_getD, List.getElem?_eq_getElem hi]
      rfl
    have ih := first_find p l m (i + 1) (by omega)
    rw [e, List.find?_cons, firstFrom]
    cases p (l.getD i segTy.zero) with
    | true => rfl
    | false => exact ih
theorem since_eq (now : Int) (L : LogS) (d : Int) : (match firstFrom (fun k => lateG now ((segsL L).getD k segTy.zero)) 0 (segsL L).length with
    | some k => ((segsL L).getD k segTy.zero).1
    | none => d) = (lateB now L).getD d := by
  have h := first_find (lateG now) (segsL L) _ 0 (Nat.zero_add _)
  unfold lateB
  rw [List.drop_zero] at h
  rw [← h]
  cases firstFrom (fun k => lateG now ((segsL L).getD k segTy.zero)) 0 (segsL L).length <;> rfl

abbrev stAP : List OPat := [boxP, .box 1 [[.lit (.hw 2)]], .arr 10 segT [actTP], .log recT, .box 1 [[.lit .nils]], .box 1 [[.lit .nils]]]
def stAO (c1 c2 c3 c4 : Int) (f : List Seg) (b n z : Int) (rs : List Rec) : List (Nat × AObj) := [(0, boxO c1 c2 c3 c4), (1, .arr 1 .bool [] [[.hw 2]]), (2, .arr 10 segT f [actT b n z]), (3, .log recT rs), (4, .arr 1 .bool [] [[.nils]]), (5, .arr 1 .bool [] [[.nils]])]
theorem sn6A_rd {R : Type} (c1 c2 c3 c4 : Int) (now i m k r0 : Int) (q : Bool) (l : List Seg) (xs : List Rec) (g : Seg) (f : List Seg) (b n z : Int) (rs : List Rec) (K : Ex → St → Option R) : roundK (env consY0) H.since2 6 (LPof []) VS6 L.state_State_since_6 ⟨[(0, .ptr 0 (.tl 0) 0), (1, .int .i64 now), (4, .int .i64 r0), (6, .ptr 6 (.tl 0) 0), (7, .bool q), (14, .vl segT l), (15, .int .i64 l.length), (16, .int .i64 i), (29, .vl recT xs), (30, .int .i64 m), (31, .int .i64 k)], [(0, boxO c1 c2 c3 c4), (1, .arr 1 .bool [] [[.hw 2]]), (2, .arr 10 segT f [actT b n z]), (3, .log recT rs), (4, .arr 1 .bool [] [[.nils]]), (5, .arr 1 .bool [] [[.nils]]), (6, segBO g)], 7⟩ K = bif decide (k < m) then bif decide ((0 : Int) ≤ k) && decide (k < (↑xs.length : Int)) then Option.bind (bif q then some true else bif !g.snd.snd.snd.snd.snd.fst then some (decide ((xs.getD k.toNat recTy.zero).snd.fst ≥ now)) else some false) fun v => K Ex.normal { slots := [(0, AV.ptr 0 (Elt.tl 0) 0), (1, AV.int IntKind.i64 now), (4, AV.int IntKind.i64 r0), (6, AV.ptr 6 (Elt.tl 0) 0), (7, AV.bool v), (14, AV.vl segTy l), (15, AV.int IntKind.i64 (↑l.length : Int)), (16, AV.int IntKind.i64 i), (29, AV.vl recTy xs), (30, AV.int IntKind.i64 m), (31, AV.int IntKind.i64 (IntKind.i64.wrap (k + (1 : Int))))], objs := [(0, AObj.arr 7 Ty.bool [] [[AV.ptr 1 (Elt.tl 0) 0, AV.int IntKind.i64 c1, AV.int IntKind.i64 c2, AV.int IntKind.i64 c3, AV.int IntKind.i64 c4, AV.ptr 4 (Elt.tl 0) 0, AV.ptr 5 (Elt.tl 0) 0]]), (1, AObj.arr 1 Ty.bool [] [[AV.hw 2]]), (2, AObj.arr 10 segTy f [[AV.int IntKind.i64 b, AV.int IntKind.i64 n, AV.int IntKind.i64 (0 : Int), AV.int IntKind.i64 (0 : Int), AV.hw 3, AV.bool false, AV.bool false, AV.bool false, AV.int IntKind.i64 z, AV.int IntKind.u32 (0 : Int)]]), (3, AObj.log recTy rs), (4, AObj.arr 1 Ty.bool [] [[AV.nils]]), (5, AObj.arr 1 Ty.bool [] [[AV.nils]]), (6, AObj.arr 10 Ty.bool [] [[AV.int IntKind.i64 g.fst, AV.int IntKind.i64 g.snd.fst, AV.int IntKind.i64 g.snd.snd.fst, AV.int IntKind.i64 g.snd.snd.snd.fst, AV.vl recTy g.snd.snd.snd.snd.fst, AV.bool g.snd.snd.snd.snd.snd.fst, AV.bool g.snd.snd.snd.snd.snd.snd.fst, AV.bool g.snd.snd.snd.snd.snd.snd.snd.fst, AV.int IntKind.i64 g.snd.snd.snd.snd.snd.snd.snd.snd.fst, AV.int IntKind.u32 g.snd.snd.snd.snd.snd.snd.snd.snd.snd]])], nx := 7 } else none else K (Ex.exit 2) { slots := [(0, AV.ptr 0 (Elt.tl 0) 0), (1, AV.int IntKind.i64 now), (4, AV.int IntKind.i64 r0), (6, AV.ptr 6 (Elt.tl 0) 0), (7, AV.bool q), (14, AV.vl segTy l), (15, AV.int IntKind.i64 (↑l.length : Int)), (16, AV.int IntKind.i64 i), (29, AV.vl recTy xs), (30, AV.int IntKind.i64 m), (31, AV.int IntKind.i64 k)], objs := [(0, AObj.arr 7 Ty.bool [] [[AV.ptr 1 (Elt.tl 0) 0, AV.int IntKind.i64 c1, AV.int IntKind.i64 c2, AV.int IntKind.i64 c3, AV.int IntKind.i64 c4, AV.ptr 4 (Elt.tl 0) 0, AV.ptr 5 (Elt.tl 0) 0]]), (1, AObj.arr 1 Ty.bool [] [[AV.hw 2]]), (2, AObj.arr 10 segTy f [[AV.int IntKind.i64 b, AV.int IntKind.i64 n, AV.int IntKind.i64 (0 : Int), AV.int IntKind.i64 (0 : Int), AV.hw 3, AV.bool false, AV.bool false, AV.bool false, AV.int IntKind.i64 z, AV.int IntKind.u32 (0 : Int)]]), (3, AObj.log recTy rs), (4, AObj.arr 1 Ty.bool [] [[AV.nils]]), (5, AObj.arr 1 Ty.bool [] [[AV.nils]]), (6, AObj.arr 10 Ty.bool [] [[AV.int IntKind.i64 g.fst, AV.int IntKind.i64 g.snd.fst, AV.int IntKind.i64 g.snd.snd.fst, AV.int IntKind.i64 g.snd.snd.snd.fst, AV.vl recTy g.snd.snd.snd.snd.fst, AV.bool g.snd.snd.snd.snd.snd.fst, AV.bool g.snd.snd.snd.snd.snd.snd.fst, AV.bool g.snd.snd.snd.snd.snd.snd.snd.fst, AV.int IntKind.i64 g.snd.snd.snd.snd.snd.snd.snd.snd.fst, AV.int IntKind.u32 g.snd.snd.snd.snd.snd.snd.snd.snd.snd]])], nx := 7 } := by kernel_rfl

def sn6ASt (c1 c2 c3 c4 : Int) (now i r0 : Int) (q : Bool) (l : List Seg) (xs : List Rec) (g : Seg) (f : List Seg) (b n z : Int) (rs : List Rec) (k : Nat) : St := ⟨[(0, .ptr 0 (.tl 0) 0), (1, .int .i64 now), (4, .int .i64 r0), (6, .ptr 6 (.tl 0) 0), (7, .bool (lateQ now g.2.2.2.2.2.1 xs q k)), (14, .vl segT l), (15, .int .i64 l.length), (16, .int .i64 i), (29, .vl recT xs), (30, .int .i64 xs.length), (31, .int .i64 k)], [(0, boxO c1 c2 c3 c4), (1, .arr 1 .bool [] [[.hw 2]]), (2, .arr 10 segT f [actT b n z]), (3, .log recT rs), (4, .arr 1 .bool [] [[.nils]]), (5, .arr 1 .bool [] [[.nils]]), (6, segBO g)], 7⟩
theorem sn6A_rounds {R : Type} (c1 c2 c3 c4 : Int) (now i r0 : Int) (q : Bool) (l : List Seg) (xs : List Rec) (hx : xs.length ≤ maxL) (g : Seg) (f : List Seg) (b n z : Int) (rs : List Rec) (K : Ex → St → Option R) : ∀ (m k : Nat), k + m = xs.length →
    rounds (env consY0) H.since2 6 (LPof []) VS6 L.state_State_since_6 (m + 1) (sn6ASt c1 c2 c3 c4 now i r0 q l xs g f b n z rs k) K = K (.exit 2) (sn6ASt c1 c2 c3 c4 now i r0 q l xs g f b n z rs xs.length)
  | 0, k, h => by
    obtain rfl : k = xs.length := by omega
    rw [rounds_succ']
    refine (sn6A_rd _ _ _ _ _ _ _ _ _ _ _ _ _ _ _ _ _ _ _).trans ?_
    rw [cond_neg (by omega)]
    rfl
  | m + 1, k, h => by
    have ih := sn6A_rounds c1 c2 c3 c4 now i r0 q l xs hx g f b n z rs K m (k + 1) (by omega)
    unfold maxL at hx
    have e1 : IntKind.i64.wrap ((k : Int) + 1) = ((k + 1 : Nat) : Int) := by rw [wrap64 (by omega) (by omega)]; omega
    rw [rounds_succ']
    refine (sn6A_rd _ _ _ _ _ _ _ _ _ _ _ _ _ _ _ _ _ _ _).trans ?_
    rw [cond_pos (by omega), cond_pos2 (by omega) (by omega), Int.toNat_natCast, e1]
    have e : ∀ (a b c : Bool), (bif a then some true else bif b then some c else some false) = some (a || (b && c)) := fun a b c => by cases a <;> cases b <;> rfl
    rw [e, Option.bind_some]
    exact ih
abbrev sn6ALC : LoopC := LoopC.of ⟨[(0, .lit (.ptr 0 (.tl 0) 0)), (1, .int .i64), (4, .int .i64), (6, .lit (.ptr 6 (.tl 0) 0)), (7, .bool), (14, .vl segT), (15, .int .i64), (16, .int .i64), (29, .vl recT), (30, .int .i64), (31, .int .i64)], [boxP, .box 1 [[.lit (.hw 2)]], .arr 10 segT [actTP], .log recT, .box 1 [[.lit .nils]], .box 1 [[.lit .nils]], segBP]⟩
  (fun ⟨⟨_, now, r0, _, q, l, nl, i, xs, m, k, _⟩, ⟨⟨⟨_, c1, c2, c3, c4, _, _, _⟩, _⟩, _, ⟨f, ⟨b, n, _, _, _, _, _, _, z, _, _⟩, _⟩, rs, _, _, ⟨⟨g1, g2, g3, g4, g5, g6, g7, g8, g9, g10, _⟩, _⟩, _⟩⟩ => decide (k = (0 : Int)) && decide (m = (List.length xs : Int)) && decide (nl = (List.length l : Int)))
  fun ⟨⟨_, now, r0, _, q, l, nl, i, xs, m, k, _⟩, ⟨⟨⟨_, c1, c2, c3, c4, _, _, _⟩, _⟩, _, ⟨f, ⟨b, n, _, _, _, _, _, _, z, _, _⟩, _⟩, rs, _, _, ⟨⟨g1, g2, g3, g4, g5, g6, g7, g8, g9, g10, _⟩, _⟩, _⟩⟩ => [(true, .exit 2, sn6ASt c1 c2 c3 c4 now i r0 q l xs (g1, g2, g3, g4, g5, g6, g7, g8, g9, g10) f b n z rs (List.length xs))]
theorem sn6A_lok : LoopOK P0 H.since2 6 L.state_State_since_6 sn6ALC :=
  loop_ok_of (env_ok consY0_ok) glob0 mixed0 noLoops VS6 (by decide) fun ⟨⟨_, now, r0, _, q, l, nl, i, xs, m, k, _⟩, ⟨⟨⟨_, c1, c2, c3, c4, _, _, _⟩, _⟩, _, ⟨f, ⟨b, n, _, _, _, _, _, _, z, _, _⟩, _⟩, rs, _, _, ⟨⟨g1, g2, g3, g4, g5, g6, g7, g8, g9, g10, _⟩, _⟩, _⟩⟩ h hw => by
    simp only [Bool.and_eq_true, decide_eq_true_eq] at h
    obtain ⟨⟨rfl, rfl⟩, rfl⟩ := h
    exact ⟨_, sn6A_rounds c1 c2 c3 c4 now i r0 q l xs hw.1.2.2.2.2.2.2.2.2.1.1 (g1, g2, g3, g4, g5, g6, g7, g8, g9, g10) f b n z rs _ xs.length 0 (Nat.zero_add _)⟩
theorem sn2A_rd {R : Type} (c1 c2 c3 c4 : Int) (now i r0 : Int) (l : List Seg) (f : List Seg) (b n z : Int) (rs : List Rec) (K : Ex → St → Option R) : roundK (env consY0) H.since2 6 (LPof [(6, sn6ALC)]) V.state_State_since_2 L.state_State_since_2 ⟨[(0, .ptr 0 (.tl 0) 0), (1, .int .i64 now), (4, .int .i64 r0), (14, .vl segT l), (15, .int .i64 l.length), (16, .int .i64 i)], [(0, boxO c1 c2 c3 c4), (1, .arr 1 .bool [] [[.hw 2]]), (2, .arr 10 segT f [actT b n z]), (3, .log recT rs), (4, .arr 1 .bool [] [[.nils]]), (5, .arr 1 .bool [] [[.nils]])], 6⟩ K = bif decide (i < (↑l.length : Int)) then bif decide ((0 : Int) ≤ i) && decide (i < (↑l.length : Int)) then Option.bind (bif (l.getD i.toNat segTy.zero).snd.snd.snd.snd.snd.fst then some (decide ((l.getD i.toNat segTy.zero).snd.snd.fst ≥ now)) else some false) fun v => bif decide ((↑(List.length (l.getD i.toNat segTy.zero).snd.snd.snd.snd.fst) : Int) = (↑(List.length (l.getD i.toNat segTy.zero).snd.snd.snd.snd.fst) : Int)) && decide ((↑l.length : Int) = (↑l.length : Int)) && true then bif lateQ now (l.getD i.toNat segTy.zero).snd.snd.snd.snd.snd.fst (l.getD i.toNat segTy.zero).snd.snd.snd.snd.fst v (List.length (l.getD i.toNat segTy.zero).snd.snd.snd.snd.fst) then K Ex.ret { slots := [(0, AV.ptr 0 (Elt.tl 0) 0), (1, AV.int IntKind.i64 now), (4, AV.int IntKind.i64 (l.getD i.toNat segTy.zero).fst), (14, AV.vl segTy l), (15, AV.int IntKind.i64 (↑l.length : Int)), (16, AV.int IntKind.i64 i)], objs := [(0, AObj.arr 7 Ty.bool [] [[AV.ptr 1 (Elt.tl 0) 0, AV.int IntKind.i64 c1, AV.int IntKind.i64 c2, AV.int IntKind.i64 c3, AV.int IntKind.i64 c4, AV.ptr 4 (Elt.tl 0) 0, AV.ptr 5 (Elt.tl 0) 0]]), (1, AObj.arr 1 Ty.bool [] [[AV.hw 2]]), (2, AObj.arr 10 segTy f [[AV.int IntKind.i64 b, AV.int IntKind.i64 n, AV.int IntKind.i64 (0 : Int), AV.int IntKind.i64 (0 : Int), AV.hw 3, AV.bool false, AV.bool false, AV.bool false, AV.int IntKind.i64 z, AV.int IntKind.u32 (0 : Int)]]), (3, AObj.log recTy rs), (4, AObj.arr 1 Ty.bool [] [[AV.nils]]), (5, AObj.arr 1 Ty.bool [] [[AV.nils]])], nx := 6 } else K Ex.normal { slots := [(0, AV.ptr 0 (Elt.tl 0) 0), (1, AV.int IntKind.i64 now), (4, AV.int IntKind.i64 r0), (14, AV.vl segTy l), (15, AV.int IntKind.i64 (↑l.length : Int)), (16, AV.int IntKind.i64 (IntKind.i64.wrap (i + (1 : Int))))], objs := [(0, AObj.arr 7 Ty.bool [] [[AV.ptr 1 (Elt.tl 0) 0, AV.int IntKind.i64 c1, AV.int IntKind.i64 c2, AV.int IntKind.i64 c3, AV.int IntKind.i64 c4, AV.ptr 4 (Elt.tl 0) 0, AV.ptr 5 (Elt.tl 0) 0]]), (1, AObj.arr 1 Ty.bool [] [[AV.hw 2]]), (2, AObj.arr 10 segTy f [[AV.int IntKind.i64 b, AV.int IntKind.i64 n, AV.int IntKind.i64 (0 : Int), AV.int IntKind.i64 (0 : Int), AV.hw 3, AV.bool false, AV.bool false, AV.bool false, AV.int IntKind.i64 z, AV.int IntKind.u32 (0 : Int)]]), (3, AObj.log recTy rs), (4, AObj.arr 1 Ty.bool [] [[AV.nils]]), (5, AObj.arr 1 Ty.bool [] [[AV.nils]])], nx := 6 } else none else none else K (Ex.exit 0) { slots := [(0, AV.ptr 0 (Elt.tl 0) 0), (1, AV.int IntKind.i64 now), (4, AV.int IntKind.i64 r0), (14, AV.vl segTy l), (15, AV.int IntKind.i64 (↑l.length : Int)), (16, AV.int IntKind.i64 i)], objs := [(0, AObj.arr 7 Ty.bool [] [[AV.ptr 1 (Elt.tl 0) 0, AV.int IntKind.i64 c1, AV.int IntKind.i64 c2, AV.int IntKind.i64 c3, AV.int IntKind.i64 c4, AV.ptr 4 (Elt.tl 0) 0, AV.ptr 5 (Elt.tl 0) 0]]), (1, AObj.arr 1 Ty.bool [] [[AV.hw 2]]), (2, AObj.arr 10 segTy f [[AV.int IntKind.i64 b, AV.int IntKind.i64 n, AV.int IntKind.i64 (0 : Int), AV.int IntKind.i64 (0 : Int), AV.hw 3, AV.bool false, AV.bool false, AV.bool false, AV.int IntKind.i64 z, AV.int IntKind.u32 (0 : Int)]]), (3, AObj.log recTy rs), (4, AObj.arr 1 Ty.bool [] [[AV.nils]]), (5, AObj.arr 1 Ty.bool [] [[AV.nils]])], nx := 6 } := by kernel_rfl
def sn2ASt (c1 c2 c3 c4 : Int) (now r0 : Int) (l : List Seg) (f : List Seg) (b n z : Int) (rs : List Rec) (i : Nat) : St := ⟨[(0, .ptr 0 (.tl 0) 0), (1, .int .i64 now), (4, .int .i64 r0), (14, .vl segT l), (15, .int .i64 l.length), (16, .int .i64 i)], [(0, boxO c1 c2 c3 c4), (1, .arr 1 .bool [] [[.hw 2]]), (2, .arr 10 segT f [actT b n z]), (3, .log recT rs), (4, .arr 1 .bool [] [[.nils]]), (5, .arr 1 .bool [] [[.nils]])], 6⟩
abbrev sn2ALC : LoopC := LoopC.of ⟨[(0, .lit (.ptr 0 (.tl 0) 0)), (1, .int .i64), (4, .int .i64), (14, .vl segT), (15, .int .i64), (16, .int .i64)], stAP⟩
  (fun ⟨⟨_, now, r0, l, nl, i, _⟩, ⟨⟨⟨_, c1, c2, c3, c4, _, _, _⟩, _⟩, _, ⟨f, ⟨b, n, _, _, _, _, _, _, z, _, _⟩, _⟩, rs, _, _, _⟩⟩ => decide (i = (0 : Int)) && decide (nl = (List.length l : Int)))
  fun ⟨⟨_, now, r0, l, nl, i, _⟩, ⟨⟨⟨_, c1, c2, c3, c4, _, _, _⟩, _⟩, _, ⟨f, ⟨b, n, _, _, _, _, _, _, z, _, _⟩, _⟩, rs, _, _, _⟩⟩ =>
    [((firstFrom (lateAt now l) 0 (List.length l)).isSome, .ret, sn2ASt c1 c2 c3 c4 now (l.getD ((firstFrom (lateAt now l) 0 (List.length l)).getD 0) segTy.zero).1 l f b n z rs ((firstFrom (lateAt now l) 0 (List.length l)).getD 0)), (true, .exit 0, sn2ASt c1 c2 c3 c4 now r0 l f b n z rs (List.length l))]
theorem sn2A_lok : LoopOK P0 H.since2 6 L.state_State_since_2 sn2ALC :=
  loop_ok_of (env_ok consY0_ok) glob0 mixed0 (loops_good (tab := [(6, sn6ALC)]) (by kernel_rfl) (fun x hx => by simp at hx; subst hx; exact sn6A_lok)) V.state_State_since_2 (by decide) fun ⟨⟨_, now, r0, l, nl, i, _⟩, ⟨⟨⟨_, c1, c2, c3, c4, _, _, _⟩, _⟩, _, ⟨f, ⟨b, n, _, _, _, _, _, _, z, _, _⟩, _⟩, rs, _, _, _⟩⟩ h hw => by
    simp only [Bool.and_eq_true, decide_eq_true_eq] at h
    obtain ⟨rfl, rfl⟩ := h
    have hl : List.length l ≤ maxL := hw.1.2.2.2.1.1
    unfold maxL at hl
    refine ⟨_, Eq.trans (search_rounds (S := sn2ASt c1 c2 c3 c4 now r0 l f b n z rs) (T := fun i => sn2ASt c1 c2 c3 c4 now (l.getD i segTy.zero).1 l f b n z rs i) (p := lateAt now l) (n := List.length l) (e1 := .ret) (e2 := .exit 0) (s2 := sn2ASt c1 c2 c3 c4 now r0 l f b n z rs (List.length l)) (by simp) (by simp) (fun i hi K => ?_) (fun K => ?_) _ (List.length l) 0 (by omega)) search_pick⟩
    · refine (sn2A_rd _ _ _ _ _ _ _ _ _ _ _ _ _ _).trans ?_
      have e1 : IntKind.i64.wrap ((i : Int) + 1) = ((i + 1 : Nat) : Int) := by rw [wrap64 (by omega) (by omega)]; omega
      have e : ∀ (a c : Bool), (bif a then some c else some false) = some (a && c) := fun a c => by cases a <;> rfl
      rw [cond_pos (by omega), cond_pos2 (by omega) (by omega), Int.toNat_natCast, e, Option.bind_some, e1, lateQ_end]
      simp only [decide_true, Bool.and_self, cond_true]
      rfl
    · refine (sn2A_rd _ _ _ _ _ _ _ _ _ _ _ _ _ _).trans ?_
      rw [cond_neg (by omega)]
      rfl
theorem sinceA_ev (c1 c2 c3 c4 : Int) (now : Int) (f : List Seg) (b n z : Int) (rs : List Rec) : evFn (env consY0) H.since2 (LPof [(2, sn2ALC), (6, sn6ALC)]) F.state_State_since [.ptr 0 (.tl 0) 0, .int .i64 now] [boxO c1 c2 c3 c4, .arr 1 .bool [] [[.hw 2]], .arr 10 segT f [actT b n z], .log recT rs, .arr 1 .bool [] [[.nils]], .arr 1 .bool [] [[.nils]]] (finV (.int .i64) stAP 6) = bif smallL f && decide (rs.length ≤ 1000000000) then bif decide ((↑(segsL (f, b, n, z, rs)).length : Int) = (↑(segsL (f, b, n, z, rs)).length : Int)) && (firstFrom (lateAt now (segsL (f, b, n, z, rs))) 0 (segsL (f, b, n, z, rs)).length).isSome then some (((segsL (f, b, n, z, rs)).getD ((firstFrom (lateAt now (segsL (f, b, n, z, rs))) 0 (segsL (f, b, n, z, rs)).length).getD 0) segTy.zero).fst, (((), c1, c2, c3, c4, (), (), ()), ()), (((), ()), ()), (f, (b, n, (), (), (), (), (), (), z, (), ()), ()), rs, (((), ()), ()), (((), ()), ()), ()) else bif decide ((↑(segsL (f, b, n, z, rs)).length : Int) = (↑(segsL (f, b, n, z, rs)).length : Int)) && true then bif decide (f.length ≤ 1000000000) then some (n, (((), c1, c2, c3, c4, (), (), ()), ()), (((), ()), ()), (f, (b, n, (), (), (), (), (), (), z, (), ()), ()), rs, (((), ()), ()), (((), ()), ()), ()) else none else none else none := by kernel_rfl

def caseSinceA : VCase := ⟨[.lit (.ptr 0 (.tl 0) 0), .int .i64], stAP, .int .i64, stAP, fun ⟨_, now, _⟩ ⟨⟨⟨_, c1, c2, c3, c4, _, _, _⟩, _⟩, _, ⟨f, ⟨b, n, _, _, _, _, _, _, z, _, _⟩, _⟩, rs, _, _, _⟩ =>
  [(smallL f && decide (List.length rs ≤ 1000000000), ((lateB now (f, b, n, z, rs)).getD n, ((((), c1, c2, c3, c4, (), (), ()), ()), (((), ()), ()), (f, (b, n, (), (), (), (), (), (), z, (), ()), ()), rs, (((), ()), ()), (((), ()), ()), ())))]⟩
theorem sinceA_ok : caseSinceA.e.ok P0 I.state_State_since := vcase_ok (c := caseSinceA) (H := H.since2) (E := env consY0) (env_ok consY0_ok) glob0 mixed0 G.state_State_since Bd.state_State_since (by kernel_rfl) (loops_good (tab := [(2, sn2ALC), (6, sn6ALC)]) (by kernel_rfl) (fun x hx => by simp at hx; rcases hx with rfl | rfl; exact sn2A_lok; exact sn6A_lok)) fun ⟨_, now, _⟩ ⟨⟨⟨_, c1, c2, c3, c4, _, _, _⟩, _⟩, _, ⟨f, ⟨b, n, _, _, _, _, _, _, z, _, _⟩, _⟩, rs, _, _, _⟩ r h hw1 hw2 => by
  obtain ⟨hc, rfl⟩ := pick_pre h
  refine (sinceA_ev c1 c2 c3 c4 now f b n z rs).trans ?_
  have hs := since_eq now (f, b, n, z, rs) n
  have hc : (smallL f && decide (List.length rs ≤ 1000000000)) = true := hc
  have hf : decide (List.length f ≤ 1000000000) = true := by
    simp only [Bool.and_eq_true] at hc
    have := hc.1
    unfold smallL at this
    simp only [Bool.and_eq_true] at this
    exact this.1
  rw [hc, hf, ← hs]
  simp only [decide_true, Bool.true_and, cond_true]
  show (bif (firstFrom (lateAt now (segsL (f, b, n, z, rs))) 0 (segsL (f, b, n, z, rs)).length).isSome then _ else _) = _
  have e : (fun k => lateG now ((segsL (f, b, n, z, rs)).getD k segTy.zero)) = lateAt now (segsL (f, b, n, z, rs)) := rfl
  rw [e]
  cases firstFrom (lateAt now (segsL (f, b, n, z, rs))) 0 (segsL (f, b, n, z, rs)).length <;> rfl

abbrev stBP : List OPat := [boxP, .box 1 [[.lit (.hw 2)]], .arr 10 segT [actTP], .log recT, .box 1 [[.lit .nils]], .box 1 [[.lit (.hw 6)]], .arr 3 XD.rowT []]
theorem sn6B_rd {R : Type} (c1 c2 c3 c4 : Int) (now i m k r0 : Int) (q : Bool) (l : List Seg) (xs : List Rec) (g : Seg) (f : List Seg) (b n z : Int) (rs : List Rec) (ps : List Row3) (K : Ex → St → Option R) : roundK (env consY0) H.since2 7 (LPof []) VS6 L.state_State_since_6 ⟨[(0, .ptr 0 (.tl 0) 0), (1, .int .i64 now), (4, .int .i64 r0), (6, .ptr 7 (.tl 0) 0), (7, .bool q), (14, .vl segT l), (15, .int .i64 l.length), (16, .int .i64 i), (29, .vl recT xs), (30, .int .i64 m), (31, .int .i64 k)], [(0, boxO c1 c2 c3 c4), (1, .arr 1 .bool [] [[.hw 2]]), (2, .arr 10 segT f [actT b n z]), (3, .log recT rs), (4, .arr 1 .bool [] [[.nils]]), (5, .arr 1 .bool [] [[.hw 6]]), (6, .arr 3 XD.rowT ps []), (7, segBO g)], 8⟩ K = bif decide (k < m) then bif decide ((0 : Int) ≤ k) && decide (k < (↑xs.length : Int)) then Option.bind (bif q then some true else bif !g.snd.snd.snd.snd.snd.fst then some (decide ((xs.getD k.toNat recTy.zero).snd.fst ≥ now)) else some false) fun v => K Ex.normal { slots := [(0, AV.ptr 0 (Elt.tl 0) 0), (1, AV.int IntKind.i64 now), (4, AV.int IntKind.i64 r0), (6, AV.ptr 7 (Elt.tl 0) 0), (7, AV.bool v), (14, AV.vl segTy l), (15, AV.int IntKind.i64 (↑l.length : Int)), (16, AV.int IntKind.i64 i), (29, AV.vl recTy xs), (30, AV.int IntKind.i64 m), (31, AV.int IntKind.i64 (IntKind.i64.wrap (k + (1 : Int))))], objs := [(0, AObj.arr 7 Ty.bool [] [[AV.ptr 1 (Elt.tl 0) 0, AV.int IntKind.i64 c1, AV.int IntKind.i64 c2, AV.int IntKind.i64 c3, AV.int IntKind.i64 c4, AV.ptr 4 (Elt.tl 0) 0, AV.ptr 5 (Elt.tl 0) 0]]), (1, AObj.arr 1 Ty.bool [] [[AV.hw 2]]), (2, AObj.arr 10 segTy f [[AV.int IntKind.i64 b, AV.int IntKind.i64 n, AV.int IntKind.i64 (0 : Int), AV.int IntKind.i64 (0 : Int), AV.hw 3, AV.bool false, AV.bool false, AV.bool false, AV.int IntKind.i64 z, AV.int IntKind.u32 (0 : Int)]]), (3, AObj.log recTy rs), (4, AObj.arr 1 Ty.bool [] [[AV.nils]]), (5, AObj.arr 1 Ty.bool [] [[AV.hw 6]]), (6, AObj.arr 3 ((Ty.int IntKind.i64).pair ((Ty.int IntKind.i64).pair (Ty.int IntKind.i64))) ps []), (7, AObj.arr 10 Ty.bool [] [[AV.int IntKind.i64 g.fst, AV.int IntKind.i64 g.snd.fst, AV.int IntKind.i64 g.snd.snd.fst, AV.int IntKind.i64 g.snd.snd.snd.fst, AV.vl recTy g.snd.snd.snd.snd.fst, AV.bool g.snd.snd.snd.snd.snd.fst, AV.bool g.snd.snd.snd.snd.snd.snd.fst, AV.bool g.snd.snd.snd.snd.snd.snd.snd.fst, AV.int IntKind.i64 g.snd.snd.snd.snd.snd.snd.snd.snd.fst, AV.int IntKind.u32 g.snd.snd.snd.snd.snd.snd.snd.snd.snd]])], nx := 8 } else none else K (Ex.exit 2) { slots := [(0, AV.ptr 0 (Elt.tl 0) 0), (1, AV.int IntKind.i64 now), (4, AV.int IntKind.i64 r0), (6, AV.ptr 7 (Elt.tl 0) 0), (7, AV.bool q), (14, AV.vl segTy l), (15, AV.int IntKind.i64 (↑l.length : Int)), (16, AV.int IntKind.i64 i), (29, AV.vl recTy xs), (30, AV.int IntKind.i64 m), (31, AV.int IntKind.i64 k)], objs := [(0, AObj.arr 7 Ty.bool [] [[AV.ptr 1 (Elt.tl 0) 0, AV.int IntKind.i64 c1, AV.int IntKind.i64 c2, AV.int IntKind.i64 c3, AV.int IntKind.i64 c4, AV.ptr 4 (Elt.tl 0) 0, AV.ptr 5 (Elt.tl 0) 0]]), (1, AObj.arr 1 Ty.bool [] [[AV.hw 2]]), (2, AObj.arr 10 segTy f [[AV.int IntKind.i64 b, AV.int IntKind.i64 n, AV.int IntKind.i64 (0 : Int), AV.int IntKind.i64 (0 : Int), AV.hw 3, AV.bool false, AV.bool false, AV.bool false, AV.int IntKind.i64 z, AV.int IntKind.u32 (0 : Int)]]), (3, AObj.log recTy rs), (4, AObj.arr 1 Ty.bool [] [[AV.nils]]), (5, AObj.arr 1 Ty.bool [] [[AV.hw 6]]), (6, AObj.arr 3 ((Ty.int IntKind.i64).pair ((Ty.int IntKind.i64).pair (Ty.int IntKind.i64))) ps []), (7, AObj.arr 10 Ty.bool [] [[AV.int IntKind.i64 g.fst, AV.int IntKind.i64 g.snd.fst, AV.int IntKind.i64 g.snd.snd.fst, AV.int IntKind.i64 g.snd.snd.snd.fst, AV.vl recTy g.snd.snd.snd.snd.fst, AV.bool g.snd.snd.snd.snd.snd.fst, AV.bool g.snd.snd.snd.snd.snd.snd.fst, AV.bool g.snd.snd.snd.snd.snd.snd.snd.fst, AV.int IntKind.i64 g.snd.snd.snd.snd.snd.snd.snd.snd.fst, AV.int IntKind.u32 g.snd.snd.snd.snd.snd.snd.snd.snd.snd]])], nx := 8 } := by kernel_rfl

def sn6BSt (c1 c2 c3 c4 : Int) (now i r0 : Int) (q : Bool) (l : List Seg) (xs : List Rec) (g : Seg) (f : List Seg) (b n z : Int) (rs : List Rec) (ps : List Row3) (k : Nat) : St := ⟨[(0, .ptr 0 (.tl 0) 0), (1, .int .i64 now), (4, .int .i64 r0), (6, .ptr 7 (.tl 0) 0), (7, .bool (lateQ now g.2.2.2.2.2.1 xs q k)), (14, .vl segT l), (15, .int .i64 l.length), (16, .int .i64 i), (29, .vl recT xs), (30, .int .i64 xs.length), (31, .int .i64 k)], [(0, boxO c1 c2 c3 c4), (1, .arr 1 .bool [] [[.hw 2]]), (2, .arr 10 segT f [actT b n z]), (3, .log recT rs), (4, .arr 1 .bool [] [[.nils]]), (5, .arr 1 .bool [] [[.hw 6]]), (6, .arr 3 XD.rowT ps []), (7, segBO g)], 8⟩
theorem sn6B_rounds {R : Type} (c1 c2 c3 c4 : Int) (now i r0 : Int) (q : Bool) (l : List Seg) (xs : List Rec) (hx : xs.length ≤ maxL) (g : Seg) (f : List Seg) (b n z : Int) (rs : List Rec) (ps : List Row3) (K : Ex → St → Option R) : ∀ (m k : Nat), k + m = xs.length →
    rounds (env consY0) H.since2 7 (LPof []) VS6 L.state_State_since_6 (m + 1) (sn6BSt c1 c2 c3 c4 now i r0 q l xs g f b n z rs ps k) K = K (.exit 2) (sn6BSt c1 c2 c3 c4 now i r0 q l xs g f b n z rs ps xs.length)
  | 0, k, h => by
    obtain rfl : k = xs.length := by omega
    rw [rounds_succ']
    refine (sn6B_rd _ _ _ _ _ _ _ _ _ _ _ _ _ _ _ _ _ _ _ _).trans ?_
    rw [cond_neg (by omega)]
    rfl
  | m + 1, k, h => by
    have ih := sn6B_rounds c1 c2 c3 c4 now i r0 q l xs hx g f b n z rs ps K m (k + 1) (by omega)
    unfold maxL at hx
    have e1 : IntKind.i64.wrap ((k : Int) + 1) = ((k + 1 : Nat) : Int) := by rw [wrap64 (by omega) (by omega)]; omega
    rw [rounds_succ']
    refine (sn6B_rd _ _ _ _ _ _ _ _ _ _ _ _ _ _ _ _ _ _ _ _).trans ?_
    rw [cond_pos (by omega), cond_pos2 (by omega) (by omega), Int.toNat_natCast, e1]
    have e : ∀ (a b c : Bool), (bif a then some true else bif b then some c else some false) = some (a || (b && c)) := fun a b c => by cases a <;> cases b <;> rfl
    rw [e, Option.bind_some]
    exact ih
abbrev sn6BLC : LoopC := LoopC.of ⟨[(0, .lit (.ptr 0 (.tl 0) 0)), (1, .int .i64), (4, .int .i64), (6, .lit (.ptr 7 (.tl 0) 0)), (7, .bool), (14, .vl segT), (15, .int .i64), (16, .int .i64), (29, .vl recT), (30, .int .i64), (31, .int .i64)], [boxP, .box 1 [[.lit (.hw 2)]], .arr 10 segT [actTP], .log recT, .box 1 [[.lit .nils]], .box 1 [[.lit (.hw 6)]], .arr 3 XD.rowT [], segBP]⟩
  (fun ⟨⟨_, now, r0, _, q, l, nl, i, xs, m, k, _⟩, ⟨⟨⟨_, c1, c2, c3, c4, _, _, _⟩, _⟩, _, ⟨f, ⟨b, n, _, _, _, _, _, _, z, _, _⟩, _⟩, rs, _, _, ⟨ps, _⟩, ⟨⟨g1, g2, g3, g4, g5, g6, g7, g8, g9, g10, _⟩, _⟩, _⟩⟩ => decide (k = (0 : Int)) && decide (m = (List.length xs : Int)) && decide (nl = (List.length l : Int)))
  fun ⟨⟨_, now, r0, _, q, l, nl, i, xs, m, k, _⟩, ⟨⟨⟨_, c1, c2, c3, c4, _, _, _⟩, _⟩, _, ⟨f, ⟨b, n, _, _, _, _, _, _, z, _, _⟩, _⟩, rs, _, _, ⟨ps, _⟩, ⟨⟨g1, g2, g3, g4, g5, g6, g7, g8, g9, g10, _⟩, _⟩, _⟩⟩ => [(true, .exit 2, sn6BSt c1 c2 c3 c4 now i r0 q l xs (g1, g2, g3, g4, g5, g6, g7, g8, g9, g10) f b n z rs ps (List.length xs))]
theorem sn6B_lok : LoopOK P0 H.since2 7 L.state_State_since_6 sn6BLC :=
  loop_ok_of (env_ok consY0_ok) glob0 mixed0 noLoops VS6 (by decide) fun ⟨⟨_, now, r0, _, q, l, nl, i, xs, m, k, _⟩, ⟨⟨⟨_, c1, c2, c3, c4, _, _, _⟩, _⟩, _, ⟨f, ⟨b, n, _, _, _, _, _, _, z, _, _⟩, _⟩, rs, _, _, ⟨ps, _⟩, ⟨⟨g1, g2, g3, g4, g5, g6, g7, g8, g9, g10, _⟩, _⟩, _⟩⟩ h hw => by
    simp only [Bool.and_eq_true, decide_eq_true_eq] at h
    obtain ⟨⟨rfl, rfl⟩, rfl⟩ := h
    exact ⟨_, sn6B_rounds c1 c2 c3 c4 now i r0 q l xs hw.1.2.2.2.2.2.2.2.2.1.1 (g1, g2, g3, g4, g5, g6, g7, g8, g9, g10) f b n z rs ps _ xs.length 0 (Nat.zero_add _)⟩
theorem sn2B_rd {R : Type} (c1 c2 c3 c4 : Int) (now i r0 : Int) (l : List Seg) (f : List Seg) (b n z : Int) (rs : List Rec) (ps : List Row3) (K : Ex → St → Option R) : roundK (env consY0) H.since2 7 (LPof [(6, sn6BLC)]) V.state_State_since_2 L.state_State_since_2 ⟨[(0, .ptr 0 (.tl 0) 0), (1, .int .i64 now), (4, .int .i64 r0), (14, .vl segT l), (15, .int .i64 l.length), (16, .int .i64 i)], [(0, boxO c1 c2 c3 c4), (1, .arr 1 .bool [] [[.hw 2]]), (2, .arr 10 segT f [actT b n z]), (3, .log recT rs), (4, .arr 1 .bool [] [[.nils]]), (5, .arr 1 .bool [] [[.hw 6]]), (6, .arr 3 XD.rowT ps [])], 7⟩ K = bif decide (i < (↑l.length : Int)) then bif decide ((0 : Int) ≤ i) && decide (i < (↑l.length : Int)) then Option.bind (bif (l.getD i.toNat segTy.zero).snd.snd.snd.snd.snd.fst then some (decide ((l.getD i.toNat segTy.zero).snd.snd.fst ≥ now)) else some false) fun v => bif decide ((↑(List.length (l.getD i.toNat segTy.zero).snd.snd.snd.snd.fst) : Int) = (↑(List.length (l.getD i.toNat segTy.zero).snd.snd.snd.snd.fst) : Int)) && decide ((↑l.length : Int) = (↑l.length : Int)) && true then bif lateQ now (l.getD i.toNat segTy.zero).snd.snd.snd.snd.snd.fst (l.getD i.toNat segTy.zero).snd.snd.snd.snd.fst v (List.length (l.getD i.toNat segTy.zero).snd.snd.snd.snd.fst) then K Ex.ret { slots := [(0, AV.ptr 0 (Elt.tl 0) 0), (1, AV.int IntKind.i64 now), (4, AV.int IntKind.i64 (l.getD i.toNat segTy.zero).fst), (14, AV.vl segTy l), (15, AV.int IntKind.i64 (↑l.length : Int)), (16, AV.int IntKind.i64 i)], objs := [(0, AObj.arr 7 Ty.bool [] [[AV.ptr 1 (Elt.tl 0) 0, AV.int IntKind.i64 c1, AV.int IntKind.i64 c2, AV.int IntKind.i64 c3, AV.int IntKind.i64 c4, AV.ptr 4 (Elt.tl 0) 0, AV.ptr 5 (Elt.tl 0) 0]]), (1, AObj.arr 1 Ty.bool [] [[AV.hw 2]]), (2, AObj.arr 10 segTy f [[AV.int IntKind.i64 b, AV.int IntKind.i64 n, AV.int IntKind.i64 (0 : Int), AV.int IntKind.i64 (0 : Int), AV.hw 3, AV.bool false, AV.bool false, AV.bool false, AV.int IntKind.i64 z, AV.int IntKind.u32 (0 : Int)]]), (3, AObj.log recTy rs), (4, AObj.arr 1 Ty.bool [] [[AV.nils]]), (5, AObj.arr 1 Ty.bool [] [[AV.hw 6]]), (6, AObj.arr 3 ((Ty.int IntKind.i64).pair ((Ty.int IntKind.i64).pair (Ty.int IntKind.i64))) ps [])], nx := 7 } else K Ex.normal { slots := [(0, AV.ptr 0 (Elt.tl 0) 0), (1, AV.int IntKind.i64 now), (4, AV.int IntKind.i64 r0), (14, AV.vl segTy l), (15, AV.int IntKind.i64 (↑l.length : Int)), (16, AV.int IntKind.i64 (IntKind.i64.wrap (i + (1 : Int))))], objs := [(0, AObj.arr 7 Ty.bool [] [[AV.ptr 1 (Elt.tl 0) 0, AV.int IntKind.i64 c1, AV.int IntKind.i64 c2, AV.int IntKind.i64 c3, AV.int IntKind.i64 c4, AV.ptr 4 (Elt.tl 0) 0, AV.ptr 5 (Elt.tl 0) 0]]), (1, AObj.arr 1 Ty.bool [] [[AV.hw 2]]), (2, AObj.arr 10 segTy f [[AV.int IntKind.i64 b, AV.int IntKind.i64 n, AV.int IntKind.i64 (0 : Int), AV.int IntKind.i64 (0 : Int), AV.hw 3, AV.bool false, AV.bool false, AV.bool false, AV.int IntKind.i64 z, AV.int IntKind.u32 (0 : Int)]]), (3, AObj.log recTy rs), (4, AObj.arr 1 Ty.bool [] [[AV.nils]]), (5, AObj.arr 1 Ty.bool [] [[AV.hw 6]]), (6, AObj.arr 3 ((Ty.int IntKind.i64).pair ((Ty.int IntKind.i64).pair (Ty.int IntKind.i64))) ps [])], nx := 7 } else none else none else K (Ex.exit 0) { slots := [(0, AV.ptr 0 (Elt.tl 0) 0), (1, AV.int IntKind.i64 now), (4, AV.int IntKind.i64 r0), (14, AV.vl segTy l), (15, AV.int IntKind.i64 (↑l.length : Int)), (16, AV.int IntKind.i64 i)], objs := [(0, AObj.arr 7 Ty.bool [] [[AV.ptr 1 (Elt.tl 0) 0, AV.int IntKind.i64 c1, AV.int IntKind.i64 c2, AV.int IntKind.i64 c3, AV.int IntKind.i64 c4, AV.ptr 4 (Elt.tl 0) 0, AV.ptr 5 (Elt.tl 0) 0]]), (1, AObj.arr 1 Ty.bool [] [[AV.hw 2]]), (2, AObj.arr 10 segTy f [[AV.int IntKind.i64 b, AV.int IntKind.i64 n, AV.int IntKind.i64 (0 : Int), AV.int IntKind.i64 (0 : Int), AV.hw 3, AV.bool false, AV.bool false, AV.bool false, AV.int IntKind.i64 z, AV.int IntKind.u32 (0 : Int)]]), (3, AObj.log recTy rs), (4, AObj.arr 1 Ty.bool [] [[AV.nils]]), (5, AObj.arr 1 Ty.bool [] [[AV.hw 6]]), (6, AObj.arr 3 ((Ty.int IntKind.i64).pair ((Ty.int IntKind.i64).pair (Ty.int IntKind.i64))) ps [])], nx := 7 } := by kernel_rfl
def sn2BSt (c1 c2 c3 c4 : Int) (now r0 : Int) (l : List Seg) (f : List Seg) (b n z : Int) (rs : List Rec) (ps : List Row3) (i : Nat) : St := ⟨[(0, .ptr 0 (.tl 0) 0), (1, .int .i64 now), (4, .int .i64 r0), (14, .vl segT l), (15, .int .i64 l.length), (16, .int .i64 i)], [(0, boxO c1 c2 c3 c4), (1, .arr 1 .bool [] [[.hw 2]]), (2, .arr 10 segT f [actT b n z]), (3, .log recT rs), (4, .arr 1 .bool [] [[.nils]]), (5, .arr 1 .bool [] [[.hw 6]]), (6, .arr 3 XD.rowT ps [])], 7⟩
abbrev sn2BLC : LoopC := LoopC.of ⟨[(0, .lit (.ptr 0 (.tl 0) 0)), (1, .int .i64), (4, .int .i64), (14, .vl segT), (15, .int .i64), (16, .int .i64)], stBP⟩
  (fun ⟨⟨_, now, r0, l, nl, i, _⟩, ⟨⟨⟨_, c1, c2, c3, c4, _, _, _⟩, _⟩, _, ⟨f, ⟨b, n, _, _, _, _, _, _, z, _, _⟩, _⟩, rs, _, _, ⟨ps, _⟩, _⟩⟩ => decide (i = (0 : Int)) && decide (nl = (List.length l : Int)))
  fun ⟨⟨_, now, r0, l, nl, i, _⟩, ⟨⟨⟨_, c1, c2, c3, c4, _, _, _⟩, _⟩, _, ⟨f, ⟨b, n, _, _, _, _, _, _, z, _, _⟩, _⟩, rs, _, _, ⟨ps, _⟩, _⟩⟩ =>
    [((firstFrom (lateAt now l) 0 (List.length l)).isSome, .ret, sn2BSt c1 c2 c3 c4 now (l.getD ((firstFrom (lateAt now l) 0 (List.length l)).getD 0) segTy.zero).1 l f b n z rs ps ((firstFrom (lateAt now l) 0 (List.length l)).getD 0)), (true, .exit 0, sn2BSt c1 c2 c3 c4 now r0 l f b n z rs ps (List.length l))]
theorem sn2B_lok : LoopOK P0 H.since2 7 L.state_State_since_2 sn2BLC :=
  loop_ok_of (env_ok consY0_ok) glob0 mixed0 (loops_good (tab := [(6, sn6BLC)]) (by kernel_rfl) (fun x hx => by simp at hx; subst hx; exact sn6B_lok)) V.state_State_since_2 (by decide) fun ⟨⟨_, now, r0, l, nl, i, _⟩, ⟨⟨⟨_, c1, c2, c3, c4, _, _, _⟩, _⟩, _, ⟨f, ⟨b, n, _, _, _, _, _, _, z, _, _⟩, _⟩, rs, _, _, ⟨ps, _⟩, _⟩⟩ h hw => by
    simp only [Bool.and_eq_true, decide_eq_true_eq] at h
    obtain ⟨rfl, rfl⟩ := h
    have hl : List.length l ≤ maxL := hw.1.2.2.2.1.1
    unfold maxL at hl
    refine ⟨_, Eq.trans (search_rounds (S := sn2BSt c1 c2 c3 c4 now r0 l f b n z rs ps) (T := fun i => sn2BSt c1 c2 c3 c4 now (l.getD i segTy.zero).1 l f b n z rs ps i) (p := lateAt now l) (n := List.length l) (e1 := .ret) (e2 := .exit 0) (s2 := sn2BSt c1 c2 c3 c4 now r0 l f b n z rs ps (List.length l)) (by simp) (by simp) (fun i hi K => ?_) (fun K => ?_) _ (List.length l) 0 (by omega)) search_pick⟩
    · refine (sn2B_rd _ _ _ _ _ _ _ _ _ _ _ _ _ _ _).trans ?_
      have e1 : IntKind.i64.wrap ((i : Int) + 1) = ((i + 1 : Nat) : Int) := by rw [wrap64 (by omega) (by omega)]; omega
      have e : ∀ (a c : Bool), (bif a then some c else some false) = some (a && c) := fun a c => by cases a <;> rfl
      rw [cond_pos (by omega), cond_pos2 (by omega) (by omega), Int.toNat_natCast, e, Option.bind_some, e1, lateQ_end]
      simp only [decide_true, Bool.and_self, cond_true]
      rfl
    · refine (sn2B_rd _ _ _ _ _ _ _ _ _ _ _ _ _ _ _).trans ?_
      rw [cond_neg (by omega)]
      rfl
theorem sinceB_ev (c1 c2 c3 c4 : Int) (now : Int) (f : List Seg) (b n z : Int) (rs : List Rec) (ps : List Row3) : evFn (env consY0) H.since2 (LPof [(2, sn2BLC), (6, sn6BLC)]) F.state_State_since [.ptr 0 (.tl 0) 0, .int .i64 now] [boxO c1 c2 c3 c4, .arr 1 .bool [] [[.hw 2]], .arr 10 segT f [actT b n z], .log recT rs, .arr 1 .bool [] [[.nils]], .arr 1 .bool [] [[.hw 6]], .arr 3 XD.rowT ps []] (finV (.int .i64) stBP 7) = bif smallL f && decide (rs.length ≤ 1000000000) then bif decide ((↑(segsL (f, b, n, z, rs)).length : Int) = (↑(segsL (f, b, n, z, rs)).length : Int)) && (firstFrom (lateAt now (segsL (f, b, n, z, rs))) 0 (segsL (f, b, n, z, rs)).length).isSome then some (((segsL (f, b, n, z, rs)).getD ((firstFrom (lateAt now (segsL (f, b, n, z, rs))) 0 (segsL (f, b, n, z, rs)).length).getD 0) segTy.zero).fst, (((), c1, c2, c3, c4, (), (), ()), ()), (((), ()), ()), (f, (b, n, (), (), (), (), (), (), z, (), ()), ()), rs, (((), ()), ()), (((), ()), ()), (ps, ()), ()) else bif decide ((↑(segsL (f, b, n, z, rs)).length : Int) = (↑(segsL (f, b, n, z, rs)).length : Int)) && true then bif decide (f.length ≤ 1000000000) then some (n, (((), c1, c2, c3, c4, (), (), ()), ()), (((), ()), ()), (f, (b, n, (), (), (), (), (), (), z, (), ()), ()), rs, (((), ()), ()), (((), ()), ()), (ps, ()), ()) else none else none else none := by kernel_rfl

def caseSinceB : VCase := ⟨[.lit (.ptr 0 (.tl 0) 0), .int .i64], stBP, .int .i64, stBP, fun ⟨_, now, _⟩ ⟨⟨⟨_, c1, c2, c3, c4, _, _, _⟩, _⟩, _, ⟨f, ⟨b, n, _, _, _, _, _, _, z, _, _⟩, _⟩, rs, _, _, ⟨ps, _⟩, _⟩ =>
  [(smallL f && decide (List.length rs ≤ 1000000000), ((lateB now (f, b, n, z, rs)).getD n, ((((), c1, c2, c3, c4, (), (), ()), ()), (((), ()), ()), (f, (b, n, (), (), (), (), (), (), z, (), ()), ()), rs, (((), ()), ()), (((), ()), ()), (ps, ()), ())))]⟩
theorem sinceB_ok : caseSinceB.e.ok P0 I.state_State_since := vcase_ok (c := caseSinceB) (H := H.since2) (E := env consY0) (env_ok consY0_ok) glob0 mixed0 G.state_State_since Bd.state_State_since (by kernel_rfl) (loops_good (tab := [(2, sn2BLC), (6, sn6BLC)]) (by kernel_rfl) (fun x hx => by simp at hx; rcases hx with rfl | rfl; exact sn2B_lok; exact sn6B_lok)) fun ⟨_, now, _⟩ ⟨⟨⟨_, c1, c2, c3, c4, _, _, _⟩, _⟩, _, ⟨f, ⟨b, n, _, _, _, _, _, _, z, _, _⟩, _⟩, rs, _, _, ⟨ps, _⟩, _⟩ r h hw1 hw2 => by
  obtain ⟨hc, rfl⟩ := pick_pre h
  refine (sinceB_ev c1 c2 c3 c4 now f b n z rs ps).trans ?_
  have hs := since_eq now (f, b, n, z, rs) n
  have hc : (smallL f && decide (List.length rs ≤ 1000000000)) = true := hc
  have hf : decide (List.length f ≤ 1000000000) = true := by
    simp only [Bool.and_eq_true] at hc
    have := hc.1
    unfold smallL at this
    simp only [Bool.and_eq_true] at this
    exact this.1
  rw [hc, hf, ← hs]
  simp only [decide_true, Bool.true_and, cond_true]
  show (bif (firstFrom (lateAt now (segsL (f, b, n, z, rs))) 0 (segsL (f, b, n, z, rs)).length).isSome then _ else _) = _
  have e : (fun k => lateG now ((segsL (f, b, n, z, rs)).getD k segTy.zero)) = lateAt now (segsL (f, b, n, z, rs)) := rfl
  rw [e]
  cases firstFrom (lateAt now (segsL (f, b, n, z, rs))) 0 (segsL (f, b, n, z, rs)).length <;> rfl


end Go.Sim
namespace Go.Sim
set_option linter.unusedSimpArgs false
set_option linter.unusedVariables false
set_option maxRecDepth 10000
open Go.Sim.XU
noncomputable abbrev consX2 : List (FuncId × Con) := [(I.state_typed, inl (env []) H.state_typed F.state_typed (fun R k0 => loopsF (env []) H.state_typed k0 B.state_typed 1)), (I.state_State_produce, inl (env consQ1) H.state_State_produce F.state_State_produce (fun R k0 => loopsF (env consQ1) H.state_State_produce k0 B.state_State_produce 1)), (I.state_State_tidy, inl (env consQ1) H.state_State_tidy F.state_State_tidy (fun R k0 => loopsF (env consQ1) H.state_State_tidy k0 B.state_State_tidy 1)), (I.command_Right, .pure (pureOf [XS.caseCright])), (I.state_State_since, .eff (effOf [caseSinceA.e, caseSinceB.e]))] ++ consQ1
theorem consX2_ok : ∀ x ∈ consX2, HoldsC P0 x.1 x.2 := by
  intro x hx
  rcases List.mem_append.1 hx with hx | hx
  · simp at hx
    rcases hx with rfl | rfl | rfl | rfl | rfl
    · exact inl_ok (env_ok env_nil) glob0 mixed0 G.state_typed Bd.state_typed C.state_typed (fun R k0 => loopsF_good (env_ok env_nil) glob0 mixed0 (by kernel_rfl) 1)
    · exact inl_ok (env_ok consQ1_ok) glob0 mixed0 G.state_State_produce Bd.state_State_produce C.state_State_produce (fun R k0 => loopsF_good (env_ok consQ1_ok) glob0 mixed0 (by kernel_rfl) 1)
    · exact inl_ok (env_ok consQ1_ok) glob0 mixed0 G.state_State_tidy Bd.state_State_tidy C.state_State_tidy (fun R k0 => loopsF_good (env_ok consQ1_ok) glob0 mixed0 (by kernel_rfl) 1)
    · exact ⟨pureOf_holds (by simp; exact XS.cright_ok), C.command_Right⟩
    · exact ⟨fun args objs r objs2 h _ => effOf_holds (by simp; exact ⟨sinceA_ok, sinceB_ok⟩) args objs r objs2 h, C.state_State_since⟩
  · exact consQ1_ok x hx
def caseAlive16 : PCase := ⟨[], [.bool], fun _ => [(true, (true, ()))]⟩
theorem alive16_ok : caseAlive16.ok P0 I.cooperagelaw16_alive := case_ok2 (H := H.al16) (E := env consQ3) (env_ok consQ3_ok) glob0 mixed0 G.cooperagelaw16_alive Bd.cooperagelaw16_alive (by kernel_rfl) noLoops fun x y h hw => by
  obtain ⟨hc, rfl⟩ := pick_pre h
  exact alive16_ev
noncomputable abbrev consX3 : List (FuncId × Con) := [(I.cooperagelaw16_alive, .pure (pureOf [caseAlive16])), (I.cooperagelaw16_num, .pure (pureOf [caseNum16])), (I.state_New, inl (env consQ1) H.state_New F.state_New (fun R k0 => loopsF (env consQ1) H.state_New k0 B.state_New 1)), (I.state_State_Apply, inl (env consX2) H.state_State_Apply F.state_State_Apply (fun R k0 => loopsF (env consX2) H.state_State_Apply k0 B.state_State_Apply 1))] ++ consQ1
theorem consX3_ok : ∀ x ∈ consX3, HoldsC P0 x.1 x.2 := by
  intro x hx
  rcases List.mem_append.1 hx with hx | hx
  · simp at hx
    rcases hx with rfl | rfl | rfl | rfl
    · exact ⟨pureOf_holds (by simp; exact alive16_ok), C.cooperagelaw16_alive⟩
    · exact ⟨pureOf_holds (by simp; exact num16_ok), C.cooperagelaw16_num⟩
    · exact inl_ok (env_ok consQ1_ok) glob0 mixed0 G.state_New Bd.state_New C.state_New (fun R k0 => loopsF_good (env_ok consQ1_ok) glob0 mixed0 (by kernel_rfl) 1)
    · exact inl_ok (env_ok consX2_ok) glob0 mixed0 G.state_State_Apply Bd.state_State_Apply C.state_State_Apply (fun R k0 => loopsF_good (env_ok consX2_ok) glob0 mixed0 (by kernel_rfl) 1)
  · exact consQ1_ok x hx
def H.sin2 : Hint := { H.cooperagelaw16_StateSince with vs := [61], join := [(2, 37), (12, 73), (14, 85)] }
theorem sn8_rd {R : Type} (ts : List Int) (cf now wn i : Int) (q : Bool) (c1 c2 c3 c4 : Int) (f : List Seg) (b n z : Int) (rs : List Rec) (K : Ex → St → Option R) : roundK (env consX3) H.sin2 0 (LPof []) V.cooperagelaw16_StateSince_8 L.cooperagelaw16_StateSince_8 ⟨[(0, .vl (.int .i64) ts), (1, .int .i64 cf), (2, .int .i64 now), (6, .bool q), (8, .ptr 0 (.tl 0) 0), (9, .int .i64 wn), (10, .int .i64 i)], stAO c1 c2 c3 c4 f b n z rs, 6⟩ K = bif decide (i < (↑ts.length : Int)) then bif decide ((0 : Int) ≤ i) && decide (i < (↑ts.length : Int)) then bif !rightC ((1 : Int), (0 : Int), (0 : Int), [((0 : Int), IntKind.i64.wrap (↑(BitVec.ofInt 64 (ts.getD i.toNat (0 : Int)) &&& BitVec.ofInt 64 (1023 : Int)).toNat : Int), [(107 : UInt8)], [], false)], [], (0 : Int), (0 : Int), (0 : Int), (0 : Int), (0 : Int), (0 : Int), (0 : Int), (0 : Int)) then K Ex.ret { slots := [(0, AV.vl (Ty.int IntKind.i64) ts), (1, AV.int IntKind.i64 cf), (2, AV.int IntKind.i64 now), (6, AV.bool false), (8, AV.ptr 0 (Elt.tl 0) 0), (9, AV.int IntKind.i64 wn), (10, AV.int IntKind.i64 i)], objs := [(0, AObj.arr 7 Ty.bool [] [[AV.ptr 1 (Elt.tl 0) 0, AV.int IntKind.i64 c1, AV.int IntKind.i64 c2, AV.int IntKind.i64 c3, AV.int IntKind.i64 c4, AV.ptr 4 (Elt.tl 0) 0, AV.ptr 5 (Elt.tl 0) 0]]), (1, AObj.arr 1 Ty.bool [] [[AV.hw 2]]), (2, AObj.arr 10 segTy f [[AV.int IntKind.i64 b, AV.int IntKind.i64 n, AV.int IntKind.i64 (0 : Int), AV.int IntKind.i64 (0 : Int), AV.hw 3, AV.bool false, AV.bool false, AV.bool false, AV.int IntKind.i64 z, AV.int IntKind.u32 (0 : Int)]]), (3, AObj.log recTy rs), (4, AObj.arr 1 Ty.bool [] [[AV.nils]]), (5, AObj.arr 1 Ty.bool [] [[AV.nils]])], nx := 6 } else bif okB 500000000 (f, b, n, z, rs) then bif n != i then K Ex.ret { slots := [(0, AV.vl (Ty.int IntKind.i64) ts), (1, AV.int IntKind.i64 cf), (2, AV.int IntKind.i64 now), (6, AV.bool false), (8, AV.ptr 0 (Elt.tl 0) 0), (9, AV.int IntKind.i64 wn), (10, AV.int IntKind.i64 i)], objs := [(0, AObj.arr 7 Ty.bool [] [[AV.ptr 1 (Elt.tl 0) 0, AV.int IntKind.i64 c1, AV.int IntKind.i64 c2, AV.int IntKind.i64 c3, AV.int IntKind.i64 c4, AV.ptr 4 (Elt.tl 0) 0, AV.ptr 5 (Elt.tl 0) 0]]), (1, AObj.arr 1 Ty.bool [] [[AV.hw 2]]), (2, AObj.arr 10 segTy (apL c1 [((0 : Int), IntKind.i64.wrap (↑(BitVec.ofInt 64 (ts.getD i.toNat (0 : Int)) &&& BitVec.ofInt 64 (1023 : Int)).toNat : Int), [(107 : UInt8)], [], false)] (f, b, n, z, rs) 1).fst [[AV.int IntKind.i64 (apL c1 [((0 : Int), IntKind.i64.wrap (↑(BitVec.ofInt 64 (ts.getD i.toNat (0 : Int)) &&& BitVec.ofInt 64 (1023 : Int)).toNat : Int), [(107 : UInt8)], [], false)] (f, b, n, z, rs) 1).snd.fst, AV.int IntKind.i64 (apL c1 [((0 : Int), IntKind.i64.wrap (↑(BitVec.ofInt 64 (ts.getD i.toNat (0 : Int)) &&& BitVec.ofInt 64 (1023 : Int)).toNat : Int), [(107 : UInt8)], [], false)] (f, b, n, z, rs) 1).snd.snd.fst, AV.int IntKind.i64 (0 : Int), AV.int IntKind.i64 (0 : Int), AV.hw 3, AV.bool false, AV.bool false, AV.bool false, AV.int IntKind.i64 (apL c1 [((0 : Int), IntKind.i64.wrap (↑(BitVec.ofInt 64 (ts.getD i.toNat (0 : Int)) &&& BitVec.ofInt 64 (1023 : Int)).toNat : Int), [(107 : UInt8)], [], false)] (f, b, n, z, rs) 1).snd.snd.snd.fst, AV.int IntKind.u32 (0 : Int)]]), (3, AObj.log recTy (apL c1 [((0 : Int), IntKind.i64.wrap (↑(BitVec.ofInt 64 (ts.getD i.toNat (0 : Int)) &&& BitVec.ofInt 64 (1023 : Int)).toNat : Int), [(107 : UInt8)], [], false)] (f, b, n, z, rs) 1).snd.snd.snd.snd), (4, AObj.arr 1 Ty.bool [] [[AV.nils]]), (5, AObj.arr 1 Ty.bool [] [[AV.nils]])], nx := 6 } else Option.bind (bif decide (IntKind.i64.wrap (↑(BitVec.ofInt 64 (ts.getD i.toNat (0 : Int)) &&& BitVec.ofInt 64 (1023 : Int)).toNat : Int) ≥ now) then bif decide (cf = (0 : Int)) then none else some (decide (IntKind.i64.wrap (IntKind.i64.wrap (i.tdiv cf) * cf) < wn)) else some false) fun v => bif v then bif decide (cf = (0 : Int)) then none else K Ex.normal { slots := [(0, AV.vl (Ty.int IntKind.i64) ts), (1, AV.int IntKind.i64 cf), (2, AV.int IntKind.i64 now), (6, AV.bool q), (8, AV.ptr 0 (Elt.tl 0) 0), (9, AV.int IntKind.i64 (IntKind.i64.wrap (IntKind.i64.wrap (i.tdiv cf) * cf))), (10, AV.int IntKind.i64 (IntKind.i64.wrap (i + (1 : Int))))], objs := [(0, AObj.arr 7 Ty.bool [] [[AV.ptr 1 (Elt.tl 0) 0, AV.int IntKind.i64 c1, AV.int IntKind.i64 c2, AV.int IntKind.i64 c3, AV.int IntKind.i64 c4, AV.ptr 4 (Elt.tl 0) 0, AV.ptr 5 (Elt.tl 0) 0]]), (1, AObj.arr 1 Ty.bool [] [[AV.hw 2]]), (2, AObj.arr 10 segTy (apL c1 [((0 : Int), IntKind.i64.wrap (↑(BitVec.ofInt 64 (ts.getD i.toNat (0 : Int)) &&& BitVec.ofInt 64 (1023 : Int)).toNat : Int), [(107 : UInt8)], [], false)] (f, b, n, z, rs) 1).fst [[AV.int IntKind.i64 (apL c1 [((0 : Int), IntKind.i64.wrap (↑(BitVec.ofInt 64 (ts.getD i.toNat (0 : Int)) &&& BitVec.ofInt 64 (1023 : Int)).toNat : Int), [(107 : UInt8)], [], false)] (f, b, n, z, rs) 1).snd.fst, AV.int IntKind.i64 (apL c1 [((0 : Int), IntKind.i64.wrap (↑(BitVec.ofInt 64 (ts.getD i.toNat (0 : Int)) &&& BitVec.ofInt 64 (1023 : Int)).toNat : Int), [(107 : UInt8)], [], false)] (f, b, n, z, rs) 1).snd.snd.fst, AV.int IntKind.i64 (0 : Int), AV.int IntKind.i64 (0 : Int), AV.hw 3, AV.bool false, AV.bool false, AV.bool false, AV.int IntKind.i64 (apL c1 [((0 : Int), IntKind.i64.wrap (↑(BitVec.ofInt 64 (ts.getD i.toNat (0 : Int)) &&& BitVec.ofInt 64 (1023 : Int)).toNat : Int), [(107 : UInt8)], [], false)] (f, b, n, z, rs) 1).snd.snd.snd.fst, AV.int IntKind.u32 (0 : Int)]]), (3, AObj.log recTy (apL c1 [((0 : Int), IntKind.i64.wrap (↑(BitVec.ofInt 64 (ts.getD i.toNat (0 : Int)) &&& BitVec.ofInt 64 (1023 : Int)).toNat : Int), [(107 : UInt8)], [], false)] (f, b, n, z, rs) 1).snd.snd.snd.snd), (4, AObj.arr 1 Ty.bool [] [[AV.nils]]), (5, AObj.arr 1 Ty.bool [] [[AV.nils]])], nx := 6 } else K Ex.normal { slots := [(0, AV.vl (Ty.int IntKind.i64) ts), (1, AV.int IntKind.i64 cf), (2, AV.int IntKind.i64 now), (6, AV.bool q), (8, AV.ptr 0 (Elt.tl 0) 0), (9, AV.int IntKind.i64 wn), (10, AV.int IntKind.i64 (IntKind.i64.wrap (i + (1 : Int))))], objs := [(0, AObj.arr 7 Ty.bool [] [[AV.ptr 1 (Elt.tl 0) 0, AV.int IntKind.i64 c1, AV.int IntKind.i64 c2, AV.int IntKind.i64 c3, AV.int IntKind.i64 c4, AV.ptr 4 (Elt.tl 0) 0, AV.ptr 5 (Elt.tl 0) 0]]), (1, AObj.arr 1 Ty.bool [] [[AV.hw 2]]), (2, AObj.arr 10 segTy (apL c1 [((0 : Int), IntKind.i64.wrap (↑(BitVec.ofInt 64 (ts.getD i.toNat (0 : Int)) &&& BitVec.ofInt 64 (1023 : Int)).toNat : Int), [(107 : UInt8)], [], false)] (f, b, n, z, rs) 1).fst [[AV.int IntKind.i64 (apL c1 [((0 : Int), IntKind.i64.wrap (↑(BitVec.ofInt 64 (ts.getD i.toNat (0 : Int)) &&& BitVec.ofInt 64 (1023 : Int)).toNat : Int), [(107 : UInt8)], [], false)] (f, b, n, z, rs) 1).snd.fst, AV.int IntKind.i64 (apL c1 [((0 : Int), IntKind.i64.wrap (↑(BitVec.ofInt 64 (ts.getD i.toNat (0 : Int)) &&& BitVec.ofInt 64 (1023 : Int)).toNat : Int), [(107 : UInt8)], [], false)] (f, b, n, z, rs) 1).snd.snd.fst, AV.int IntKind.i64 (0 : Int), AV.int IntKind.i64 (0 : Int), AV.hw 3, AV.bool false, AV.bool false, AV.bool false, AV.int IntKind.i64 (apL c1 [((0 : Int), IntKind.i64.wrap (↑(BitVec.ofInt 64 (ts.getD i.toNat (0 : Int)) &&& BitVec.ofInt 64 (1023 : Int)).toNat : Int), [(107 : UInt8)], [], false)] (f, b, n, z, rs) 1).snd.snd.snd.fst, AV.int IntKind.u32 (0 : Int)]]), (3, AObj.log recTy (apL c1 [((0 : Int), IntKind.i64.wrap (↑(BitVec.ofInt 64 (ts.getD i.toNat (0 : Int)) &&& BitVec.ofInt 64 (1023 : Int)).toNat : Int), [(107 : UInt8)], [], false)] (f, b, n, z, rs) 1).snd.snd.snd.snd), (4, AObj.arr 1 Ty.bool [] [[AV.nils]]), (5, AObj.arr 1 Ty.bool [] [[AV.nils]])], nx := 6 } else none else none else K (Ex.exit 0) { slots := [(0, AV.vl (Ty.int IntKind.i64) ts), (1, AV.int IntKind.i64 cf), (2, AV.int IntKind.i64 now), (6, AV.bool q), (8, AV.ptr 0 (Elt.tl 0) 0), (9, AV.int IntKind.i64 wn), (10, AV.int IntKind.i64 i)], objs := [(0, AObj.arr 7 Ty.bool [] [[AV.ptr 1 (Elt.tl 0) 0, AV.int IntKind.i64 c1, AV.int IntKind.i64 c2, AV.int IntKind.i64 c3, AV.int IntKind.i64 c4, AV.ptr 4 (Elt.tl 0) 0, AV.ptr 5 (Elt.tl 0) 0]]), (1, AObj.arr 1 Ty.bool [] [[AV.hw 2]]), (2, AObj.arr 10 segTy f [[AV.int IntKind.i64 b, AV.int IntKind.i64 n, AV.int IntKind.i64 (0 : Int), AV.int IntKind.i64 (0 : Int), AV.hw 3, AV.bool false, AV.bool false, AV.bool false, AV.int IntKind.i64 z, AV.int IntKind.u32 (0 : Int)]]), (3, AObj.log recTy rs), (4, AObj.arr 1 Ty.bool [] [[AV.nils]]), (5, AObj.arr 1 Ty.bool [] [[AV.nils]])], nx := 6 } := by kernel_rfl

def tS (ts : List Int) (i : Nat) : Int := ((BitVec.ofInt 64 (ts.getD i 0) &&& BitVec.ofInt 64 1023).toNat : Int)
theorem tS_le (ts : List Int) (i : Nat) : 0 ≤ tS ts i ∧ tS ts i ≤ 1023 := by
  unfold tS
  have h : (BitVec.ofInt 64 (ts.getD i 0) &&& BitVec.ofInt 64 1023).toNat ≤ 1023 := by
    rw [BitVec.toNat_and]
    exact Nat.and_le_right
  omega
theorem tS_wrap (ts : List Int) (i : Nat) : IntKind.i64.wrap ((BitVec.ofInt 64 (ts.getD i (0 : Int)) &&& BitVec.ofInt 64 (1023 : Int)).toNat : Int) = tS ts i := by
  have h := tS_le ts i
  unfold tS at h ⊢
  exact wrap64 (by omega) (by omega)
def sinS (now : Int) (c n : Nat) (ts : List Int) : Nat → LogS × Int
  | 0 => (([], 0, 0, 0, []), n)
  | i + 1 => (apR c (sinS now c n ts i).1 (rT (tS ts i)), wantS now c i (tS ts i) (sinS now c n ts i).2)
theorem sinS_inv (now : Int) {c n : Nat} (ts : List Int) (hc : 1 ≤ c) (hn : n ≤ 40) : ∀ i, i ≤ n → InvS now c n i (sinS now c n ts i).1 (sinS now c n ts i).2
  | 0, _ => InvS_zero now
  | i + 1, h => InvS_step hc hn (by omega) (tS_le ts i) (sinS_inv now ts hc hn i (by omega))
theorem rightK {t : Int} (h : 0 ≤ t ∧ t ≤ 1023) : rightC ((1 : Int), (0 : Int), (0 : Int), [((0 : Int), t, [107], [], false)], [], (0 : Int), (0 : Int), (0 : Int), (0 : Int), (0 : Int), (0 : Int), (0 : Int), (0 : Int)) = true := by
  have e : recR (0, t, [107], [], false) = true := by
    simp [recR]
    omega
  have e2 : recsB [((0 : Int), t, [107], [], false)] = true := by
    unfold recsB badR1
    simp [e, withinB]
  unfold rightC
  simp only [e2]
  first | rfl | simp [plainC, withinB]
theorem rightO {t : Int} (h : ¬ t < -1099511627776) (h2 : ¬ t > 1099511627776) : rightC ((5 : Int), (0 : Int), (0 : Int), [], [], (0 : Int), (0 : Int), t, (0 : Int), (0 : Int), (0 : Int), (0 : Int), (0 : Int)) = true := by
  have e : withinB t (-1099511627776) 1099511627776 = true := by
    unfold withinB
    simp
    omega
  simp [rightC, plainC, e]
theorem rightF {t : Int} (h : 1 ≤ t) (h2 : t ≤ 1000) : rightC ((6 : Int), (0 : Int), (0 : Int), [], [], (0 : Int), (0 : Int), (0 : Int), (0 : Int), t, (0 : Int), (0 : Int), (0 : Int)) = true := by
  have e : confB (t, 0, 0, 0) = true := by
    unfold confB withinB
    simp
    omega
  simp [rightC, plainC, e]
def sn8St (ts : List Int) (cf : Int) (now : Int) (q : Bool) (c n : Nat) (i : Nat) : St := ⟨[(0, .vl (.int .i64) ts), (1, .int .i64 cf), (2, .int .i64 now), (6, .bool q), (8, .ptr 0 (.tl 0) 0), (9, .int .i64 (sinS now c n ts i).2), (10, .int .i64 i)], stAO cf 0 0 0 (sinS now c n ts i).1.1 (sinS now c n ts i).1.2.1 (sinS now c n ts i).1.2.2.1 (sinS now c n ts i).1.2.2.2.1 (sinS now c n ts i).1.2.2.2.2, 6⟩
theorem sn8_rounds {R : Type} (ts : List Int) (c : Nat) (now : Int) (q : Bool) (hc : 1 ≤ c) (hc2 : c ≤ 20) (hn : ts.length ≤ 40) (K : Ex → St → Option R) : ∀ (m i : Nat), i + m = ts.length →
    rounds (env consX3) H.sin2 0 (LPof []) V.cooperagelaw16_StateSince_8 L.cooperagelaw16_StateSince_8 (m + 1) (sn8St ts c now q c ts.length i) K = K (.exit 0) (sn8St ts c now q c ts.length ts.length)
  | 0, i, h => by
    obtain rfl : i = ts.length := by omega
    rw [rounds_succ']
    refine (sn8_rd _ _ _ _ _ _ _ _ _ _ _ _ _ _ _ _).trans ?_
    rw [cond_neg (by omega)]
    rfl
  | m + 1, i, h => by
    have ih := sn8_rounds ts c now q hc hc2 hn K m (i + 1) (by omega)
    have hI := sinS_inv now (n := ts.length) ts hc hn i (by omega)
    have ht := tS_le ts i
    have e1 : IntKind.i64.wrap ((i : Int) + 1) = ((i + 1 : Nat) : Int) := by rw [wrap64 (by omega) (by omega)]; omega
    have d1 : Int.tdiv (i : Int) (c : Int) = ((i / c : Nat) : Int) := (Int.ofNat_tdiv i c).symm
    have d2 : i / c ≤ i := Nat.div_le_self i c
    have d3 : i / c * c ≤ i := Nat.div_mul_le_self i c
    have d4 : IntKind.i64.wrap (IntKind.i64.wrap (Int.tdiv (i : Int) (c : Int)) * (c : Int)) = ((i / c * c : Nat) : Int) := by
      rw [d1]
      obtain ⟨k, hk⟩ : ∃ k, k = i / c := ⟨_, rfl⟩
      rw [← hk] at d2 d3 ⊢
      rw [wrap64 (n := (k : Int)) (by omega) (by omega)]
      have e : (k : Int) * (c : Int) = ((k * c : Nat) : Int) := (Int.natCast_mul _ _).symm
      rw [e]
      exact wrap64 (by omega) (by omega)
    have e4 : okB 500000000 ((sinS now c ts.length ts i).1.1, (sinS now c ts.length ts i).1.2.1, (sinS now c ts.length ts i).1.2.2.1, (sinS now c ts.length ts i).1.2.2.2.1, (sinS now c ts.length ts i).1.2.2.2.2) = true := okB_mono hI.ok (by omega)
    have e5 : ((sinS now c ts.length ts i).1.2.2.1 != (i : Int)) = false := by rw [hI.next]; simp
    have e6 : apL (c : Int) [((0 : Int), tS ts i, [107], [], false)] ((sinS now c ts.length ts i).1.1, (sinS now c ts.length ts i).1.2.1, (sinS now c ts.length ts i).1.2.2.1, (sinS now c ts.length ts i).1.2.2.2.1, (sinS now c ts.length ts i).1.2.2.2.2) 1 = (sinS now c ts.length ts (i + 1)).1 := rfl
    have e7 : (sinS now c ts.length ts (i + 1)).2 = wantS now c i (tS ts i) (sinS now c ts.length ts i).2 := rfl
    have e8 : ∀ (x y : Bool), (bif x then bif decide ((c : Int) = (0 : Int)) then none else some y else some false) = some (x && y) := fun x y => by
      rw [decide_eq_false (show ¬ (c : Int) = 0 by omega)]
      cases x <;> rfl
    rw [rounds_succ']
    refine (sn8_rd _ _ _ _ _ _ _ _ _ _ _ _ _ _ _ _).trans ?_
    rw [cond_pos (by omega), cond_pos2 (by omega) (by omega), Int.toNat_natCast, tS_wrap, rightK ht, Bool.not_true, cond_false, e4, cond_true, e5, cond_false, d4, e1, e6, e8, Option.bind_some]
    unfold sn8St at ih
    rw [e7] at ih
    unfold wantS at ih
    rw [decide_eq_false (show ¬ (c : Int) = 0 by omega), cond_false]
    cases hv : decide (tS ts i ≥ now) && decide (((i / c * c : Nat) : Int) < (sinS now c ts.length ts i).2) with
    | true => rw [hv, cond_true] at ih; rw [cond_true]; exact ih
    | false => rw [hv, cond_false] at ih; rw [cond_false]; exact ih
abbrev sn8LC : LoopC := LoopC.of ⟨[(0, .vl (.int .i64)), (1, .int .i64), (2, .int .i64), (6, .bool), (8, .lit (.ptr 0 (.tl 0) 0)), (9, .int .i64), (10, .int .i64)], stAP⟩
  (fun ⟨⟨ts, cf, now, q, _, wn, i, _⟩, ⟨⟨⟨_, c1, c2, c3, c4, _, _, _⟩, _⟩, _, ⟨f, ⟨b, n, _, _, _, _, _, _, z, _, _⟩, _⟩, rs, _, _, _⟩⟩ => decide (i = (0 : Int)) && decide (wn = (List.length ts : Int)) && decide ((1 : Int) ≤ cf) && decide (cf ≤ (20 : Int)) && decide (List.length ts ≤ 40) && decide (c1 = cf) && decide (c2 = (0 : Int)) && decide (c3 = (0 : Int)) && decide (c4 = (0 : Int)) && List.isEmpty f && List.isEmpty rs && decide (b = (0 : Int)) && decide (n = (0 : Int)) && decide (z = (0 : Int)))
  fun ⟨⟨ts, cf, now, q, _, wn, i, _⟩, ⟨⟨⟨_, c1, c2, c3, c4, _, _, _⟩, _⟩, _, ⟨f, ⟨b, n, _, _, _, _, _, _, z, _, _⟩, _⟩, rs, _, _, _⟩⟩ => [(true, .exit 0, sn8St ts cf now q cf.toNat (List.length ts) (List.length ts))]
theorem sn8_lok : LoopOK P0 H.sin2 0 L.cooperagelaw16_StateSince_8 sn8LC :=
  loop_ok_of (env_ok consX3_ok) glob0 mixed0 noLoops V.cooperagelaw16_StateSince_8 (by decide) fun ⟨⟨ts, cf, now, q, _, wn, i, _⟩, ⟨⟨⟨_, c1, c2, c3, c4, _, _, _⟩, _⟩, _, ⟨f, ⟨b, n, _, _, _, _, _, _, z, _, _⟩, _⟩, rs, _, _, _⟩⟩ h hw => by
    simp only [Bool.and_eq_true, decide_eq_true_eq] at h
    obtain ⟨⟨⟨⟨⟨⟨⟨⟨⟨⟨⟨⟨⟨rfl, rfl⟩, h3⟩, h4⟩, h5⟩, rfl⟩, rfl⟩, rfl⟩, rfl⟩, h10⟩, h11⟩, rfl⟩, rfl⟩, rfl⟩ := h
    obtain rfl : f = [] := List.isEmpty_iff.1 h10
    obtain rfl : rs = [] := List.isEmpty_iff.1 h11
    have h3 : (1 : Int) ≤ c1 := h3
    have h4 : c1 ≤ (20 : Int) := h4
    obtain ⟨k, rfl⟩ := Int.eq_ofNat_of_zero_le (show (0 : Int) ≤ c1 by omega)
    have h3' : (1 : Int) ≤ (k : Int) := h3
    have h4' : (k : Int) ≤ 20 := h4
    exact ⟨_, sn8_rounds ts k now q (by omega) (by omega) h5 _ (List.length ts) 0 (Nat.zero_add _)⟩
theorem sin_ev (ts : List Int) (cf now : Int) : evFn (env consX3) H.sin2 (LPof [(8, sn8LC)]) F.cooperagelaw16_StateSince [.vl (.int .i64) ts, .int .i64 cf, .int .i64 now] [] (finT [.bool]) = Option.bind (bif decide ((↑ts.length : Int) > (40 : Int)) then some true else bif decide (cf < (1 : Int)) then some true else bif decide (cf > (20 : Int)) then some true else bif decide (now < (-1099511627776 : Int)) then some true else some (decide (now > (1099511627776 : Int)))) fun v => bif v then some (true, ()) else bif !rightC ((6 : Int), (0 : Int), (0 : Int), [], [], (0 : Int), (0 : Int), (0 : Int), (0 : Int), cf, (0 : Int), (0 : Int), (0 : Int)) then bif decide ((↑ts.length : Int) = (↑ts.length : Int)) && decide ((1 : Int) ≤ cf) && decide (cf ≤ (20 : Int)) && decide (ts.length ≤ 40) && decide ((100 : Int) = cf) && true && true && true && true && true && true && true && true && true then bif !rightC ((5 : Int), (0 : Int), (0 : Int), [], [], (0 : Int), (0 : Int), now, (0 : Int), (0 : Int), (0 : Int), (0 : Int), (0 : Int)) then some (false, ()) else bif decide ((sinS now cf.toNat ts.length ts ts.length).fst.fst.length ≤ 1000000000) then bif smallL (sinS now cf.toNat ts.length ts ts.length).fst.fst && decide ((sinS now cf.toNat ts.length ts ts.length).fst.snd.snd.snd.snd.length ≤ 1000000000) then bif lowP (sinS now cf.toNat ts.length ts ts.length).fst == (0 : Int) then bif (sinS now cf.toNat ts.length ts ts.length).fst.snd.snd.fst == (↑ts.length : Int) then some ((lateB now (sinS now cf.toNat ts.length ts ts.length).fst).getD (sinS now cf.toNat ts.length ts ts.length).fst.snd.snd.fst == (sinS now cf.toNat ts.length ts ts.length).snd, ()) else some (false, ()) else some (false, ()) else none else none else none else bif decide ((↑ts.length : Int) = (↑ts.length : Int)) && decide ((1 : Int) ≤ cf) && decide (cf ≤ (20 : Int)) && decide (ts.length ≤ 40) && decide (cf = cf) && true && true && true && true && true && true && true && true && true then bif !rightC ((5 : Int), (0 : Int), (0 : Int), [], [], (0 : Int), (0 : Int), now, (0 : Int), (0 : Int), (0 : Int), (0 : Int), (0 : Int)) then some (false, ()) else bif decide ((sinS now cf.toNat ts.length ts ts.length).fst.fst.length ≤ 1000000000) then bif smallL (sinS now cf.toNat ts.length ts ts.length).fst.fst && decide ((sinS now cf.toNat ts.length ts ts.length).fst.snd.snd.snd.snd.length ≤ 1000000000) then bif lowP (sinS now cf.toNat ts.length ts ts.length).fst == (0 : Int) then bif (sinS now cf.toNat ts.length ts ts.length).fst.snd.snd.fst == (↑ts.length : Int) then some ((lateB now (sinS now cf.toNat ts.length ts ts.length).fst).getD (sinS now cf.toNat ts.length ts ts.length).fst.snd.snd.fst == (sinS now cf.toNat ts.length ts ts.length).snd, ()) else some (false, ()) else some (false, ()) else none else none else none := by kernel_rfl

theorem sin_val (ts : List Int) (cf now : Int) : evFn (env consX3) H.sin2 (LPof [(8, sn8LC)]) F.cooperagelaw16_StateSince [.vl (.int .i64) ts, .int .i64 cf, .int .i64 now] [] (finT [.bool]) = some (true, ()) := by
  rw [sin_ev]
  by_cases h1 : (ts.length : Int) > 40
  · rw [cond_pos h1]; rfl
  by_cases h2 : cf < 1
  · rw [cond_neg h1, cond_pos h2]; rfl
  by_cases h3 : cf > 20
  · rw [cond_neg h1, cond_neg h2, cond_pos h3]; rfl
  by_cases h4 : now < -1099511627776
  · rw [cond_neg h1, cond_neg h2, cond_neg h3, cond_pos h4]; rfl
  by_cases h5 : now > 1099511627776
  · rw [cond_neg h1, cond_neg h2, cond_neg h3, cond_neg h4, decide_eq_true h5]; rfl
  rw [cond_neg h1, cond_neg h2, cond_neg h3, cond_neg h4, decide_eq_false h5, Option.bind_some, cond_false, rightF (by omega) (by omega), rightO h4 h5]
  obtain ⟨k, rfl⟩ := Int.eq_ofNat_of_zero_le (show 0 ≤ cf by omega)
  have hI := sinS_inv now (c := k) (n := ts.length) ts (by omega) (by omega) ts.length (Nat.le_refl _)
  obtain ⟨o1, o2, o3, o4, o5, o6, o7, o8⟩ := okB_iff.1 hI.ok
  have e1 : decide ((1 : (Pat.int IntKind.i64).den) ≤ (k : Int)) = true := decide_eq_true (show (1 : Int) ≤ (k : Int) by omega)
  have e2 : decide ((k : Int) ≤ (20 : (Pat.int IntKind.i64).den)) = true := decide_eq_true (show (k : Int) ≤ 20 by omega)
  have e3 : decide (ts.length ≤ 40) = true := decide_eq_true (by omega)
  have l1 : decide ((sinS now k ts.length ts ts.length).1.1.length ≤ 1000000000) = true := decide_eq_true (by omega)
  have l2 : smallL (sinS now k ts.length ts ts.length).1.1 = true := by unfold smallL; rw [l1, o8]; rfl
  have l3 : decide ((sinS now k ts.length ts ts.length).1.2.2.2.2.length ≤ 1000000000) = true := decide_eq_true (by omega)
  simp only [e1, e2, e3, Int.toNat_natCast, l1, l2, l3, hI.next, hI.low, ← hI.want, Bool.and_self, Bool.not_true, cond_true, cond_false, beq_self_eq_true, decide_true]
def caseSin : PCase := ⟨[.ty (.sl (.int .i64)), .ty (.int .i64), .ty (.int .i64)], [.bool], fun x => [(true, (true, ()))]⟩
theorem sin_ok : caseSin.ok P0 I.cooperagelaw16_StateSince := case_ok2 (H := H.sin2) (E := env consX3) (env_ok consX3_ok) glob0 mixed0 G.cooperagelaw16_StateSince Bd.cooperagelaw16_StateSince (by kernel_rfl) (loops_good (tab := [(8, sn8LC)]) (by kernel_rfl) (fun x hx => by simp at hx; subst hx; exact sn8_lok)) fun ⟨ts, cf, now, ()⟩ y h hw => by
  obtain ⟨hc, rfl⟩ := pick_pre h
  exact sin_val ts cf now
theorem sin_good (x : tysDen [.sl (.int .i64), .int .i64, .int .i64]) (hw : tysWf [.sl (.int .i64), .int .i64, .int .i64] x) : ∃ o, EffGood P0 I.cooperagelaw16_StateSince (valsOf [.sl (.int .i64), .int .i64, .int .i64] x) [] (.bool true) o := sin_ok x (true, ()) rfl hw
end Go.Sim
namespace Go.Sim
set_option maxRecDepth 10000
open Go.Proofs Go.Proofs.YtpkobajkogcmkaaGreatDoor
/-- A package variable that is an array, read whole. -/
theorem laid_array {P : Program} {W : World} {g n t e : Nat} {y : Ty} {cs : Array Value} {fuel : Nat} {ds : List (DataW Unit)} {p : List MemPlace} (hcell : ∀ i, W.cell? ⟨g, i, none⟩ = cs[i]?) (ht : P.underlying t = some (.array n e))
    (hd : DataW.trod (fun _ => ()) P W 0 (fun _ => true) false fuel t cs.toList = some (.agg ds, p)) (hsz : P.cellsOf e = y.sz) {xs : List y.den} (hlen : xs.length = n) (hn : n ≤ maxL)
    (hel : ∀ (i : Nat) x d (m : Nat) cs' p', xs[i]? = some x → ds[i]? = some d → DataW.trod (fun _ => ()) P W 0 (fun _ => true) false m e cs' = some (d, p') → Vt (phi0 W) W y x cs') :
    Vt (phi0 W) W (.sl y) xs [.slice (some ⟨g, 0, none⟩) xs.length xs.length] := by
  obtain ⟨zs, m, _, ex, hc, hz, hE⟩ := DataW.trod_array ht hd
  have hds : ds = zs.map (·.1) := DataW.agg.inj (Prod.mk.inj ex).1
  refine ⟨by rw [hlen]; exact hn, some ⟨g, 0, none⟩, xs.length, rfl, Nat.le_refl _, fun i x hx => ?_⟩
  have hi : i < n := by have := (List.getElem?_eq_some_iff.1 hx).1; omega
  have h1 := hE i hi
  rw [List.getElem?_eq_getElem (by omega : i < zs.length)] at h1
  have h2 : ds[i]? = some (zs[i]'(by omega)).1 := by rw [hds, List.getElem?_map, List.getElem?_eq_getElem (by omega : i < zs.length)]; rfl
  refine ⟨⟨g, 0, none⟩, _, rfl, rfl, hel i x _ m _ _ hx h2 h1, fun j v hj => ?_⟩
  have hj2 : cs.toList[i * y.sz + j]? = some v := by
    rw [hsz] at hj
    have hjl := (List.getElem?_eq_some_iff.1 hj).1
    rw [List.getElem?_take_of_lt (by rw [List.length_take] at hjl; omega), List.getElem?_drop] at hj
    exact hj
  have hc2 : W.cell? ⟨g, 0 + i * y.sz + j, none⟩ = some v := by
    rw [hcell, Nat.zero_add, ← Array.getElem?_toList]
    exact hj2
  exact ⟨hc2, (cell_phi0 hc2).2.1⟩
theorem pin_first : (Go.Pinned.utf8First : DataW Unit) = .agg (utf8First.map fun n => .lit (.int .u8 n)) := by kernel_rfl
theorem acc_laid : (Rows.laid_unicode_utf8_acceptRanges : DataW Unit) = .agg (utf8Acc.map fun x => .agg [.lit (.int .u8 x.1), .lit (.int .u8 x.2)]) := by kernel_rfl
theorem get_map {α β : Type} {f : α → β} {l : List α} {i : Nat} {x : α} {d : β} (hx : l[i]? = some x) (hd : (l.map f)[i]? = some d) : d = f x := by
  rw [List.getElem?_map, hx] at hd
  exact (Option.some.inj hd).symm
theorem laidN {W : World} (h : laidMetH Tryz.prog [("unicode/utf8.acceptRanges", Rows.laid_unicode_utf8_acceptRanges), ("unicode/utf8.first", Rows.laid_unicode_utf8_first)] W) : LaidT P0 (phi0 W) W := by
  rw [MakeChecks.laidMetH_plain _ _ _ (by kernel_rfl)] at h
  obtain ⟨ps, ⟨g1, t1, cs1, fuel1, p1, q1, hg1, ht1, hv1, hd1, ⟨g0, t0, cs0, fuel0, p0, q0, hg0, ht0, hv0, hd0, _, _⟩, _⟩, _, _⟩ := h
  have e1 := Option.some.inj ((show Tryz.prog.globalNamed "unicode/utf8.acceptRanges" = some 1 by kernel_rfl).symm.trans hg1)
  have e0 := Option.some.inj ((show Tryz.prog.globalNamed "unicode/utf8.first" = some 0 by kernel_rfl).symm.trans hg0)
  subst e1; subst e0
  have f1 := Option.some.inj ((show (Tryz.prog.globals[1]?).map (·.type) = some 234 by kernel_rfl).symm.trans ht1)
  have f0 := Option.some.inj ((show (Tryz.prog.globals[0]?).map (·.type) = some 231 by kernel_rfl).symm.trans ht0)
  subst f1; subst f0
  have hd0' : DataW.trod (fun _ => ()) Tryz.prog W 0 (fun _ => true) false fuel0 231 cs0.toList = some (.agg (utf8First.map fun n => .lit (.int .u8 n)), p0) := by rw [← pin_first]; exact hd0
  rw [acc_laid] at hd1
  have hint : ∀ (m : Nat) cs' (n : Int) p', DataW.trod (fun _ => ()) Tryz.prog W 0 (fun _ => true) false m 5 cs' = some (.lit (.int .u8 n), p') → cs' = [.int .u8 n] ∧ In .u8 n := fun m cs' n p' hm => by
    obtain ⟨z, z1, z2, z3⟩ := DataW.trod_int (k := .u8) (show Tryz.prog.underlying 5 = some (.int .u8) by kernel_rfl) hm
    have : n = z := by simpa using (Prod.mk.inj z2).1
    subst this
    exact ⟨z1, wf_In z3⟩
  intro x hx
  simp only [Tabs.tab, List.mem_cons, List.mem_nil_iff, or_false] at hx
  rcases hx with rfl | rfl
  · refine laid_array (fun i => World.var?_cell hg0 hv0 i) (show Tryz.prog.underlying 231 = some (.array 256 5) by kernel_rfl) hd0' (by kernel_rfl) utf8First_length (by decide) fun i x d m cs' p' hx hd ht => ?_
    have := get_map hx hd
    subst this
    exact hint m cs' x p' ht
  · refine laid_array (fun i => World.var?_cell hg1 hv1 i) (show Tryz.prog.underlying 234 = some (.array 16 233) by kernel_rfl) hd1 (by kernel_rfl) rfl (by decide) fun i x d m cs' p' hx hd ht => ?_
    have := get_map hx hd
    subst this
    obtain ⟨zs, m', _, ex, hc, hz, hE⟩ := DataW.trod_struct Tryz.underlying233 ht
    have c5 : Tryz.prog.cellsOf 5 = 1 := by kernel_rfl
    have c61 : Tryz.prog.cellsOf 233 = 2 := by kernel_rfl
    have a0 := hE 0 _ rfl
    have a1 := hE 1 _ rfl
    have hz2 : zs.length = 2 := hz
    obtain ⟨z0, z1, rfl⟩ : ∃ z0 z1, zs = [z0, z1] := by
      match zs, hz2 with
      | [z0, z1], _ => exact ⟨z0, z1, rfl⟩
    rw [c61] at hc
    obtain ⟨u0, u1, rfl⟩ : ∃ u0 u1, cs' = [u0, u1] := by
      match cs', hc with
      | [u0, u1], _ => exact ⟨u0, u1, rfl⟩
    have ex2 := (Prod.mk.inj ex).1
    simp only [List.map_cons, List.map_nil, DataW.agg.injEq, List.cons.injEq, and_true] at ex2
    obtain ⟨y0, p0'⟩ := z0
    obtain ⟨y1, p1'⟩ := z1
    obtain ⟨rfl, rfl⟩ := ex2
    have b0 := hint m' [u0] x.1 p0' (by rw [← show (([u0, u1] : List Value).drop 0).take (Tryz.prog.cellsOf 5) = [u0] by rw [c5]; rfl]; exact a0)
    have b1 := hint m' [u1] x.2 p1' (by rw [← show (([u0, u1] : List Value).drop 1).take (Tryz.prog.cellsOf 5) = [u1] by rw [c5]; rfl]; exact a1)
    exact ⟨[u0], [u1], rfl, b0, b1⟩
end Go.Sim
