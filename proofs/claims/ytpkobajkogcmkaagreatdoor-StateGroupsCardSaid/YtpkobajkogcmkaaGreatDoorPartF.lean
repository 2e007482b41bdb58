/-
  PlDed: tables of producers: the plain side. · WkD1: walks of slices.BinarySearchFunc and slices.Insert. · WkD2: slices.Insert, in parts (states written by a tool). · WkD3: slices.Insert, in parts (states written by a tool). · WkD4: slices.Insert: what it leaves. · WkD5: contracts of slices.Insert and slices.BinarySearchFunc. · WkD6: walks of dedup's table. · WkX1: walks of a state: New, Apply. · WkX2: walks of a state: since. · WkX3: walks of the law StateSince. · SimLps: loops with several contracts each: the first one that is written as the state is. · WkX4: walks of the law StateOnce. · WkX5: StateOnce: the inner loop. · WkY2: walks of a log: Find; fetching. · WkY3: what reading gives: the plain side of StateReads. · WkY4: walks of the law StateReads. · PlGrp: tables of groups: the plain side. · WkG1: strings.Compare; slices.Insert of groups' rows, its first part. · WkG2: slices.Insert, in parts (states written by a tool). · WkG3: slices.Insert, in parts (states written by a tool). · WkG4: slices.Insert: what it leaves. · WkG5: contracts of slices.Insert and slices.BinarySearchFunc, groups' rows. · WkG6: walks of groups' table and the document's. · WkGA: groups: the document's table, like rows (for seat E).
-/
import Derived.Lib.Overlaps
import Derived.Shelf.Small.Strs
import Derived.Test.YtpkobajkogcmkaaGreatDoorPartE
namespace Go.Sim
set_option linter.unusedSimpArgs false
set_option linter.unusedVariables false
abbrev Row3 := Int × Int × Int
/-- Where a producer's row stands, or would. -/
def posL : List Row3 → Int → Nat
  | [], _ => 0
  | r :: l, p => bif decide (r.1 < p) then posL l p + 1 else 0
def atL (l : List Row3) (i : Nat) : Row3 := l.getD i (0, 0, 0)
def hasL (l : List Row3) (p : Int) : Bool := decide (posL l p < l.length) && (atL l (posL l p)).1 == p
def sortedL : List Row3 → Bool
  | [] => true
  | r :: l => l.all (fun s => decide (r.1 < s.1)) && sortedL l
def putAt (l : List Row3) (k t : Nat) (r : Row3) : List Row3 := l.take k ++ r :: l.drop t
/-- A table in which a row was set; what Set tells. -/
def setL (l : List Row3) (r : Row3) : List Row3 × Int :=
  bif hasL l r.1 then (putAt l (posL l r.1) (posL l r.1 + 1) r, 0) else bif decide ((l.length : Int) ≥ 100) then (l, 7) else (putAt l (posL l r.1) (posL l r.1) r, 0)
def askL (l : List Row3) (p s : Int) : Int × Int :=
  bif hasL l p then (bif (atL l (posL l p)).2.1 == s then (1, (atL l (posL l p)).2.2) else bif decide ((atL l (posL l p)).2.1 < s) && (atL l (posL l p)).2.1 == s - 1 then (0, 0) else (2, 0)) else bif s == 0 then (0, 0) else (2, 0)
theorem pos_le : ∀ (l : List Row3) (p : Int), posL l p ≤ l.length
  | [], _ => Nat.le_refl _
  | r :: l, p => by
    have := pos_le l p
    simp only [posL, List.length_cons]
    cases decide (r.1 < p) <;> simp only [cond_true, cond_false] <;> omega
theorem pos_below : ∀ {l : List Row3} {p : Int} {i : Nat}, i < posL l p → (atL l i).1 < p
  | r :: l, p, i, h => by
    simp only [posL] at h
    by_cases hr : r.1 < p
    · cases i with
      | zero => exact hr
      | succ i =>
        rw [cond_pos hr] at h
        have := pos_below (l := l) (p := p) (i := i) (by omega)
        simpa [atL] using this
    · rw [cond_neg hr] at h; omega
theorem pos_at : ∀ {l : List Row3} {p : Int}, posL l p < l.length → p ≤ (atL l (posL l p)).1
  | r :: l, p, h => by
    simp only [posL] at h ⊢
    by_cases hr : r.1 < p
    · rw [cond_pos hr] at h ⊢
      have := pos_at (l := l) (p := p) (by simpa using h)
      simpa [atL] using this
    · rw [cond_neg hr]
      show p ≤ r.1
      omega
theorem sorted_lt : ∀ {l : List Row3} {i j : Nat}, sortedL l = true → i < j → j < l.length → (atL l i).1 < (atL l j).1
  | r :: l, i, j, hs, hij, hj => by
    simp only [sortedL, Bool.and_eq_true, List.all_eq_true, decide_eq_true_eq] at hs
    cases j with
    | zero => omega
    | succ j =>
      have hj : j < l.length := by simpa using hj
      cases i with
      | zero =>
        have : (atL l j) ∈ l := by unfold atL; rw [List.getD_eq_getElem?_getD, List.getElem?_eq_getElem hj]; exact List.getElem_mem hj
        have := hs.1 _ this
        simpa [atL] using this
      | succ i =>
        have := sorted_lt (l := l) (i := i) (j := j) hs.2 (by omega) hj
        simpa [atL] using this
/-- A place with nothing less behind it and nothing else ahead is the row's. -/
theorem pos_eq {l : List Row3} {p : Int} {k : Nat} (hk : k ≤ l.length) (h1 : ∀ i, i < k → (atL l i).1 < p) (h2 : k < l.length → p ≤ (atL l k).1) : posL l p = k := by
  rcases Nat.lt_trichotomy (posL l p) k with h | h | h
  · have := pos_at (l := l) (p := p) (by omega)
    have := h1 _ h
    omega
  · exact h
  · have := pos_below h
    have := h2 (by have := pos_le l p; omega)
    omega
end Go.Sim
namespace Go.Sim.XD
set_option linter.unusedSimpArgs false
set_option linter.unusedVariables false
set_option maxRecDepth 10000
theorem env_nil : ∀ x ∈ ([] : List (FuncId × Con)), HoldsC P0 x.1 x.2 := fun x h => by cases h
abbrev rowT : Ty := .pair (.int .i64) (.pair (.int .i64) (.int .i64))
theorem isnan_ev (a : Int) : evFn (env []) H.cmp_isNaN_int (LPof []) F.cmp_isNaN_int [.int .i64 a] [] (finT [.bool]) = some (a != a, ()) := by kernel_rfl

def caseIsnan : PCase := ⟨[.ty (.int .i64)], [.bool], fun x => (fun (a : Int) => [(true, (false, ()))]) x.1⟩
theorem isnan_val (a : Int) : evFn (env []) H.cmp_isNaN_int (LPof []) F.cmp_isNaN_int [.int .i64 a] [] (finT [.bool]) = some (false, ()) := by
  rw [isnan_ev]; simp
theorem isnan_ok : caseIsnan.ok P0 I.cmp_isNaN_int := case_ok2 (H := H.cmp_isNaN_int) (E := env []) (env_ok env_nil) glob0 mixed0 G.cmp_isNaN_int Bd.cmp_isNaN_int (by kernel_rfl) noLoops fun ⟨a, ()⟩ y h hw => by
  obtain ⟨hc, rfl⟩ := pick_pre h
  exact isnan_val a
noncomputable abbrev consA1 : List (FuncId × Con) := [(I.cmp_isNaN_int, .pure (pureOf [caseIsnan]))]
theorem consA1_ok : ∀ x ∈ consA1, HoldsC P0 x.1 x.2 := by
  intro x hx
  simp at hx
  subst hx
  exact ⟨pureOf_holds (by simp; exact isnan_ok), C.cmp_isNaN_int⟩
theorem cmp_ev (a b : Int) : evFn (env consA1) H.cmp_Compare_int (LPof []) F.cmp_Compare_int [.int .i64 a, .int .i64 b] [] (finT [.int .i64]) = bif decide (a < b) then some ((-1 : Int), ()) else bif decide (a > b) then some ((1 : Int), ()) else some ((0 : Int), ()) := by kernel_rfl

def cmpI (a b : Int) : Int := bif decide (a < b) then -1 else bif decide (a > b) then 1 else 0
def caseCmp : PCase := ⟨[.ty (.int .i64), .ty (.int .i64)], [.int .i64], fun x => (fun (a b : Int) => [(true, (cmpI a b, ()))]) x.1 x.2.1⟩
theorem cmp_val (a b : Int) : evFn (env consA1) H.cmp_Compare_int (LPof []) F.cmp_Compare_int [.int .i64 a, .int .i64 b] [] (finT [.int .i64]) = some (cmpI a b, ()) := by
  rw [cmp_ev]
  unfold cmpI
  cases decide (a < b) <;> cases decide (a > b) <;> rfl
theorem cmp_ok : caseCmp.ok P0 I.cmp_Compare_int := case_ok2 (H := H.cmp_Compare_int) (E := env consA1) (env_ok consA1_ok) glob0 mixed0 G.cmp_Compare_int Bd.cmp_Compare_int (by kernel_rfl) noLoops fun ⟨a, b, ()⟩ y h hw => by
  obtain ⟨hc, rfl⟩ := pick_pre h
  exact cmp_val a b
noncomputable abbrev consA2 : List (FuncId × Con) := [(I.cmp_Compare_int, .pure (pureOf [caseCmp]))]
theorem consA2_ok : ∀ x ∈ consA2, HoldsC P0 x.1 x.2 := by
  intro x hx
  simp at hx
  subst hx
  exact ⟨pureOf_holds (by simp; exact cmp_ok), C.cmp_Compare_int⟩
theorem find1_ev (r : Row3) (p : Int) : evFn (env consA2) H.dedup_Table_find_1 (LPof []) F.dedup_Table_find_1 [valOf rowT r, .int .i64 p] [] (finT [.int .i64]) = some (cmpI r.fst p, ()) := by kernel_rfl

def H.ins2 : Hint := { H.slices_Insert_dedup_Row_dedup_Row with vs := [51], hw := [83], nh := [(6, 145)] }
noncomputable abbrev consA3 : List (FuncId × Con) := [(182, .apart)]
def insObj (r : Row3) : AObj := .arr 3 .bool [] [[.int .i64 r.1, .int .i64 r.2.1, .int .i64 r.2.2]]
theorem ins1_ev {R : Type} (xs : List Row3) (i : Int) (r : Row3) (c : Nat) (K : Ex → St → Option R) : ev (env consA3) H.ins2 2 (LPof []) (preC 7 B.slices_Insert_dedup_Row_dedup_Row) (initSt [.hc 0 0 xs.length c, .int .i64 i, .hw 1] [.arr 3 rowT xs [], insObj r]) K = bif decide ((0 : Int) ≤ i) && decide (i ≤ (↑xs.length : Int)) then bif i == (↑xs.length : Int) then bif decide ((List.take xs.length xs ++ [r]).length * 24 ≤ 140737488355328) then K Ex.ret { slots := [(6, AV.hw 3), (25, AV.hw 3), (24, AV.hw 1), (23, AV.hc 0 0 xs.length c), (22, AV.bool (i == (↑xs.length : Int))), (21, AV.int IntKind.i64 (↑xs.length : Int)), (20, AV.int IntKind.i64 i), (8, AV.int IntKind.i64 (↑xs.length : Int)), (19, AV.int IntKind.i64 (↑xs.length : Int)), (18, AV.hc 0 0 xs.length c), (16, AV.bool false), (15, AV.int IntKind.i64 (1 : Int)), (7, AV.int IntKind.i64 (1 : Int)), (14, AV.int IntKind.i64 (1 : Int)), (13, AV.hw 1), (12, AV.hc 0 i.toNat (xs.length - i.toNat) (cutCap c (some i.toNat))), (11, AV.int IntKind.i64 i), (10, AV.hc 0 0 xs.length c), (6, AV.hw 2), (0, AV.hc 0 0 xs.length c), (1, AV.int IntKind.i64 i), (2, AV.hw 1)], objs := [(3, AObj.arr 3 ((Ty.int IntKind.i64).pair ((Ty.int IntKind.i64).pair (Ty.int IntKind.i64))) (List.take xs.length xs ++ [r]) []), (0, AObj.dead), (2, AObj.arr 3 ((Ty.int IntKind.i64).pair ((Ty.int IntKind.i64).pair (Ty.int IntKind.i64))) [] []), (0, AObj.arr 3 ((Ty.int IntKind.i64).pair ((Ty.int IntKind.i64).pair (Ty.int IntKind.i64))) xs []), (1, AObj.arr 3 Ty.bool [] [[AV.int IntKind.i64 r.fst, AV.int IntKind.i64 r.snd.fst, AV.int IntKind.i64 r.snd.snd]])], nx := 4 } else none else bif decide (IntKind.i64.wrap ((↑xs.length : Int) + (1 : Int)) > (↑c : Int)) then bif decide ((0 : Int) ≤ i) && decide (i ≤ (↑xs.length : Int)) then bif decide ((0 : Int) < IntKind.i64.wrap (IntKind.i64.wrap ((↑xs.length : Int) + (1 : Int)) - i)) && decide (c < i.toNat + (IntKind.i64.wrap (IntKind.i64.wrap ((↑xs.length : Int) + (1 : Int)) - i)).toNat) && decide (0 + i.toNat ≤ xs.length) && decide ((i.toNat + (IntKind.i64.wrap (IntKind.i64.wrap ((↑xs.length : Int) + (1 : Int)) - i)).toNat) * 24 ≤ 140737488355328) then bif decide ((0 : Int) ≤ i) && decide (i ≤ (↑(List.take i.toNat xs ++ List.replicate (IntKind.i64.wrap (IntKind.i64.wrap ((↑xs.length : Int) + (1 : Int)) - i)).toNat ((Ty.int IntKind.i64).pair ((Ty.int IntKind.i64).pair (Ty.int IntKind.i64))).zero).length : Int)) then bif decide (1 ≤ (List.take i.toNat xs ++ List.replicate (IntKind.i64.wrap (IntKind.i64.wrap ((↑xs.length : Int) + (1 : Int)) - i)).toNat ((Ty.int IntKind.i64).pair ((Ty.int IntKind.i64).pair (Ty.int IntKind.i64))).zero).length - i.toNat) && decide (i.toNat + 1 ≤ (List.take i.toNat xs ++ List.replicate (IntKind.i64.wrap (IntKind.i64.wrap ((↑xs.length : Int) + (1 : Int)) - i)).toNat ((Ty.int IntKind.i64).pair ((Ty.int IntKind.i64).pair (Ty.int IntKind.i64))).zero).length) then bif decide ((0 : Int) ≤ IntKind.i64.wrap (i + (1 : Int))) && decide (IntKind.i64.wrap (i + (1 : Int)) ≤ (↑(List.take i.toNat (List.take i.toNat xs ++ List.replicate (IntKind.i64.wrap (IntKind.i64.wrap ((↑xs.length : Int) + (1 : Int)) - i)).toNat ((Ty.int IntKind.i64).pair ((Ty.int IntKind.i64).pair (Ty.int IntKind.i64))).zero) ++ [r] ++ List.drop (i.toNat + 1) (List.take i.toNat xs ++ List.replicate (IntKind.i64.wrap (IntKind.i64.wrap ((↑xs.length : Int) + (1 : Int)) - i)).toNat ((Ty.int IntKind.i64).pair ((Ty.int IntKind.i64).pair (Ty.int IntKind.i64))).zero)).length : Int)) then bif decide (xs.length = xs.length) && decide (0 < c) then bif decide ((0 : Int) ≤ i) && decide (i ≤ (↑xs.length : Int)) then bif decide ((List.drop i.toNat xs).length ≤ (List.take i.toNat (List.take i.toNat xs ++ List.replicate (IntKind.i64.wrap (IntKind.i64.wrap ((↑xs.length : Int) + (1 : Int)) - i)).toNat ((Ty.int IntKind.i64).pair ((Ty.int IntKind.i64).pair (Ty.int IntKind.i64))).zero) ++ [r] ++ List.drop (i.toNat + 1) (List.take i.toNat xs ++ List.replicate (IntKind.i64.wrap (IntKind.i64.wrap ((↑xs.length : Int) + (1 : Int)) - i)).toNat ((Ty.int IntKind.i64).pair ((Ty.int IntKind.i64).pair (Ty.int IntKind.i64))).zero)).length - (IntKind.i64.wrap (i + (1 : Int))).toNat) && decide ((IntKind.i64.wrap (i + (1 : Int))).toNat + (List.drop i.toNat xs).length ≤ (List.take i.toNat (List.take i.toNat xs ++ List.replicate (IntKind.i64.wrap (IntKind.i64.wrap ((↑xs.length : Int) + (1 : Int)) - i)).toNat ((Ty.int IntKind.i64).pair ((Ty.int IntKind.i64).pair (Ty.int IntKind.i64))).zero) ++ [r] ++ List.drop (i.toNat + 1) (List.take i.toNat xs ++ List.replicate (IntKind.i64.wrap (IntKind.i64.wrap ((↑xs.length : Int) + (1 : Int)) - i)).toNat ((Ty.int IntKind.i64).pair ((Ty.int IntKind.i64).pair (Ty.int IntKind.i64))).zero)).length) then K Ex.ret { slots := [(6, AV.hw 3), (55, AV.hw 3), (54, AV.int IntKind.i64 (↑(List.drop i.toNat xs).length : Int)), (53, AV.vl ((Ty.int IntKind.i64).pair ((Ty.int IntKind.i64).pair (Ty.int IntKind.i64))) (List.drop i.toNat xs)), (52, AV.int IntKind.i64 i), (51, AV.vl ((Ty.int IntKind.i64).pair ((Ty.int IntKind.i64).pair (Ty.int IntKind.i64))) xs), (50, AV.hs 3 (IntKind.i64.wrap (i + (1 : Int))).toNat ((List.take i.toNat (List.take i.toNat xs ++ List.replicate (IntKind.i64.wrap (IntKind.i64.wrap ((↑xs.length : Int) + (1 : Int)) - i)).toNat ((Ty.int IntKind.i64).pair ((Ty.int IntKind.i64).pair (Ty.int IntKind.i64))).zero) ++ [r] ++ List.drop (i.toNat + 1) (List.take i.toNat xs ++ List.replicate (IntKind.i64.wrap (IntKind.i64.wrap ((↑xs.length : Int) + (1 : Int)) - i)).toNat ((Ty.int IntKind.i64).pair ((Ty.int IntKind.i64).pair (Ty.int IntKind.i64))).zero)).length - (IntKind.i64.wrap (i + (1 : Int))).toNat)), (49, AV.int IntKind.i64 (IntKind.i64.wrap (i + (1 : Int)))), (48, AV.int IntKind.i64 (1 : Int)), (47, AV.int IntKind.i64 i), (46, AV.hw 3), (45, AV.int IntKind.i64 (1 : Int)), (44, AV.hw 1), (43, AV.hs 3 i.toNat ((List.take i.toNat xs ++ List.replicate (IntKind.i64.wrap (IntKind.i64.wrap ((↑xs.length : Int) + (1 : Int)) - i)).toNat ((Ty.int IntKind.i64).pair ((Ty.int IntKind.i64).pair (Ty.int IntKind.i64))).zero).length - i.toNat)), (42, AV.int IntKind.i64 i), (41, AV.hw 3), (9, AV.hw 3), (40, AV.hw 3), (39, AV.int IntKind.i64 (IntKind.i64.wrap (IntKind.i64.wrap ((↑xs.length : Int) + (1 : Int)) - i))), (38, AV.int IntKind.i64 i), (37, AV.int IntKind.i64 (IntKind.i64.wrap ((↑xs.length : Int) + (1 : Int)))), (36, AV.int IntKind.i64 (1 : Int)), (35, AV.int IntKind.i64 (↑xs.length : Int)), (34, AV.hc 0 0 i.toNat c), (33, AV.int IntKind.i64 i), (32, AV.hc 0 0 xs.length c), (31, AV.bool (decide (IntKind.i64.wrap ((↑xs.length : Int) + (1 : Int)) > (↑c : Int)))), (30, AV.int IntKind.i64 (↑c : Int)), (29, AV.hc 0 0 xs.length c), (28, AV.int IntKind.i64 (IntKind.i64.wrap ((↑xs.length : Int) + (1 : Int)))), (27, AV.int IntKind.i64 (1 : Int)), (26, AV.int IntKind.i64 (↑xs.length : Int)), (22, AV.bool (i == (↑xs.length : Int))), (21, AV.int IntKind.i64 (↑xs.length : Int)), (20, AV.int IntKind.i64 i), (8, AV.int IntKind.i64 (↑xs.length : Int)), (19, AV.int IntKind.i64 (↑xs.length : Int)), (18, AV.hc 0 0 xs.length c), (16, AV.bool false), (15, AV.int IntKind.i64 (1 : Int)), (7, AV.int IntKind.i64 (1 : Int)), (14, AV.int IntKind.i64 (1 : Int)), (13, AV.hw 1), (12, AV.hc 0 i.toNat (xs.length - i.toNat) (cutCap c (some i.toNat))), (11, AV.int IntKind.i64 i), (10, AV.hc 0 0 xs.length c), (6, AV.hw 2), (0, AV.hc 0 0 xs.length c), (1, AV.int IntKind.i64 i), (2, AV.hw 1)], objs := [(3, AObj.arr 3 ((Ty.int IntKind.i64).pair ((Ty.int IntKind.i64).pair (Ty.int IntKind.i64))) (List.take (IntKind.i64.wrap (i + (1 : Int))).toNat (List.take i.toNat (List.take i.toNat xs ++ List.replicate (IntKind.i64.wrap (IntKind.i64.wrap ((↑xs.length : Int) + (1 : Int)) - i)).toNat ((Ty.int IntKind.i64).pair ((Ty.int IntKind.i64).pair (Ty.int IntKind.i64))).zero) ++ [r] ++ List.drop (i.toNat + 1) (List.take i.toNat xs ++ List.replicate (IntKind.i64.wrap (IntKind.i64.wrap ((↑xs.length : Int) + (1 : Int)) - i)).toNat ((Ty.int IntKind.i64).pair ((Ty.int IntKind.i64).pair (Ty.int IntKind.i64))).zero)) ++ List.drop i.toNat xs ++ List.drop ((IntKind.i64.wrap (i + (1 : Int))).toNat + (List.drop i.toNat xs).length) (List.take i.toNat (List.take i.toNat xs ++ List.replicate (IntKind.i64.wrap (IntKind.i64.wrap ((↑xs.length : Int) + (1 : Int)) - i)).toNat ((Ty.int IntKind.i64).pair ((Ty.int IntKind.i64).pair (Ty.int IntKind.i64))).zero) ++ [r] ++ List.drop (i.toNat + 1) (List.take i.toNat xs ++ List.replicate (IntKind.i64.wrap (IntKind.i64.wrap ((↑xs.length : Int) + (1 : Int)) - i)).toNat ((Ty.int IntKind.i64).pair ((Ty.int IntKind.i64).pair (Ty.int IntKind.i64))).zero))) []), (0, AObj.dead), (3, AObj.arr 3 ((Ty.int IntKind.i64).pair ((Ty.int IntKind.i64).pair (Ty.int IntKind.i64))) (List.take i.toNat (List.take i.toNat xs ++ List.replicate (IntKind.i64.wrap (IntKind.i64.wrap ((↑xs.length : Int) + (1 : Int)) - i)).toNat ((Ty.int IntKind.i64).pair ((Ty.int IntKind.i64).pair (Ty.int IntKind.i64))).zero) ++ [r] ++ List.drop (i.toNat + 1) (List.take i.toNat xs ++ List.replicate (IntKind.i64.wrap (IntKind.i64.wrap ((↑xs.length : Int) + (1 : Int)) - i)).toNat ((Ty.int IntKind.i64).pair ((Ty.int IntKind.i64).pair (Ty.int IntKind.i64))).zero)) []), (3, AObj.arr 3 ((Ty.int IntKind.i64).pair ((Ty.int IntKind.i64).pair (Ty.int IntKind.i64))) (List.take i.toNat xs ++ List.replicate (IntKind.i64.wrap (IntKind.i64.wrap ((↑xs.length : Int) + (1 : Int)) - i)).toNat ((Ty.int IntKind.i64).pair ((Ty.int IntKind.i64).pair (Ty.int IntKind.i64))).zero) []), (2, AObj.arr 3 ((Ty.int IntKind.i64).pair ((Ty.int IntKind.i64).pair (Ty.int IntKind.i64))) [] []), (0, AObj.arr 3 ((Ty.int IntKind.i64).pair ((Ty.int IntKind.i64).pair (Ty.int IntKind.i64))) xs []), (1, AObj.arr 3 Ty.bool [] [[AV.int IntKind.i64 r.fst, AV.int IntKind.i64 r.snd.fst, AV.int IntKind.i64 r.snd.snd]])], nx := 4 } else none else none else none else none else none else none else none else bif decide (i = (↑xs.length : Int) + (1 : Int)) && decide (xs.length + 1 ≤ c) && decide (0 + xs.length = xs.length) && decide (xs.length < 9223372036854775807) && true then none else none else K Ex.normal { slots := [(31, AV.bool (decide (IntKind.i64.wrap ((↑xs.length : Int) + (1 : Int)) > (↑c : Int)))), (30, AV.int IntKind.i64 (↑c : Int)), (29, AV.hc 0 0 xs.length c), (28, AV.int IntKind.i64 (IntKind.i64.wrap ((↑xs.length : Int) + (1 : Int)))), (27, AV.int IntKind.i64 (1 : Int)), (26, AV.int IntKind.i64 (↑xs.length : Int)), (22, AV.bool (i == (↑xs.length : Int))), (21, AV.int IntKind.i64 (↑xs.length : Int)), (20, AV.int IntKind.i64 i), (8, AV.int IntKind.i64 (↑xs.length : Int)), (19, AV.int IntKind.i64 (↑xs.length : Int)), (18, AV.hc 0 0 xs.length c), (16, AV.bool false), (15, AV.int IntKind.i64 (1 : Int)), (7, AV.int IntKind.i64 (1 : Int)), (14, AV.int IntKind.i64 (1 : Int)), (13, AV.hw 1), (12, AV.hc 0 i.toNat (xs.length - i.toNat) (cutCap c (some i.toNat))), (11, AV.int IntKind.i64 i), (10, AV.hc 0 0 xs.length c), (6, AV.hw 2), (0, AV.hc 0 0 xs.length c), (1, AV.int IntKind.i64 i), (2, AV.hw 1)], objs := [(2, AObj.arr 3 ((Ty.int IntKind.i64).pair ((Ty.int IntKind.i64).pair (Ty.int IntKind.i64))) [] []), (0, AObj.arr 3 ((Ty.int IntKind.i64).pair ((Ty.int IntKind.i64).pair (Ty.int IntKind.i64))) xs []), (1, AObj.arr 3 Ty.bool [] [[AV.int IntKind.i64 r.fst, AV.int IntKind.i64 r.snd.fst, AV.int IntKind.i64 r.snd.snd]])], nx := 3 } else none := by kernel_rfl

end Go.Sim.XD
namespace Go.Sim.XD
set_option linter.unusedSimpArgs false
set_option linter.unusedVariables false
set_option maxRecDepth 10000
def insR1 (xs : List Row3) (i : Int) (r : Row3) (c : Nat) : St := { slots := [(6, AV.hw 3), (25, AV.hw 3), (24, AV.hw 1), (23, AV.hc 0 0 xs.length c), (22, AV.bool (i == (↑xs.length : Int))), (21, AV.int IntKind.i64 (↑xs.length : Int)), (20, AV.int IntKind.i64 i), (8, AV.int IntKind.i64 (↑xs.length : Int)), (19, AV.int IntKind.i64 (↑xs.length : Int)), (18, AV.hc 0 0 xs.length c), (16, AV.bool false), (15, AV.int IntKind.i64 (1 : Int)), (7, AV.int IntKind.i64 (1 : Int)), (14, AV.int IntKind.i64 (1 : Int)), (13, AV.hw 1), (12, AV.hc 0 i.toNat (xs.length - i.toNat) (cutCap c (some i.toNat))), (11, AV.int IntKind.i64 i), (10, AV.hc 0 0 xs.length c), (6, AV.hw 2), (0, AV.hc 0 0 xs.length c), (1, AV.int IntKind.i64 i), (2, AV.hw 1)], objs := [(3, AObj.arr 3 ((Ty.int IntKind.i64).pair ((Ty.int IntKind.i64).pair (Ty.int IntKind.i64))) (List.take xs.length xs ++ [r]) []), (0, AObj.dead), (2, AObj.arr 3 ((Ty.int IntKind.i64).pair ((Ty.int IntKind.i64).pair (Ty.int IntKind.i64))) [] []), (0, AObj.arr 3 ((Ty.int IntKind.i64).pair ((Ty.int IntKind.i64).pair (Ty.int IntKind.i64))) xs []), (1, AObj.arr 3 Ty.bool [] [[AV.int IntKind.i64 r.fst, AV.int IntKind.i64 r.snd.fst, AV.int IntKind.i64 r.snd.snd]])], nx := 4 }
def insR2 (xs : List Row3) (i : Int) (r : Row3) (c : Nat) : St := { slots := [(6, AV.hw 3), (55, AV.hw 3), (54, AV.int IntKind.i64 (↑(List.drop i.toNat xs).length : Int)), (53, AV.vl ((Ty.int IntKind.i64).pair ((Ty.int IntKind.i64).pair (Ty.int IntKind.i64))) (List.drop i.toNat xs)), (52, AV.int IntKind.i64 i), (51, AV.vl ((Ty.int IntKind.i64).pair ((Ty.int IntKind.i64).pair (Ty.int IntKind.i64))) xs), (50, AV.hs 3 (IntKind.i64.wrap (i + (1 : Int))).toNat ((List.take i.toNat (List.take i.toNat xs ++ List.replicate (IntKind.i64.wrap (IntKind.i64.wrap ((↑xs.length : Int) + (1 : Int)) - i)).toNat ((Ty.int IntKind.i64).pair ((Ty.int IntKind.i64).pair (Ty.int IntKind.i64))).zero) ++ [r] ++ List.drop (i.toNat + 1) (List.take i.toNat xs ++ List.replicate (IntKind.i64.wrap (IntKind.i64.wrap ((↑xs.length : Int) + (1 : Int)) - i)).toNat ((Ty.int IntKind.i64).pair ((Ty.int IntKind.i64).pair (Ty.int IntKind.i64))).zero)).length - (IntKind.i64.wrap (i + (1 : Int))).toNat)), (49, AV.int IntKind.i64 (IntKind.i64.wrap (i + (1 : Int)))), (48, AV.int IntKind.i64 (1 : Int)), (47, AV.int IntKind.i64 i), (46, AV.hw 3), (45, AV.int IntKind.i64 (1 : Int)), (44, AV.hw 1), (43, AV.hs 3 i.toNat ((List.take i.toNat xs ++ List.replicate (IntKind.i64.wrap (IntKind.i64.wrap ((↑xs.length : Int) + (1 : Int)) - i)).toNat ((Ty.int IntKind.i64).pair ((Ty.int IntKind.i64).pair (Ty.int IntKind.i64))).zero).length - i.toNat)), (42, AV.int IntKind.i64 i), (41, AV.hw 3), (9, AV.hw 3), (40, AV.hw 3), (39, AV.int IntKind.i64 (IntKind.i64.wrap (IntKind.i64.wrap ((↑xs.length : Int) + (1 : Int)) - i))), (38, AV.int IntKind.i64 i), (37, AV.int IntKind.i64 (IntKind.i64.wrap ((↑xs.length : Int) + (1 : Int)))), (36, AV.int IntKind.i64 (1 : Int)), (35, AV.int IntKind.i64 (↑xs.length : Int)), (34, AV.hc 0 0 i.toNat c), (33, AV.int IntKind.i64 i), (32, AV.hc 0 0 xs.length c), (31, AV.bool (decide (IntKind.i64.wrap ((↑xs.length : Int) + (1 : Int)) > (↑c : Int)))), (30, AV.int IntKind.i64 (↑c : Int)), (29, AV.hc 0 0 xs.length c), (28, AV.int IntKind.i64 (IntKind.i64.wrap ((↑xs.length : Int) + (1 : Int)))), (27, AV.int IntKind.i64 (1 : Int)), (26, AV.int IntKind.i64 (↑xs.length : Int)), (22, AV.bool (i == (↑xs.length : Int))), (21, AV.int IntKind.i64 (↑xs.length : Int)), (20, AV.int IntKind.i64 i), (8, AV.int IntKind.i64 (↑xs.length : Int)), (19, AV.int IntKind.i64 (↑xs.length : Int)), (18, AV.hc 0 0 xs.length c), (16, AV.bool false), (15, AV.int IntKind.i64 (1 : Int)), (7, AV.int IntKind.i64 (1 : Int)), (14, AV.int IntKind.i64 (1 : Int)), (13, AV.hw 1), (12, AV.hc 0 i.toNat (xs.length - i.toNat) (cutCap c (some i.toNat))), (11, AV.int IntKind.i64 i), (10, AV.hc 0 0 xs.length c), (6, AV.hw 2), (0, AV.hc 0 0 xs.length c), (1, AV.int IntKind.i64 i), (2, AV.hw 1)], objs := [(3, AObj.arr 3 ((Ty.int IntKind.i64).pair ((Ty.int IntKind.i64).pair (Ty.int IntKind.i64))) (List.take (IntKind.i64.wrap (i + (1 : Int))).toNat (List.take i.toNat (List.take i.toNat xs ++ List.replicate (IntKind.i64.wrap (IntKind.i64.wrap ((↑xs.length : Int) + (1 : Int)) - i)).toNat ((Ty.int IntKind.i64).pair ((Ty.int IntKind.i64).pair (Ty.int IntKind.i64))).zero) ++ [r] ++ List.drop (i.toNat + 1) (List.take i.toNat xs ++ List.replicate (IntKind.i64.wrap (IntKind.i64.wrap ((↑xs.length : Int) + (1 : Int)) - i)).toNat ((Ty.int IntKind.i64).pair ((Ty.int IntKind.i64).pair (Ty.int IntKind.i64))).zero)) ++ List.drop i.toNat xs ++ List.drop ((IntKind.i64.wrap (i + (1 : Int))).toNat + (List.drop i.toNat xs).length) (List.take i.toNat (List.take i.toNat xs ++ List.replicate (IntKind.i64.wrap (IntKind.i64.wrap ((↑xs.length : Int) + (1 : Int)) - i)).toNat ((Ty.int IntKind.i64).pair ((Ty.int IntKind.i64).pair (Ty.int IntKind.i64))).zero) ++ [r] ++ List.drop (i.toNat + 1) (List.take i.toNat xs ++ List.replicate (IntKind.i64.wrap (IntKind.i64.wrap ((↑xs.length : Int) + (1 : Int)) - i)).toNat ((Ty.int IntKind.i64).pair ((Ty.int IntKind.i64).pair (Ty.int IntKind.i64))).zero))) []), (0, AObj.dead), (3, AObj.arr 3 ((Ty.int IntKind.i64).pair ((Ty.int IntKind.i64).pair (Ty.int IntKind.i64))) (List.take i.toNat (List.take i.toNat xs ++ List.replicate (IntKind.i64.wrap (IntKind.i64.wrap ((↑xs.length : Int) + (1 : Int)) - i)).toNat ((Ty.int IntKind.i64).pair ((Ty.int IntKind.i64).pair (Ty.int IntKind.i64))).zero) ++ [r] ++ List.drop (i.toNat + 1) (List.take i.toNat xs ++ List.replicate (IntKind.i64.wrap (IntKind.i64.wrap ((↑xs.length : Int) + (1 : Int)) - i)).toNat ((Ty.int IntKind.i64).pair ((Ty.int IntKind.i64).pair (Ty.int IntKind.i64))).zero)) []), (3, AObj.arr 3 ((Ty.int IntKind.i64).pair ((Ty.int IntKind.i64).pair (Ty.int IntKind.i64))) (List.take i.toNat xs ++ List.replicate (IntKind.i64.wrap (IntKind.i64.wrap ((↑xs.length : Int) + (1 : Int)) - i)).toNat ((Ty.int IntKind.i64).pair ((Ty.int IntKind.i64).pair (Ty.int IntKind.i64))).zero) []), (2, AObj.arr 3 ((Ty.int IntKind.i64).pair ((Ty.int IntKind.i64).pair (Ty.int IntKind.i64))) [] []), (0, AObj.arr 3 ((Ty.int IntKind.i64).pair ((Ty.int IntKind.i64).pair (Ty.int IntKind.i64))) xs []), (1, AObj.arr 3 Ty.bool [] [[AV.int IntKind.i64 r.fst, AV.int IntKind.i64 r.snd.fst, AV.int IntKind.i64 r.snd.snd]])], nx := 4 }
def insN (xs : List Row3) (i : Int) (r : Row3) (c : Nat) : St := { slots := [(31, AV.bool (decide (IntKind.i64.wrap ((↑xs.length : Int) + (1 : Int)) > (↑c : Int)))), (30, AV.int IntKind.i64 (↑c : Int)), (29, AV.hc 0 0 xs.length c), (28, AV.int IntKind.i64 (IntKind.i64.wrap ((↑xs.length : Int) + (1 : Int)))), (27, AV.int IntKind.i64 (1 : Int)), (26, AV.int IntKind.i64 (↑xs.length : Int)), (22, AV.bool (i == (↑xs.length : Int))), (21, AV.int IntKind.i64 (↑xs.length : Int)), (20, AV.int IntKind.i64 i), (8, AV.int IntKind.i64 (↑xs.length : Int)), (19, AV.int IntKind.i64 (↑xs.length : Int)), (18, AV.hc 0 0 xs.length c), (16, AV.bool false), (15, AV.int IntKind.i64 (1 : Int)), (7, AV.int IntKind.i64 (1 : Int)), (14, AV.int IntKind.i64 (1 : Int)), (13, AV.hw 1), (12, AV.hc 0 i.toNat (xs.length - i.toNat) (cutCap c (some i.toNat))), (11, AV.int IntKind.i64 i), (10, AV.hc 0 0 xs.length c), (6, AV.hw 2), (0, AV.hc 0 0 xs.length c), (1, AV.int IntKind.i64 i), (2, AV.hw 1)], objs := [(2, AObj.arr 3 ((Ty.int IntKind.i64).pair ((Ty.int IntKind.i64).pair (Ty.int IntKind.i64))) [] []), (0, AObj.arr 3 ((Ty.int IntKind.i64).pair ((Ty.int IntKind.i64).pair (Ty.int IntKind.i64))) xs []), (1, AObj.arr 3 Ty.bool [] [[AV.int IntKind.i64 r.fst, AV.int IntKind.i64 r.snd.fst, AV.int IntKind.i64 r.snd.snd]])], nx := 3 }
theorem ins2_ev {R : Type} (xs : List Row3) (i : Int) (r : Row3) (c : Nat) (K : Ex → St → Option R) : ev (env consA3) H.ins2 2 (LPof []) (preC 1 (sufC 7 B.slices_Insert_dedup_Row_dedup_Row)) (insN xs i r c) K = bif decide ((0 : Int) ≤ IntKind.i64.wrap ((↑xs.length : Int) + (1 : Int))) && decide (IntKind.i64.wrap ((↑xs.length : Int) + (1 : Int)) ≤ (↑xs.length : Int)) then K Ex.normal { slots := [(0, AV.hc 0 0 (IntKind.i64.wrap ((↑xs.length : Int) + (1 : Int))).toNat c), (60, AV.hc 0 0 (IntKind.i64.wrap ((↑xs.length : Int) + (1 : Int))).toNat c), (59, AV.int IntKind.i64 (IntKind.i64.wrap ((↑xs.length : Int) + (1 : Int)))), (58, AV.int IntKind.i64 (1 : Int)), (57, AV.int IntKind.i64 (↑xs.length : Int)), (56, AV.hc 0 0 xs.length c), (31, AV.bool (decide (IntKind.i64.wrap ((↑xs.length : Int) + (1 : Int)) > (↑c : Int)))), (30, AV.int IntKind.i64 (↑c : Int)), (29, AV.hc 0 0 xs.length c), (28, AV.int IntKind.i64 (IntKind.i64.wrap ((↑xs.length : Int) + (1 : Int)))), (27, AV.int IntKind.i64 (1 : Int)), (26, AV.int IntKind.i64 (↑xs.length : Int)), (22, AV.bool (i == (↑xs.length : Int))), (21, AV.int IntKind.i64 (↑xs.length : Int)), (20, AV.int IntKind.i64 i), (8, AV.int IntKind.i64 (↑xs.length : Int)), (19, AV.int IntKind.i64 (↑xs.length : Int)), (18, AV.hc 0 0 xs.length c), (16, AV.bool false), (15, AV.int IntKind.i64 (1 : Int)), (7, AV.int IntKind.i64 (1 : Int)), (14, AV.int IntKind.i64 (1 : Int)), (13, AV.hw 1), (12, AV.hc 0 i.toNat (xs.length - i.toNat) (cutCap c (some i.toNat))), (11, AV.int IntKind.i64 i), (10, AV.hc 0 0 xs.length c), (6, AV.hw 2), (0, AV.hc 0 0 xs.length c), (1, AV.int IntKind.i64 i), (2, AV.hw 1)], objs := [(2, AObj.arr 3 ((Ty.int IntKind.i64).pair ((Ty.int IntKind.i64).pair (Ty.int IntKind.i64))) [] []), (0, AObj.arr 3 ((Ty.int IntKind.i64).pair ((Ty.int IntKind.i64).pair (Ty.int IntKind.i64))) xs []), (1, AObj.arr 3 Ty.bool [] [[AV.int IntKind.i64 r.fst, AV.int IntKind.i64 r.snd.fst, AV.int IntKind.i64 r.snd.snd]])], nx := 3 } else bif decide (IntKind.i64.wrap ((↑xs.length : Int) + (1 : Int)) = (↑xs.length : Int) + (1 : Int)) && decide (xs.length + 1 ≤ c) && decide (0 + xs.length = xs.length) && decide (xs.length < 9223372036854775807) && true then K Ex.normal { slots := [(0, AV.hc 3 0 (xs.length + 1) c), (60, AV.hc 3 0 (xs.length + 1) c), (59, AV.int IntKind.i64 (IntKind.i64.wrap ((↑xs.length : Int) + (1 : Int)))), (58, AV.int IntKind.i64 (1 : Int)), (57, AV.int IntKind.i64 (↑xs.length : Int)), (56, AV.hc 0 0 xs.length c), (31, AV.bool (decide (IntKind.i64.wrap ((↑xs.length : Int) + (1 : Int)) > (↑c : Int)))), (30, AV.int IntKind.i64 (↑c : Int)), (29, AV.hc 0 0 xs.length c), (28, AV.int IntKind.i64 (IntKind.i64.wrap ((↑xs.length : Int) + (1 : Int)))), (27, AV.int IntKind.i64 (1 : Int)), (26, AV.int IntKind.i64 (↑xs.length : Int)), (22, AV.bool (i == (↑xs.length : Int))), (21, AV.int IntKind.i64 (↑xs.length : Int)), (20, AV.int IntKind.i64 i), (8, AV.int IntKind.i64 (↑xs.length : Int)), (19, AV.int IntKind.i64 (↑xs.length : Int)), (18, AV.hc 0 0 xs.length c), (16, AV.bool false), (15, AV.int IntKind.i64 (1 : Int)), (7, AV.int IntKind.i64 (1 : Int)), (14, AV.int IntKind.i64 (1 : Int)), (13, AV.hw 1), (12, AV.hc 0 i.toNat (xs.length - i.toNat) (cutCap c (some i.toNat))), (11, AV.int IntKind.i64 i), (10, AV.hc 0 0 xs.length c), (6, AV.hw 2), (0, AV.hc 0 0 xs.length c), (1, AV.int IntKind.i64 i), (2, AV.hw 1)], objs := [(3, AObj.arr 3 ((Ty.int IntKind.i64).pair ((Ty.int IntKind.i64).pair (Ty.int IntKind.i64))) xs [[AV.undef, AV.undef, AV.undef]]), (0, AObj.dead), (2, AObj.arr 3 ((Ty.int IntKind.i64).pair ((Ty.int IntKind.i64).pair (Ty.int IntKind.i64))) [] []), (0, AObj.arr 3 ((Ty.int IntKind.i64).pair ((Ty.int IntKind.i64).pair (Ty.int IntKind.i64))) xs []), (1, AObj.arr 3 Ty.bool [] [[AV.int IntKind.i64 r.fst, AV.int IntKind.i64 r.snd.fst, AV.int IntKind.i64 r.snd.snd]])], nx := 4 } else none := by kernel_rfl

end Go.Sim.XD
namespace Go.Sim.XD
set_option linter.unusedSimpArgs false
set_option linter.unusedVariables false
set_option maxRecDepth 10000
def insM (xs : List Row3) (i : Int) (r : Row3) (c : Nat) : St := { slots := [(0, AV.hc 3 0 (xs.length + 1) c), (60, AV.hc 3 0 (xs.length + 1) c), (59, AV.int IntKind.i64 (IntKind.i64.wrap ((↑xs.length : Int) + (1 : Int)))), (58, AV.int IntKind.i64 (1 : Int)), (57, AV.int IntKind.i64 (↑xs.length : Int)), (56, AV.hc 0 0 xs.length c), (31, AV.bool (decide (IntKind.i64.wrap ((↑xs.length : Int) + (1 : Int)) > (↑c : Int)))), (30, AV.int IntKind.i64 (↑c : Int)), (29, AV.hc 0 0 xs.length c), (28, AV.int IntKind.i64 (IntKind.i64.wrap ((↑xs.length : Int) + (1 : Int)))), (27, AV.int IntKind.i64 (1 : Int)), (26, AV.int IntKind.i64 (↑xs.length : Int)), (22, AV.bool (i == (↑xs.length : Int))), (21, AV.int IntKind.i64 (↑xs.length : Int)), (20, AV.int IntKind.i64 i), (8, AV.int IntKind.i64 (↑xs.length : Int)), (19, AV.int IntKind.i64 (↑xs.length : Int)), (18, AV.hc 0 0 xs.length c), (16, AV.bool false), (15, AV.int IntKind.i64 (1 : Int)), (7, AV.int IntKind.i64 (1 : Int)), (14, AV.int IntKind.i64 (1 : Int)), (13, AV.hw 1), (12, AV.hc 0 i.toNat (xs.length - i.toNat) (cutCap c (some i.toNat))), (11, AV.int IntKind.i64 i), (10, AV.hc 0 0 xs.length c), (6, AV.hw 2), (0, AV.hc 0 0 xs.length c), (1, AV.int IntKind.i64 i), (2, AV.hw 1)], objs := [(3, AObj.arr 3 ((Ty.int IntKind.i64).pair ((Ty.int IntKind.i64).pair (Ty.int IntKind.i64))) xs [[AV.undef, AV.undef, AV.undef]]), (0, AObj.dead), (2, AObj.arr 3 ((Ty.int IntKind.i64).pair ((Ty.int IntKind.i64).pair (Ty.int IntKind.i64))) [] []), (0, AObj.arr 3 ((Ty.int IntKind.i64).pair ((Ty.int IntKind.i64).pair (Ty.int IntKind.i64))) xs []), (1, AObj.arr 3 Ty.bool [] [[AV.int IntKind.i64 r.fst, AV.int IntKind.i64 r.snd.fst, AV.int IntKind.i64 r.snd.snd]])], nx := 4 }
theorem ins3_ev {R : Type} (xs : List Row3) (i : Int) (r : Row3) (c : Nat) (K : Ex → St → Option R) : ev (env consA3) H.ins2 2 (LPof []) (sufC 8 B.slices_Insert_dedup_Row_dedup_Row) (insM xs i r c) K = bif decide ((0 : Int) ≤ IntKind.i64.wrap (i + (1 : Int))) && decide (IntKind.i64.wrap (i + (1 : Int)) ≤ (↑(xs.length + 1) : Int)) then bif decide (0 < cutCap c (some (IntKind.i64.wrap (i + (1 : Int))).toNat)) then bif decide ((0 : Int) ≤ IntKind.i64.wrap (i + (1 : Int))) && decide (IntKind.i64.wrap (i + (1 : Int)) ≤ (↑(xs.length + 1) : Int)) then bif decide ((0 : Int) ≤ i) && decide (i ≤ (↑(xs.length + 1) : Int)) then bif decide ((IntKind.i64.wrap (i + (1 : Int))).toNat + (xs.length + 1 - (IntKind.i64.wrap (i + (1 : Int))).toNat) = xs.length + 1) && decide ((IntKind.i64.wrap (i + (1 : Int))).toNat ≤ xs.length) && decide (i.toNat + (xs.length + 1 - (IntKind.i64.wrap (i + (1 : Int))).toNat) ≤ xs.length) && decide (xs.length + 1 - (IntKind.i64.wrap (i + (1 : Int))).toNat ≤ xs.length + 1 - i.toNat) then bif decide ((0 : Int) ≤ i) && decide (i ≤ (↑(xs.length + 1) : Int)) then bif decide (1 ≤ xs.length + 1 - i.toNat) && decide (i.toNat + 1 ≤ (List.take xs.length (List.take (IntKind.i64.wrap (i + (1 : Int))).toNat xs ++ List.take (xs.length + 1 - (IntKind.i64.wrap (i + (1 : Int))).toNat) (List.drop i.toNat xs))).length) then bif decide (xs.length + 1 = (List.take i.toNat (List.take xs.length (List.take (IntKind.i64.wrap (i + (1 : Int))).toNat xs ++ List.take (xs.length + 1 - (IntKind.i64.wrap (i + (1 : Int))).toNat) (List.drop i.toNat xs))) ++ [r] ++ List.drop (i.toNat + 1) (List.take xs.length (List.take (IntKind.i64.wrap (i + (1 : Int))).toNat xs ++ List.take (xs.length + 1 - (IntKind.i64.wrap (i + (1 : Int))).toNat) (List.drop i.toNat xs)))).length + 1) && decide (0 < c) then K Ex.ret { slots := [(6, AV.hw 4), (83, AV.hw 3), (82, AV.int IntKind.i64 (1 : Int)), (81, AV.hw 1), (80, AV.hc 3 i.toNat (xs.length + 1 - i.toNat) (cutCap c (some i.toNat))), (79, AV.int IntKind.i64 i), (78, AV.hc 3 0 (xs.length + 1) c), (77, AV.int IntKind.i64 (↑(xs.length + 1 - (IntKind.i64.wrap (i + (1 : Int))).toNat) : Int)), (76, AV.hc 3 i.toNat (xs.length + 1 - i.toNat) (cutCap c (some i.toNat))), (75, AV.int IntKind.i64 i), (74, AV.hc 3 0 (xs.length + 1) c), (73, AV.hc 3 (IntKind.i64.wrap (i + (1 : Int))).toNat (xs.length + 1 - (IntKind.i64.wrap (i + (1 : Int))).toNat) (cutCap c (some (IntKind.i64.wrap (i + (1 : Int))).toNat))), (72, AV.int IntKind.i64 (IntKind.i64.wrap (i + (1 : Int)))), (71, AV.int IntKind.i64 (1 : Int)), (70, AV.int IntKind.i64 i), (69, AV.hc 3 0 (xs.length + 1) c), (68, AV.bool true), (67, AV.bool false), (66, AV.hc 3 (IntKind.i64.wrap (i + (1 : Int))).toNat (xs.length + 1 - (IntKind.i64.wrap (i + (1 : Int))).toNat) (cutCap c (some (IntKind.i64.wrap (i + (1 : Int))).toNat))), (65, AV.int IntKind.i64 (IntKind.i64.wrap (i + (1 : Int)))), (64, AV.int IntKind.i64 (1 : Int)), (63, AV.int IntKind.i64 i), (62, AV.hc 3 0 (xs.length + 1) c), (61, AV.hw 1), (0, AV.hc 3 0 (xs.length + 1) c), (60, AV.hc 3 0 (xs.length + 1) c), (59, AV.int IntKind.i64 (IntKind.i64.wrap ((↑xs.length : Int) + (1 : Int)))), (58, AV.int IntKind.i64 (1 : Int)), (57, AV.int IntKind.i64 (↑xs.length : Int)), (56, AV.hc 0 0 xs.length c), (31, AV.bool (decide (IntKind.i64.wrap ((↑xs.length : Int) + (1 : Int)) > (↑c : Int)))), (30, AV.int IntKind.i64 (↑c : Int)), (29, AV.hc 0 0 xs.length c), (28, AV.int IntKind.i64 (IntKind.i64.wrap ((↑xs.length : Int) + (1 : Int)))), (27, AV.int IntKind.i64 (1 : Int)), (26, AV.int IntKind.i64 (↑xs.length : Int)), (22, AV.bool (i == (↑xs.length : Int))), (21, AV.int IntKind.i64 (↑xs.length : Int)), (20, AV.int IntKind.i64 i), (8, AV.int IntKind.i64 (↑xs.length : Int)), (19, AV.int IntKind.i64 (↑xs.length : Int)), (18, AV.hc 0 0 xs.length c), (16, AV.bool false), (15, AV.int IntKind.i64 (1 : Int)), (7, AV.int IntKind.i64 (1 : Int)), (14, AV.int IntKind.i64 (1 : Int)), (13, AV.hw 1), (12, AV.hc 0 i.toNat (xs.length - i.toNat) (cutCap c (some i.toNat))), (11, AV.int IntKind.i64 i), (10, AV.hc 0 0 xs.length c), (6, AV.hw 2), (0, AV.hc 0 0 xs.length c), (1, AV.int IntKind.i64 i), (2, AV.hw 1)], objs := [(4, AObj.arr 3 ((Ty.int IntKind.i64).pair ((Ty.int IntKind.i64).pair (Ty.int IntKind.i64))) (List.take i.toNat (List.take xs.length (List.take (IntKind.i64.wrap (i + (1 : Int))).toNat xs ++ List.take (xs.length + 1 - (IntKind.i64.wrap (i + (1 : Int))).toNat) (List.drop i.toNat xs))) ++ [r] ++ List.drop (i.toNat + 1) (List.take xs.length (List.take (IntKind.i64.wrap (i + (1 : Int))).toNat xs ++ List.take (xs.length + 1 - (IntKind.i64.wrap (i + (1 : Int))).toNat) (List.drop i.toNat xs))) ++ [(List.take (IntKind.i64.wrap (i + (1 : Int))).toNat xs ++ List.take (xs.length + 1 - (IntKind.i64.wrap (i + (1 : Int))).toNat) (List.drop i.toNat xs)).getD xs.length ((Ty.int IntKind.i64).pair ((Ty.int IntKind.i64).pair (Ty.int IntKind.i64))).zero]) []), (3, AObj.dead), (3, AObj.arr 3 ((Ty.int IntKind.i64).pair ((Ty.int IntKind.i64).pair (Ty.int IntKind.i64))) (List.take i.toNat (List.take xs.length (List.take (IntKind.i64.wrap (i + (1 : Int))).toNat xs ++ List.take (xs.length + 1 - (IntKind.i64.wrap (i + (1 : Int))).toNat) (List.drop i.toNat xs))) ++ [r] ++ List.drop (i.toNat + 1) (List.take xs.length (List.take (IntKind.i64.wrap (i + (1 : Int))).toNat xs ++ List.take (xs.length + 1 - (IntKind.i64.wrap (i + (1 : Int))).toNat) (List.drop i.toNat xs)))) [[AV.int IntKind.i64 ((List.take (IntKind.i64.wrap (i + (1 : Int))).toNat xs ++ List.take (xs.length + 1 - (IntKind.i64.wrap (i + (1 : Int))).toNat) (List.drop i.toNat xs)).getD xs.length ((Ty.int IntKind.i64).pair ((Ty.int IntKind.i64).pair (Ty.int IntKind.i64))).zero).fst, AV.int IntKind.i64 ((List.take (IntKind.i64.wrap (i + (1 : Int))).toNat xs ++ List.take (xs.length + 1 - (IntKind.i64.wrap (i + (1 : Int))).toNat) (List.drop i.toNat xs)).getD xs.length ((Ty.int IntKind.i64).pair ((Ty.int IntKind.i64).pair (Ty.int IntKind.i64))).zero).snd.fst, AV.int IntKind.i64 ((List.take (IntKind.i64.wrap (i + (1 : Int))).toNat xs ++ List.take (xs.length + 1 - (IntKind.i64.wrap (i + (1 : Int))).toNat) (List.drop i.toNat xs)).getD xs.length ((Ty.int IntKind.i64).pair ((Ty.int IntKind.i64).pair (Ty.int IntKind.i64))).zero).snd.snd]]), (3, AObj.arr 3 ((Ty.int IntKind.i64).pair ((Ty.int IntKind.i64).pair (Ty.int IntKind.i64))) (List.take xs.length (List.take (IntKind.i64.wrap (i + (1 : Int))).toNat xs ++ List.take (xs.length + 1 - (IntKind.i64.wrap (i + (1 : Int))).toNat) (List.drop i.toNat xs))) [[AV.int IntKind.i64 ((List.take (IntKind.i64.wrap (i + (1 : Int))).toNat xs ++ List.take (xs.length + 1 - (IntKind.i64.wrap (i + (1 : Int))).toNat) (List.drop i.toNat xs)).getD xs.length ((Ty.int IntKind.i64).pair ((Ty.int IntKind.i64).pair (Ty.int IntKind.i64))).zero).fst, AV.int IntKind.i64 ((List.take (IntKind.i64.wrap (i + (1 : Int))).toNat xs ++ List.take (xs.length + 1 - (IntKind.i64.wrap (i + (1 : Int))).toNat) (List.drop i.toNat xs)).getD xs.length ((Ty.int IntKind.i64).pair ((Ty.int IntKind.i64).pair (Ty.int IntKind.i64))).zero).snd.fst, AV.int IntKind.i64 ((List.take (IntKind.i64.wrap (i + (1 : Int))).toNat xs ++ List.take (xs.length + 1 - (IntKind.i64.wrap (i + (1 : Int))).toNat) (List.drop i.toNat xs)).getD xs.length ((Ty.int IntKind.i64).pair ((Ty.int IntKind.i64).pair (Ty.int IntKind.i64))).zero).snd.snd]]), (3, AObj.arr 3 ((Ty.int IntKind.i64).pair ((Ty.int IntKind.i64).pair (Ty.int IntKind.i64))) xs [[AV.undef, AV.undef, AV.undef]]), (0, AObj.dead), (2, AObj.arr 3 ((Ty.int IntKind.i64).pair ((Ty.int IntKind.i64).pair (Ty.int IntKind.i64))) [] []), (0, AObj.arr 3 ((Ty.int IntKind.i64).pair ((Ty.int IntKind.i64).pair (Ty.int IntKind.i64))) xs []), (1, AObj.arr 3 Ty.bool [] [[AV.int IntKind.i64 r.fst, AV.int IntKind.i64 r.snd.fst, AV.int IntKind.i64 r.snd.snd]])], nx := 5 } else none else none else none else none else none else none else none else none := by kernel_rfl

end Go.Sim.XD
namespace Go.Sim.XD
set_option linter.unusedSimpArgs false
set_option linter.unusedVariables false
set_option maxRecDepth 10000
def insR3 (xs : List Row3) (i : Int) (r : Row3) (c : Nat) : St := { slots := [(6, AV.hw 4), (83, AV.hw 3), (82, AV.int IntKind.i64 (1 : Int)), (81, AV.hw 1), (80, AV.hc 3 i.toNat (xs.length + 1 - i.toNat) (cutCap c (some i.toNat))), (79, AV.int IntKind.i64 i), (78, AV.hc 3 0 (xs.length + 1) c), (77, AV.int IntKind.i64 (↑(xs.length + 1 - (IntKind.i64.wrap (i + (1 : Int))).toNat) : Int)), (76, AV.hc 3 i.toNat (xs.length + 1 - i.toNat) (cutCap c (some i.toNat))), (75, AV.int IntKind.i64 i), (74, AV.hc 3 0 (xs.length + 1) c), (73, AV.hc 3 (IntKind.i64.wrap (i + (1 : Int))).toNat (xs.length + 1 - (IntKind.i64.wrap (i + (1 : Int))).toNat) (cutCap c (some (IntKind.i64.wrap (i + (1 : Int))).toNat))), (72, AV.int IntKind.i64 (IntKind.i64.wrap (i + (1 : Int)))), (71, AV.int IntKind.i64 (1 : Int)), (70, AV.int IntKind.i64 i), (69, AV.hc 3 0 (xs.length + 1) c), (68, AV.bool true), (67, AV.bool false), (66, AV.hc 3 (IntKind.i64.wrap (i + (1 : Int))).toNat (xs.length + 1 - (IntKind.i64.wrap (i + (1 : Int))).toNat) (cutCap c (some (IntKind.i64.wrap (i + (1 : Int))).toNat))), (65, AV.int IntKind.i64 (IntKind.i64.wrap (i + (1 : Int)))), (64, AV.int IntKind.i64 (1 : Int)), (63, AV.int IntKind.i64 i), (62, AV.hc 3 0 (xs.length + 1) c), (61, AV.hw 1), (0, AV.hc 3 0 (xs.length + 1) c), (60, AV.hc 3 0 (xs.length + 1) c), (59, AV.int IntKind.i64 (IntKind.i64.wrap ((↑xs.length : Int) + (1 : Int)))), (58, AV.int IntKind.i64 (1 : Int)), (57, AV.int IntKind.i64 (↑xs.length : Int)), (56, AV.hc 0 0 xs.length c), (31, AV.bool (decide (IntKind.i64.wrap ((↑xs.length : Int) + (1 : Int)) > (↑c : Int)))), (30, AV.int IntKind.i64 (↑c : Int)), (29, AV.hc 0 0 xs.length c), (28, AV.int IntKind.i64 (IntKind.i64.wrap ((↑xs.length : Int) + (1 : Int)))), (27, AV.int IntKind.i64 (1 : Int)), (26, AV.int IntKind.i64 (↑xs.length : Int)), (22, AV.bool (i == (↑xs.length : Int))), (21, AV.int IntKind.i64 (↑xs.length : Int)), (20, AV.int IntKind.i64 i), (8, AV.int IntKind.i64 (↑xs.length : Int)), (19, AV.int IntKind.i64 (↑xs.length : Int)), (18, AV.hc 0 0 xs.length c), (16, AV.bool false), (15, AV.int IntKind.i64 (1 : Int)), (7, AV.int IntKind.i64 (1 : Int)), (14, AV.int IntKind.i64 (1 : Int)), (13, AV.hw 1), (12, AV.hc 0 i.toNat (xs.length - i.toNat) (cutCap c (some i.toNat))), (11, AV.int IntKind.i64 i), (10, AV.hc 0 0 xs.length c), (6, AV.hw 2), (0, AV.hc 0 0 xs.length c), (1, AV.int IntKind.i64 i), (2, AV.hw 1)], objs := [(4, AObj.arr 3 ((Ty.int IntKind.i64).pair ((Ty.int IntKind.i64).pair (Ty.int IntKind.i64))) (List.take i.toNat (List.take xs.length (List.take (IntKind.i64.wrap (i + (1 : Int))).toNat xs ++ List.take (xs.length + 1 - (IntKind.i64.wrap (i + (1 : Int))).toNat) (List.drop i.toNat xs))) ++ [r] ++ List.drop (i.toNat + 1) (List.take xs.length (List.take (IntKind.i64.wrap (i + (1 : Int))).toNat xs ++ List.take (xs.length + 1 - (IntKind.i64.wrap (i + (1 : Int))).toNat) (List.drop i.toNat xs))) ++ [(List.take (IntKind.i64.wrap (i + (1 : Int))).toNat xs ++ List.take (xs.length + 1 - (IntKind.i64.wrap (i + (1 : Int))).toNat) (List.drop i.toNat xs)).getD xs.length ((Ty.int IntKind.i64).pair ((Ty.int IntKind.i64).pair (Ty.int IntKind.i64))).zero]) []), (3, AObj.dead), (3, AObj.arr 3 ((Ty.int IntKind.i64).pair ((Ty.int IntKind.i64).pair (Ty.int IntKind.i64))) (List.take i.toNat (List.take xs.length (List.take (IntKind.i64.wrap (i + (1 : Int))).toNat xs ++ List.take (xs.length + 1 - (IntKind.i64.wrap (i + (1 : Int))).toNat) (List.drop i.toNat xs))) ++ [r] ++ List.drop (i.toNat + 1) (List.take xs.length (List.take (IntKind.i64.wrap (i + (1 : Int))).toNat xs ++ List.take (xs.length + 1 - (IntKind.i64.wrap (i + (1 : Int))).toNat) (List.drop i.toNat xs)))) [[AV.int IntKind.i64 ((List.take (IntKind.i64.wrap (i + (1 : Int))).toNat xs ++ List.take (xs.length + 1 - (IntKind.i64.wrap (i + (1 : Int))).toNat) (List.drop i.toNat xs)).getD xs.length ((Ty.int IntKind.i64).pair ((Ty.int IntKind.i64).pair (Ty.int IntKind.i64))).zero).fst, AV.int IntKind.i64 ((List.take (IntKind.i64.wrap (i + (1 : Int))).toNat xs ++ List.take (xs.length + 1 - (IntKind.i64.wrap (i + (1 : Int))).toNat) (List.drop i.toNat xs)).getD xs.length ((Ty.int IntKind.i64).pair ((Ty.int IntKind.i64).pair (Ty.int IntKind.i64))).zero).snd.fst, AV.int IntKind.i64 ((List.take (IntKind.i64.wrap (i + (1 : Int))).toNat xs ++ List.take (xs.length + 1 - (IntKind.i64.wrap (i + (1 : Int))).toNat) (List.drop i.toNat xs)).getD xs.length ((Ty.int IntKind.i64).pair ((Ty.int IntKind.i64).pair (Ty.int IntKind.i64))).zero).snd.snd]]), (3, AObj.arr 3 ((Ty.int IntKind.i64).pair ((Ty.int IntKind.i64).pair (Ty.int IntKind.i64))) (List.take xs.length (List.take (IntKind.i64.wrap (i + (1 : Int))).toNat xs ++ List.take (xs.length + 1 - (IntKind.i64.wrap (i + (1 : Int))).toNat) (List.drop i.toNat xs))) [[AV.int IntKind.i64 ((List.take (IntKind.i64.wrap (i + (1 : Int))).toNat xs ++ List.take (xs.length + 1 - (IntKind.i64.wrap (i + (1 : Int))).toNat) (List.drop i.toNat xs)).getD xs.length ((Ty.int IntKind.i64).pair ((Ty.int IntKind.i64).pair (Ty.int IntKind.i64))).zero).fst, AV.int IntKind.i64 ((List.take (IntKind.i64.wrap (i + (1 : Int))).toNat xs ++ List.take (xs.length + 1 - (IntKind.i64.wrap (i + (1 : Int))).toNat) (List.drop i.toNat xs)).getD xs.length ((Ty.int IntKind.i64).pair ((Ty.int IntKind.i64).pair (Ty.int IntKind.i64))).zero).snd.fst, AV.int IntKind.i64 ((List.take (IntKind.i64.wrap (i + (1 : Int))).toNat xs ++ List.take (xs.length + 1 - (IntKind.i64.wrap (i + (1 : Int))).toNat) (List.drop i.toNat xs)).getD xs.length ((Ty.int IntKind.i64).pair ((Ty.int IntKind.i64).pair (Ty.int IntKind.i64))).zero).snd.snd]]), (3, AObj.arr 3 ((Ty.int IntKind.i64).pair ((Ty.int IntKind.i64).pair (Ty.int IntKind.i64))) xs [[AV.undef, AV.undef, AV.undef]]), (0, AObj.dead), (2, AObj.arr 3 ((Ty.int IntKind.i64).pair ((Ty.int IntKind.i64).pair (Ty.int IntKind.i64))) [] []), (0, AObj.arr 3 ((Ty.int IntKind.i64).pair ((Ty.int IntKind.i64).pair (Ty.int IntKind.i64))) xs []), (1, AObj.arr 3 Ty.bool [] [[AV.int IntKind.i64 r.fst, AV.int IntKind.i64 r.snd.fst, AV.int IntKind.i64 r.snd.snd]])], nx := 5 }
abbrev insOut : List OPat := [.dead, .box 3 [[.int .i64, .int .i64, .int .i64]], .arr 3 rowT []]
noncomputable def insFin (e : Ex) (s : St) : Option ((Pat.lit (.hw 2)).den × opatsDen insOut) := match e with
  | .exit _ => none
  | _ => (resultsOf (env consA3) s F.slices_Insert_dedup_Row_dedup_Row.results.toList).bind fun vs => finV (.lit (.hw 2)) insOut 2 (oneOr vs) s
theorem fin1_ev (xs : List Row3) (i : Int) (r : Row3) (c : Nat) : insFin .ret (insR1 xs i r c) = some ((), (), ((r.fst, r.snd.fst, r.snd.snd, ()), ()), (List.take xs.length xs ++ [r], ()), ()) := by kernel_rfl

theorem fin2_ev (xs : List Row3) (i : Int) (r : Row3) (c : Nat) : insFin .ret (insR2 xs i r c) = some ((), (), ((r.fst, r.snd.fst, r.snd.snd, ()), ()), (List.take (IntKind.i64.wrap (i + (1 : Int))).toNat (List.take i.toNat (List.take i.toNat xs ++ List.replicate (IntKind.i64.wrap (IntKind.i64.wrap ((↑xs.length : Int) + (1 : Int)) - i)).toNat ((Ty.int IntKind.i64).pair ((Ty.int IntKind.i64).pair (Ty.int IntKind.i64))).zero) ++ [r] ++ List.drop (i.toNat + 1) (List.take i.toNat xs ++ List.replicate (IntKind.i64.wrap (IntKind.i64.wrap ((↑xs.length : Int) + (1 : Int)) - i)).toNat ((Ty.int IntKind.i64).pair ((Ty.int IntKind.i64).pair (Ty.int IntKind.i64))).zero)) ++ List.drop i.toNat xs ++ List.drop ((IntKind.i64.wrap (i + (1 : Int))).toNat + (List.drop i.toNat xs).length) (List.take i.toNat (List.take i.toNat xs ++ List.replicate (IntKind.i64.wrap (IntKind.i64.wrap ((↑xs.length : Int) + (1 : Int)) - i)).toNat ((Ty.int IntKind.i64).pair ((Ty.int IntKind.i64).pair (Ty.int IntKind.i64))).zero) ++ [r] ++ List.drop (i.toNat + 1) (List.take i.toNat xs ++ List.replicate (IntKind.i64.wrap (IntKind.i64.wrap ((↑xs.length : Int) + (1 : Int)) - i)).toNat ((Ty.int IntKind.i64).pair ((Ty.int IntKind.i64).pair (Ty.int IntKind.i64))).zero)), ()), ()) := by kernel_rfl

theorem fin3_ev (xs : List Row3) (i : Int) (r : Row3) (c : Nat) : insFin .ret (insR3 xs i r c) = some ((), (), ((r.fst, r.snd.fst, r.snd.snd, ()), ()), (List.take i.toNat (List.take xs.length (List.take (IntKind.i64.wrap (i + (1 : Int))).toNat xs ++ List.take (xs.length + 1 - (IntKind.i64.wrap (i + (1 : Int))).toNat) (List.drop i.toNat xs))) ++ [r] ++ List.drop (i.toNat + 1) (List.take xs.length (List.take (IntKind.i64.wrap (i + (1 : Int))).toNat xs ++ List.take (xs.length + 1 - (IntKind.i64.wrap (i + (1 : Int))).toNat) (List.drop i.toNat xs))) ++ [(List.take (IntKind.i64.wrap (i + (1 : Int))).toNat xs ++ List.take (xs.length + 1 - (IntKind.i64.wrap (i + (1 : Int))).toNat) (List.drop i.toNat xs)).getD xs.length ((Ty.int IntKind.i64).pair ((Ty.int IntKind.i64).pair (Ty.int IntKind.i64))).zero], ()), ()) := by kernel_rfl

theorem cond_t {α : Type _} {b : Bool} {x y : α} (h : b = true) : cond b x y = x := by rw [h]; rfl
theorem cond_f {α : Type _} {b : Bool} {x y : α} (h : b = false) : cond b x y = y := by rw [h]; rfl
theorem suf_skip : ∀ m, sufC m .skip = .skip
  | 0 => rfl
  | _ + 1 => rfl
theorem suf_suf : ∀ (n m : Nat) (c : Code), sufC m (sufC n c) = sufC (n + m) c
  | 0, m, c => by rw [Nat.zero_add]; rfl
  | n + 1, m, c => by
    rw [show n + 1 + m = (n + m) + 1 by omega]
    cases c <;> first | exact suf_suf n m _ | exact suf_skip m
theorem ins_grow (xs : List Row3) (z r : Row3) (k : Nat) (hk : k ≤ xs.length) : List.take (k + 1) (List.take k (List.take k xs ++ List.replicate (xs.length + 1 - k) z) ++ [r] ++ List.drop (k + 1) (List.take k xs ++ List.replicate (xs.length + 1 - k) z)) ++ List.drop k xs ++
    List.drop (k + 1 + (List.drop k xs).length) (List.take k (List.take k xs ++ List.replicate (xs.length + 1 - k) z) ++ [r] ++ List.drop (k + 1) (List.take k xs ++ List.replicate (xs.length + 1 - k) z)) = putAt xs k k r := by
  have hl : (List.take k xs).length = k := by simp; omega
  have e1 : List.take k (List.take k xs ++ List.replicate (xs.length + 1 - k) z) = List.take k xs := by
    rw [List.take_append_of_le_length (by omega), List.take_take, Nat.min_self]
  have e2 : List.drop (k + 1) (List.take k xs ++ List.replicate (xs.length + 1 - k) z) = List.replicate (xs.length - k) z := by
    rw [List.drop_append, List.drop_of_length_le (by omega), hl, Nat.add_sub_cancel_left, List.drop_replicate, List.nil_append]
    congr 1
    omega
  rw [e1, e2]
  have hl1 : (List.take k xs ++ [r]).length = k + 1 := by rw [List.length_append, hl]; rfl
  have e3 : List.take (k + 1) (List.take k xs ++ [r] ++ List.replicate (xs.length - k) z) = List.take k xs ++ [r] := by
    rw [List.take_append_of_le_length (by omega), List.take_of_length_le (by omega)]
  have e4 : List.drop (k + 1 + (List.drop k xs).length) (List.take k xs ++ [r] ++ List.replicate (xs.length - k) z) = [] :=
    List.drop_of_length_le (by rw [List.length_append, hl1, List.length_replicate, List.length_drop]; omega)
  rw [e3, e4]
  unfold putAt
  simp
theorem ins_move (xs : List Row3) (z r : Row3) (k : Nat) (hk : k < xs.length) : List.take k (List.take xs.length (List.take (k + 1) xs ++ List.take (xs.length + 1 - (k + 1)) (List.drop k xs))) ++ [r] ++
    List.drop (k + 1) (List.take xs.length (List.take (k + 1) xs ++ List.take (xs.length + 1 - (k + 1)) (List.drop k xs))) ++ [(List.take (k + 1) xs ++ List.take (xs.length + 1 - (k + 1)) (List.drop k xs)).getD xs.length z] = putAt xs k k r := by
  have eA : List.take (xs.length + 1 - (k + 1)) (List.drop k xs) = List.drop k xs := List.take_of_length_le (by simp only [List.length_drop]; omega)
  rw [eA]
  have hl : (List.take (k + 1) xs).length = k + 1 := by simp; omega
  obtain ⟨A, hA⟩ : ∃ A, A = List.take (k + 1) xs ++ List.drop k xs := ⟨_, rfl⟩
  have hAl : A.length = xs.length + 1 := by rw [hA, List.length_append, hl, List.length_drop]; omega
  rw [← hA]
  have h1 : List.take k (List.take xs.length A) = List.take k xs := by
    rw [List.take_take, Nat.min_eq_left (by omega), hA, List.take_append_of_le_length (by omega), List.take_take, Nat.min_eq_left (by omega)]
  have h2 : List.take xs.length A ++ [A.getD xs.length z] = A := by
    have hget : A.getD xs.length z = A[xs.length]'(by omega) := by rw [List.getD_eq_getElem?_getD, List.getElem?_eq_getElem (by omega)]; rfl
    rw [hget, List.take_append_getElem, List.take_of_length_le (by omega)]
  have h3 : List.drop (k + 1) (List.take xs.length A) ++ [A.getD xs.length z] = List.drop k xs := by
    have : List.drop (k + 1) (List.take xs.length A ++ [A.getD xs.length z]) = List.drop (k + 1) (List.take xs.length A) ++ [A.getD xs.length z] := List.drop_append_of_le_length (by rw [List.length_take, hAl]; omega)
    rw [← this, h2, hA, List.drop_append, hl, Nat.sub_self, List.drop_of_length_le (by omega)]
    simp
  rw [h1, List.append_assoc, List.append_assoc, h3]
  unfold putAt
  simp
theorem mv_len (A : List Row3) (r : Row3) (n k : Nat) (hA : A.length = n + 1) (hk : k < n) : (List.take k (List.take n A) ++ [r] ++ List.drop (k + 1) (List.take n A)).length = n := by
  simp only [List.length_append, List.length_take, List.length_drop, List.length_cons, List.length_nil, hA]
  omega
theorem ins_val (xs : List Row3) (r : Row3) (c k : Nat) (hk : k ≤ xs.length) (hn : xs.length ≤ 1000000) (hc : xs.length ≤ c) (hM : c ≤ maxL) :
    evFn (env consA3) H.ins2 (LPof []) F.slices_Insert_dedup_Row_dedup_Row [.hc 0 0 xs.length c, .int .i64 (k : Int), .hw 1] [.arr 3 rowT xs [], insObj r] (finV (.lit (.hw 2)) insOut 2) = some ((), (), ((r.1, r.2.1, r.2.2, ()), ()), (putAt xs k k r, ()), ()) := by
  have h0 : evFn (env consA3) H.ins2 (LPof []) F.slices_Insert_dedup_Row_dedup_Row [.hc 0 0 xs.length c, .int .i64 (k : Int), .hw 1] [.arr 3 rowT xs [], insObj r] (finV (.lit (.hw 2)) insOut 2) =
    ev (env consA3) H.ins2 2 (LPof []) B.slices_Insert_dedup_Row_dedup_Row (initSt [.hc 0 0 xs.length c, .int .i64 (k : Int), .hw 1] [.arr 3 rowT xs [], insObj r]) insFin := by
    unfold evFn
    rw [Bd.slices_Insert_dedup_Row_dedup_Row]
    rfl
  have w1 : IntKind.i64.wrap ((xs.length : Int) + 1) = (xs.length : Int) + 1 := wrap64 (by omega) (by omega)
  have w2 : IntKind.i64.wrap ((xs.length : Int) + 1 - (k : Int)) = (xs.length : Int) + 1 - (k : Int) := wrap64 (by omega) (by omega)
  have w3 : IntKind.i64.wrap ((k : Int) + 1) = (k : Int) + 1 := wrap64 (by omega) (by omega)
  have t1 : ((xs.length : Int) + 1 - (k : Int)).toNat = xs.length + 1 - k := by omega
  have t2 : ((k : Int) + 1).toNat = k + 1 := by omega
  rw [h0, ev_cut (by rfl) 7, ins1_ev]
  rw [cond_pos2 (by omega) (by omega)]
  by_cases he : k = xs.length
  · subst he
    rw [show (((xs.length : Int) == (xs.length : Int))) = true by simp, cond_true, cond_pos (by simp; omega)]
    refine (fin1_ev xs (xs.length : Int) r c).trans ?_
    congr 1
    unfold putAt
    simp
  · have hne : ((k : Int) == (xs.length : Int)) = false := by simp; omega
    rw [cond_f hne]
    by_cases hg : xs.length + 1 > c
    · have hl0 : (List.take k xs ++ List.replicate (xs.length + 1 - k) rowT.zero).length = xs.length + 1 := by simp only [List.length_append, List.length_take, List.length_replicate]; omega
      have hd : (List.drop k xs).length = xs.length - k := List.length_drop
      have hl1 : (List.take k (List.take k xs ++ List.replicate (xs.length + 1 - k) rowT.zero) ++ [r] ++ List.drop (k + 1) (List.take k xs ++ List.replicate (xs.length + 1 - k) rowT.zero)).length = xs.length + 1 := by
        rw [List.length_append, List.length_append, List.length_take, List.length_drop, hl0]
        simp only [List.length_cons, List.length_nil]
        omega
      rw [cond_t (by first | (simp only [w1, w2, w3, t1, t2, Int.toNat_natCast, hl0, hl1, hd, decide_true, Bool.and_true, Bool.true_and, Bool.and_eq_true, decide_eq_true_eq]; done) | (simp only [w1, w2, w3, t1, t2, Int.toNat_natCast, hl0, hl1, hd, decide_true, Bool.and_true, Bool.true_and, Bool.and_eq_true, decide_eq_true_eq]; omega)), cond_t (by first | (simp only [w1, w2, w3, t1, t2, Int.toNat_natCast, hl0, hl1, hd, decide_true, Bool.and_true, Bool.true_and, Bool.and_eq_true, decide_eq_true_eq]; done) | (simp only [w1, w2, w3, t1, t2, Int.toNat_natCast, hl0, hl1, hd, decide_true, Bool.and_true, Bool.true_and, Bool.and_eq_true, decide_eq_true_eq]; omega)), cond_t (by first | (simp only [w1, w2, w3, t1, t2, Int.toNat_natCast, hl0, hl1, hd, decide_true, Bool.and_true, Bool.true_and, Bool.and_eq_true, decide_eq_true_eq]; done) | (simp only [w1, w2, w3, t1, t2, Int.toNat_natCast, hl0, hl1, hd, decide_true, Bool.and_true, Bool.true_and, Bool.and_eq_true, decide_eq_true_eq]; omega)), cond_t (by first | (simp only [w1, w2, w3, t1, t2, Int.toNat_natCast, hl0, hl1, hd, decide_true, Bool.and_true, Bool.true_and, Bool.and_eq_true, decide_eq_true_eq]; done) | (simp only [w1, w2, w3, t1, t2, Int.toNat_natCast, hl0, hl1, hd, decide_true, Bool.and_true, Bool.true_and, Bool.and_eq_true, decide_eq_true_eq]; omega)), cond_t (by first | (simp only [w1, w2, w3, t1, t2, Int.toNat_natCast, hl0, hl1, hd, decide_true, Bool.and_true, Bool.true_and, Bool.and_eq_true, decide_eq_true_eq]; done) | (simp only [w1, w2, w3, t1, t2, Int.toNat_natCast, hl0, hl1, hd, decide_true, Bool.and_true, Bool.true_and, Bool.and_eq_true, decide_eq_true_eq]; omega)), cond_t (by first | (simp only [w1, w2, w3, t1, t2, Int.toNat_natCast, hl0, hl1, hd, decide_true, Bool.and_true, Bool.true_and, Bool.and_eq_true, decide_eq_true_eq]; done) | (simp only [w1, w2, w3, t1, t2, Int.toNat_natCast, hl0, hl1, hd, decide_true, Bool.and_true, Bool.true_and, Bool.and_eq_true, decide_eq_true_eq]; omega)), cond_t (by first | (simp only [w1, w2, w3, t1, t2, Int.toNat_natCast, hl0, hl1, hd, decide_true, Bool.and_true, Bool.true_and, Bool.and_eq_true, decide_eq_true_eq]; done) | (simp only [w1, w2, w3, t1, t2, Int.toNat_natCast, hl0, hl1, hd, decide_true, Bool.and_true, Bool.true_and, Bool.and_eq_true, decide_eq_true_eq]; omega)), cond_t (by first | (simp only [w1, w2, w3, t1, t2, Int.toNat_natCast, hl0, hl1, hd, decide_true, Bool.and_true, Bool.true_and, Bool.and_eq_true, decide_eq_true_eq]; done) | (simp only [w1, w2, w3, t1, t2, Int.toNat_natCast, hl0, hl1, hd, decide_true, Bool.and_true, Bool.true_and, Bool.and_eq_true, decide_eq_true_eq]; omega)), cond_t (by first | (simp only [w1, w2, w3, t1, t2, Int.toNat_natCast, hl0, hl1, hd, decide_true, Bool.and_true, Bool.true_and, Bool.and_eq_true, decide_eq_true_eq]; done) | (simp only [w1, w2, w3, t1, t2, Int.toNat_natCast, hl0, hl1, hd, decide_true, Bool.and_true, Bool.true_and, Bool.and_eq_true, decide_eq_true_eq]; omega))]
      refine (fin2_ev xs (k : Int) r c).trans ?_
      simp only [w1, w2, w3, t1, t2, Int.toNat_natCast]
      rw [ins_grow xs _ r k hk]
    · have hA : List.take (xs.length + 1 - (k + 1)) (List.drop k xs) = List.drop k xs := List.take_of_length_le (by simp only [List.length_drop]; omega)
      have hA2 : (List.take xs.length (List.take (k + 1) xs ++ List.drop k xs)).length = xs.length := by simp only [List.length_take, List.length_append, List.length_drop]; omega
      have hA3 : True := trivial
      rw [cond_f (by simp only [w1, decide_eq_false_iff_not]; omega)]
      show ev (env consA3) H.ins2 2 (LPof []) (sufC 7 B.slices_Insert_dedup_Row_dedup_Row) (insN xs (k : Int) r c) insFin = _
      rw [ev_cut (by rfl) 1, ins2_ev, cond_f (by simp only [w1, Bool.and_eq_false_iff, decide_eq_false_iff_not]; omega), cond_t (by first | (simp only [w1, w3, t2, Int.toNat_natCast, hA, hA2, hA3, cutCap, decide_true, Bool.and_true, Bool.true_and, Bool.and_eq_true, decide_eq_true_eq]; done) | (simp only [w1, w3, t2, Int.toNat_natCast, hA, hA2, hA3, cutCap, decide_true, Bool.and_true, Bool.true_and, Bool.and_eq_true, decide_eq_true_eq]; omega))]
      rw [suf_suf]
      show ev (env consA3) H.ins2 2 (LPof []) (sufC 8 B.slices_Insert_dedup_Row_dedup_Row) (insM xs (k : Int) r c) insFin = _
      rw [ins3_ev, cond_t (by first | (simp only [w1, w3, t2, Int.toNat_natCast, hA, hA2, hA3, cutCap, decide_true, Bool.and_true, Bool.true_and, Bool.and_eq_true, decide_eq_true_eq]; done) | (simp only [w1, w3, t2, Int.toNat_natCast, hA, hA2, hA3, cutCap, decide_true, Bool.and_true, Bool.true_and, Bool.and_eq_true, decide_eq_true_eq]; omega)), cond_t (by first | (simp only [w1, w3, t2, Int.toNat_natCast, hA, hA2, hA3, cutCap, decide_true, Bool.and_true, Bool.true_and, Bool.and_eq_true, decide_eq_true_eq]; done) | (simp only [w1, w3, t2, Int.toNat_natCast, hA, hA2, hA3, cutCap, decide_true, Bool.and_true, Bool.true_and, Bool.and_eq_true, decide_eq_true_eq]; omega)), cond_t (by first | (simp only [w1, w3, t2, Int.toNat_natCast, hA, hA2, hA3, cutCap, decide_true, Bool.and_true, Bool.true_and, Bool.and_eq_true, decide_eq_true_eq]; done) | (simp only [w1, w3, t2, Int.toNat_natCast, hA, hA2, hA3, cutCap, decide_true, Bool.and_true, Bool.true_and, Bool.and_eq_true, decide_eq_true_eq]; omega)), cond_t (by first | (simp only [w1, w3, t2, Int.toNat_natCast, hA, hA2, hA3, cutCap, decide_true, Bool.and_true, Bool.true_and, Bool.and_eq_true, decide_eq_true_eq]; done) | (simp only [w1, w3, t2, Int.toNat_natCast, hA, hA2, hA3, cutCap, decide_true, Bool.and_true, Bool.true_and, Bool.and_eq_true, decide_eq_true_eq]; omega)), cond_t (by first | (simp only [w1, w3, t2, Int.toNat_natCast, hA, hA2, hA3, cutCap, decide_true, Bool.and_true, Bool.true_and, Bool.and_eq_true, decide_eq_true_eq]; done) | (simp only [w1, w3, t2, Int.toNat_natCast, hA, hA2, hA3, cutCap, decide_true, Bool.and_true, Bool.true_and, Bool.and_eq_true, decide_eq_true_eq]; omega)), cond_t (by first | (simp only [w1, w3, t2, Int.toNat_natCast, hA, hA2, hA3, cutCap, decide_true, Bool.and_true, Bool.true_and, Bool.and_eq_true, decide_eq_true_eq]; done) | (simp only [w1, w3, t2, Int.toNat_natCast, hA, hA2, hA3, cutCap, decide_true, Bool.and_true, Bool.true_and, Bool.and_eq_true, decide_eq_true_eq]; omega)), cond_t (by first | (simp only [w1, w3, t2, Int.toNat_natCast, hA, hA2, hA3, cutCap, decide_true, Bool.and_true, Bool.true_and, Bool.and_eq_true, decide_eq_true_eq]; done) | (simp only [w1, w3, t2, Int.toNat_natCast, hA, hA2, hA3, cutCap, decide_true, Bool.and_true, Bool.true_and, Bool.and_eq_true, decide_eq_true_eq]; omega))]
      rw [cond_t (by
        rw [Bool.and_eq_true]
        refine ⟨?_, decide_eq_true (by omega)⟩
        rw [decide_eq_true_eq]
        have hml := mv_len (List.take (k + 1) xs ++ List.drop k xs) r xs.length k (by simp only [List.length_append, List.length_take, List.length_drop]; omega) (by omega)
        rw [w3, t2, Int.toNat_natCast, hA]
        rw [hml])]
      refine (fin3_ev xs (k : Int) r c).trans ?_
      simp only [w3, t2, Int.toNat_natCast]
      rw [ins_move xs _ r k (by omega)]
end Go.Sim.XD
namespace Go.Sim.XD
set_option linter.unusedSimpArgs false
set_option linter.unusedVariables false
set_option maxRecDepth 10000
theorem row36 : P0.underlying 104 = some (.slice 145) := by kernel_rfl
theorem size65 (w : World) : (Go.sizeOf 145).run P0 w = .ok 3 w := by
  have h : (P0.info? 145).map (fun x => x.size) = some 3 := by kernel_rfl
  obtain ⟨i0, hi0, h1⟩ := Option.map_eq_some_iff.1 h
  simp [sizeOf, typeInfo, hi0, h1]
theorem apart28 : ApartOK P0 182 := fun w a b la ca lb cb tA tB kA kB h1 h2 h3 h4 h5 h6 => by
  rw [run_callFunc_extern (P := P0) (f := 182) (fn := Proofs.Tryz.f182) Proofs.Tryz.func182 (by kernel_rfl) (by kernel_rfl) (by kernel_rfl) (e := Extern.SlicesOverlaps.overlaps #[104, 104] #[4]) (by kernel_rfl),
    Lib.run_overlaps_apart w 104 4 145 row36 3 size65 a b la ca lb cb h1 tA tB kA kB h2 h3 h4 h5 h6]
  rfl
theorem consA3_ok : ∀ x ∈ consA3, HoldsC P0 x.1 x.2 := by
  intro x hx
  simp at hx
  subst hx
  exact apart28
def caseIns : VCase := ⟨[.lit (.hw 0), .int .i64, .lit (.hw 1)], [.arr 3 rowT [], .box 3 [[.int .i64, .int .i64, .int .i64]]], .lit (.hw 2), insOut,
  fun ⟨_, i, _⟩ ⟨⟨xs, _⟩, ⟨⟨a, b, c, _⟩, _⟩, _⟩ => [(decide (0 ≤ i) && decide (i ≤ (List.length xs : Int)) && decide (List.length xs ≤ 1000000), ((), ((), ((a, b, c, ()), ()), (putAt xs i.toNat i.toNat (a, b, c), ()), ())))]⟩
theorem ins_ok : caseIns.e.ok P0 I.slices_Insert_dedup_Row_dedup_Row := fun ⟨_, i, _, _⟩ ⟨⟨xs, _⟩, ⟨⟨a, b, c, _⟩, _⟩, _⟩ r objs' hxy hw1 hw2 => by
  obtain ⟨z, hz, e0⟩ := pick_mapAlt hxy
  cases e0
  obtain ⟨hc, rfl⟩ := pick_pre hz
  simp only [Bool.and_eq_true, decide_eq_true_eq] at hc
  obtain ⟨k, rfl⟩ := Int.eq_ofNat_of_zero_le hc.1.1
  refine EffGood.of_cap (n := I.slices_Insert_dedup_Row_dedup_Row) (t := rowT) (xs := xs) fun cp h1 h2 => ?_
  exact eff_of_ev (H := H.ins2) (E := env consA3) (env_ok consA3_ok) glob0 mixed0 G.slices_Insert_dedup_Row_dedup_Row Bd.slices_Insert_dedup_Row_dedup_Row (by kernel_rfl) noLoops (out := .lit (.hw 2)) (outs := insOut) (ins_val xs (a, b, c) cp k (Int.ofNat_le.1 hc.1.2) hc.2 h1 h2)
def caseFind1 : PCase := ⟨[.ty rowT, .ty (.int .i64)], [.int .i64], fun x => (fun (r : Row3) (p : Int) => [(true, (cmpI r.1 p, ()))]) x.1 x.2.1⟩
theorem find1_val (r : Row3) (p : Int) : evFn (env consA2) H.dedup_Table_find_1 (LPof []) F.dedup_Table_find_1 [valOf rowT r, .int .i64 p] [] (finT [.int .i64]) = some (cmpI r.1 p, ()) := by
  rw [find1_ev]
theorem find1_ok : caseFind1.ok P0 I.dedup_Table_find_1 := case_ok2 (H := H.dedup_Table_find_1) (E := env consA2) (env_ok consA2_ok) glob0 mixed0 G.dedup_Table_find_1 Bd.dedup_Table_find_1 (by kernel_rfl) noLoops fun ⟨r, p, ()⟩ y h hw => by
  obtain ⟨hc, rfl⟩ := pick_pre h
  exact find1_val r p
noncomputable abbrev consA4 : List (FuncId × Con) := [(I.dedup_Table_find_1, .pure (pureOf [caseFind1]))]
theorem consA4_ok : ∀ x ∈ consA4, HoldsC P0 x.1 x.2 := by
  intro x hx
  simp at hx
  subst hx
  exact ⟨pureOf_holds (by simp; exact find1_ok), C.dedup_Table_find_1⟩
theorem bs_rd {R : Type} (xs : List Row3) (p n i j : Int) (K : Ex → St → Option R) : roundK (env consA4) H.slices_BinarySearchFunc_dedup_Row_dedup_Row_int 1 (LPof []) V.slices_BinarySearchFunc_dedup_Row_dedup_Row_int_3 L.slices_BinarySearchFunc_dedup_Row_dedup_Row_int_3 ⟨[(0, .hw 0), (1, .int .i64 p), (2, .fn (.func I.dedup_Table_find_1) [] []), (8, .int .i64 n), (9, .int .i64 i), (10, .int .i64 j)], [(0, .arr 3 rowT xs [])], 1⟩ K = bif decide (i < j) then bif decide ((0 : Int) ≤ IntKind.i64.wrap ((IntKind.u64.wrap (IntKind.i64.wrap (i + j))).fdiv (2 : Int))) && decide (IntKind.i64.wrap ((IntKind.u64.wrap (IntKind.i64.wrap (i + j))).fdiv (2 : Int)) < (↑xs.length : Int)) then bif decide (cmpI (xs.getD (IntKind.i64.wrap ((IntKind.u64.wrap (IntKind.i64.wrap (i + j))).fdiv (2 : Int))).toNat rowT.zero).fst p < (0 : Int)) then K Ex.normal { slots := [(0, AV.hw 0), (1, AV.int IntKind.i64 p), (2, AV.fn (Fn.func 180) [] []), (8, AV.int IntKind.i64 n), (9, AV.int IntKind.i64 (IntKind.i64.wrap (IntKind.i64.wrap ((IntKind.u64.wrap (IntKind.i64.wrap (i + j))).fdiv (2 : Int)) + (1 : Int)))), (10, AV.int IntKind.i64 j)], objs := [(0, AObj.arr 3 ((Ty.int IntKind.i64).pair ((Ty.int IntKind.i64).pair (Ty.int IntKind.i64))) xs [])], nx := 1 } else K Ex.normal { slots := [(0, AV.hw 0), (1, AV.int IntKind.i64 p), (2, AV.fn (Fn.func 180) [] []), (8, AV.int IntKind.i64 n), (9, AV.int IntKind.i64 i), (10, AV.int IntKind.i64 (IntKind.i64.wrap ((IntKind.u64.wrap (IntKind.i64.wrap (i + j))).fdiv (2 : Int))))], objs := [(0, AObj.arr 3 ((Ty.int IntKind.i64).pair ((Ty.int IntKind.i64).pair (Ty.int IntKind.i64))) xs [])], nx := 1 } else none else K (Ex.exit 0) { slots := [(0, AV.hw 0), (1, AV.int IntKind.i64 p), (2, AV.fn (Fn.func 180) [] []), (8, AV.int IntKind.i64 n), (9, AV.int IntKind.i64 i), (10, AV.int IntKind.i64 j)], objs := [(0, AObj.arr 3 ((Ty.int IntKind.i64).pair ((Ty.int IntKind.i64).pair (Ty.int IntKind.i64))) xs [])], nx := 1 } := by kernel_rfl

def bsSt (xs : List Row3) (p : Int) (i j : Nat) : St := ⟨[(0, .hw 0), (1, .int .i64 p), (2, .fn (.func I.dedup_Table_find_1) [] []), (8, .int .i64 xs.length), (9, .int .i64 i), (10, .int .i64 j)], [(0, .arr 3 rowT xs [])], 1⟩
theorem cmp_lt (a b : Int) : decide (cmpI a b < 0) = decide (a < b) := by
  unfold cmpI
  by_cases h : a < b
  · simp [h]
  · by_cases g : a > b <;> simp [h, g]
theorem cmp_eq (a b : Int) : (cmpI a b == 0) = (a == b) := by
  unfold cmpI
  by_cases h : a < b
  · have : ¬ a = b := by omega
    simp [h, this]
  · by_cases g : a > b
    · have : ¬ a = b := by omega
      simp [h, g, this]
    · have : a = b := by omega
      simp [h, g, this]
theorem bs_rounds {R : Type} (xs : List Row3) (p : Int) (hs : sortedL xs = true) (hn : xs.length ≤ 1000000) (K : Ex → St → Option R) : ∀ (d i j : Nat), j - i ≤ d → i ≤ j → j ≤ xs.length → (∀ a, a < i → (atL xs a).1 < p) → (∀ a, j ≤ a → a < xs.length → p ≤ (atL xs a).1) →
    ∃ m, rounds (env consA4) H.slices_BinarySearchFunc_dedup_Row_dedup_Row_int 1 (LPof []) V.slices_BinarySearchFunc_dedup_Row_dedup_Row_int_3 L.slices_BinarySearchFunc_dedup_Row_dedup_Row_int_3 m (bsSt xs p i j) K = K (.exit 0) (bsSt xs p (posL xs p) (posL xs p)) := by
  intro d
  induction d with
  | zero =>
    intro i j hd hij hj h1 h2
    obtain rfl : i = j := by omega
    have hp := pos_eq hj h1 (fun h => h2 i (Nat.le_refl _) h)
    refine ⟨1, ?_⟩
    rw [rounds_succ']
    refine (bs_rd _ _ _ _ _ _).trans ?_
    rw [cond_neg (by omega), hp]
    rfl
  | succ d ih =>
    intro i j hd hij hj h1 h2
    by_cases hlt : i < j
    · have e1 : IntKind.i64.wrap ((i : Int) + (j : Int)) = (i : Int) + (j : Int) := wrap64 (by omega) (by omega)
      have e2 : IntKind.u64.wrap ((i : Int) + (j : Int)) = (i : Int) + (j : Int) := wrapu64 (by omega) (by omega)
      have e3 : ((i : Int) + (j : Int)).fdiv 2 = (((i + j) / 2 : Nat) : Int) := by rw [Int.fdiv_eq_ediv_of_nonneg _ (by omega)]; omega
      have e4 : IntKind.i64.wrap ((((i + j) / 2 : Nat)) : Int) = (((i + j) / 2 : Nat) : Int) := wrap64 (by omega) (by omega)
      have e5 : IntKind.i64.wrap ((((i + j) / 2 : Nat) : Int) + 1) = (((i + j) / 2 + 1 : Nat) : Int) := by rw [wrap64 (by omega) (by omega)]; omega
      by_cases hc : (atL xs ((i + j) / 2)).1 < p
      · obtain ⟨m, hm⟩ := ih ((i + j) / 2 + 1) j (by omega) (by omega) hj (fun a ha => by
          rcases Nat.lt_or_ge a ((i + j) / 2) with h | h
          · have := sorted_lt hs h (by omega); omega
          · have : a = (i + j) / 2 := by omega
            subst this; exact hc) h2
        refine ⟨m + 1, ?_⟩
        rw [rounds_succ']
        refine (bs_rd _ _ _ _ _ _).trans ?_
        rw [cond_pos (by omega), e1, e2, e3, e4, cond_pos2 (by omega) (by omega), Int.toNat_natCast, cmp_lt, cond_pos (show (xs.getD ((i + j) / 2) rowT.zero).1 < p from hc), e5]
        exact hm
      · obtain ⟨m, hm⟩ := ih i ((i + j) / 2) (by omega) (by omega) (by omega) h1 (fun a ha hx => by
          rcases Nat.lt_or_ge ((i + j) / 2) a with h | h
          · have := sorted_lt hs h hx; omega
          · have : a = (i + j) / 2 := by omega
            subst this; omega)
        refine ⟨m + 1, ?_⟩
        rw [rounds_succ']
        refine (bs_rd _ _ _ _ _ _).trans ?_
        rw [cond_pos (by omega), e1, e2, e3, e4, cond_pos2 (by omega) (by omega), Int.toNat_natCast, cmp_lt, cond_neg (show ¬ (xs.getD ((i + j) / 2) rowT.zero).1 < p from hc)]
        exact hm
    · obtain ⟨m, hm⟩ := ih i j (by omega) hij hj h1 h2
      exact ⟨m, hm⟩
abbrev bsLC : LoopC := LoopC.of ⟨[(0, .lit (.hw 0)), (1, .int .i64), (2, .fn I.dedup_Table_find_1 []), (8, .int .i64), (9, .int .i64), (10, .int .i64)], [.arr 3 rowT []]⟩
    (fun x => decide (x.1.2.2.2.1 = (List.length x.2.1.1 : Int)) && decide (x.1.2.2.2.2.1 = 0) && decide (x.1.2.2.2.2.2.1 = (List.length x.2.1.1 : Int)) && sortedL x.2.1.1 && decide (List.length x.2.1.1 ≤ 1000000))
    fun x => [(true, .exit 0, bsSt x.2.1.1 x.1.2.1 (posL x.2.1.1 x.1.2.1) (posL x.2.1.1 x.1.2.1))]
theorem bs_lok : LoopOK P0 H.slices_BinarySearchFunc_dedup_Row_dedup_Row_int 1 L.slices_BinarySearchFunc_dedup_Row_dedup_Row_int_3 bsLC :=
  loop_ok_of (env_ok consA4_ok) glob0 mixed0 noLoops V.slices_BinarySearchFunc_dedup_Row_dedup_Row_int_3 (by decide) fun ⟨⟨_, p, _, n, i, j, _⟩, ⟨xs, _⟩, _⟩ h hw => by
    simp only [Bool.and_eq_true, decide_eq_true_eq] at h
    obtain ⟨⟨⟨⟨rfl, rfl⟩, rfl⟩, h4⟩, h5⟩ := h
    exact bs_rounds xs p h4 h5 _ (List.length xs) 0 (List.length xs) (by omega) (by omega) (Nat.le_refl _) (fun a ha => absurd ha (Nat.not_lt_zero _)) (fun a h1 h2 => absurd h2 (Nat.not_lt.2 h1))
theorem bs_ev (xs : List Row3) (p : Int) : evFn (env consA4) H.slices_BinarySearchFunc_dedup_Row_dedup_Row_int (LPof [(3, bsLC)]) F.slices_BinarySearchFunc_dedup_Row_dedup_Row_int [.hw 0, .int .i64 p, .fn (.func I.dedup_Table_find_1) [] []] [.arr 3 rowT xs []] (finV (.tup [.int .i64, .bool]) [.arr 3 rowT []] 1) = bif decide ((↑xs.length : Int) = (↑xs.length : Int)) && true && decide ((↑xs.length : Int) = (↑xs.length : Int)) && sortedL xs && decide (xs.length ≤ 1000000) && true then bif decide ((↑(posL xs p) : Int) < (↑xs.length : Int)) then bif decide ((0 : Int) ≤ (↑(posL xs p) : Int)) && decide ((↑(posL xs p) : Int) < (↑xs.length : Int)) then some (((↑(posL xs p) : Int), cmpI (xs.getD (posL xs p) rowT.zero).fst p == (0 : Int), ()), (xs, ()), ()) else none else some (((↑(posL xs p) : Int), false, ()), (xs, ()), ()) else none := by kernel_rfl

def caseBs : VCase := ⟨[.lit (.hw 0), .int .i64, .fn I.dedup_Table_find_1 []], [.arr 3 rowT []], .tup [.int .i64, .bool], [.arr 3 rowT []], fun ⟨_, p, _, ()⟩ ⟨⟨xs, ()⟩, ()⟩ => [(sortedL xs && decide (List.length xs ≤ 1000000), ((((posL xs p : Nat) : Int), hasL xs p, ()), ((xs, ()), ())))]⟩
theorem bs_val (xs : List Row3) (p : Int) (hc : (sortedL xs && decide (List.length xs ≤ 1000000)) = true) : evFn (env consA4) H.slices_BinarySearchFunc_dedup_Row_dedup_Row_int (LPof [(3, bsLC)]) F.slices_BinarySearchFunc_dedup_Row_dedup_Row_int [.hw 0, .int .i64 p, .fn (.func I.dedup_Table_find_1) [] []] [.arr 3 rowT xs []] (finV (.tup [.int .i64, .bool]) [.arr 3 rowT []] 1) = some ((((posL xs p : Nat) : Int), hasL xs p, ()), ((xs, ()), ())) := by
  simp only [Bool.and_eq_true, decide_eq_true_eq] at hc
  rw [bs_ev, hc.1, decide_eq_true hc.2, decide_eq_true rfl]
  simp only [Bool.and_self, cond_true]
  unfold hasL
  by_cases h : posL xs p < xs.length
  · rw [cond_pos (by omega), cond_pos2 (by omega) (by omega), decide_eq_true h, cmp_eq, Bool.true_and]
    rfl
  · rw [cond_neg (by omega), decide_eq_false h, Bool.false_and]
theorem bs_ok : caseBs.e.ok P0 I.slices_BinarySearchFunc_dedup_Row_dedup_Row_int := vcase_ok (c := caseBs) (H := H.slices_BinarySearchFunc_dedup_Row_dedup_Row_int) (E := env consA4) (env_ok consA4_ok) glob0 mixed0 G.slices_BinarySearchFunc_dedup_Row_dedup_Row_int Bd.slices_BinarySearchFunc_dedup_Row_dedup_Row_int (by kernel_rfl) (loops_good (tab := [(3, bsLC)]) (by kernel_rfl) (fun x hx => by simp at hx; subst hx; exact bs_lok)) fun ⟨_, p, _, ()⟩ ⟨⟨xs, ()⟩, ()⟩ r h hw1 hw2 => by
  obtain ⟨hc, rfl⟩ := pick_pre h
  exact bs_val xs p hc
theorem bs0_ev (p : Int) : evFn (env consA4) H.slices_BinarySearchFunc_dedup_Row_dedup_Row_int (loopsF (env consA4) H.slices_BinarySearchFunc_dedup_Row_dedup_Row_int 0 B.slices_BinarySearchFunc_dedup_Row_dedup_Row_int 3) F.slices_BinarySearchFunc_dedup_Row_dedup_Row_int [.nils, .int .i64 p, .fn (.func I.dedup_Table_find_1) [] []] [] (finV (.tup [.int .i64, .bool]) [] 0) = some (((0 : Int), false, ()), ()) := by kernel_rfl

theorem ins0_ev (r : Row3) : evFn (env consA3) H.ins2 (LPof []) F.slices_Insert_dedup_Row_dedup_Row [.nils, .int .i64 0, .hw 0] [insObj r] (finV (.lit (.hw 1)) [.box 3 [[.int .i64, .int .i64, .int .i64]], .arr 3 rowT []] 1) = some ((), ((r.fst, r.snd.fst, r.snd.snd, ()), ()), ([r], ()), ()) := by kernel_rfl

def caseBs0 : VCase := ⟨[.lit .nils, .int .i64, .fn I.dedup_Table_find_1 []], [], .tup [.int .i64, .bool], [], fun ⟨_, p, _, ()⟩ () => [(true, (((0 : Int), false, ()), ()))]⟩
theorem bs0_val (p : Int) : evFn (env consA4) H.slices_BinarySearchFunc_dedup_Row_dedup_Row_int (loopsF (env consA4) H.slices_BinarySearchFunc_dedup_Row_dedup_Row_int 0 B.slices_BinarySearchFunc_dedup_Row_dedup_Row_int 3) F.slices_BinarySearchFunc_dedup_Row_dedup_Row_int [.nils, .int .i64 p, .fn (.func I.dedup_Table_find_1) [] []] [] (finV (.tup [.int .i64, .bool]) [] 0) = some (((0 : Int), false, ()), ()) := by
  exact bs0_ev p
theorem bs0_ok : caseBs0.e.ok P0 I.slices_BinarySearchFunc_dedup_Row_dedup_Row_int := vcase_ok (c := caseBs0) (H := H.slices_BinarySearchFunc_dedup_Row_dedup_Row_int) (E := env consA4) (env_ok consA4_ok) glob0 mixed0 G.slices_BinarySearchFunc_dedup_Row_dedup_Row_int Bd.slices_BinarySearchFunc_dedup_Row_dedup_Row_int (by kernel_rfl) (loopsF_good (env_ok consA4_ok) glob0 mixed0 (by kernel_rfl) 3) fun ⟨_, p, _, ()⟩ () r h hw1 hw2 => by
  obtain ⟨hc, rfl⟩ := pick_pre h
  exact bs0_val p
def caseIns0 : VCase := ⟨[.lit .nils, .lit (.int .i64 0), .lit (.hw 0)], [.box 3 [[.int .i64, .int .i64, .int .i64]]], .lit (.hw 1), [.box 3 [[.int .i64, .int .i64, .int .i64]], .arr 3 rowT []],
  fun _ ⟨⟨⟨a, b, c, _⟩, _⟩, _⟩ => [(true, ((), (((a, b, c, ()), ()), ([(a, b, c)], ()), ())))]⟩
theorem ins0_ok : caseIns0.e.ok P0 I.slices_Insert_dedup_Row_dedup_Row := vcase_ok (c := caseIns0) (H := H.ins2) (E := env consA3) (env_ok consA3_ok) glob0 mixed0 G.slices_Insert_dedup_Row_dedup_Row Bd.slices_Insert_dedup_Row_dedup_Row (by kernel_rfl) noLoops fun _ ⟨⟨⟨a, b, c, _⟩, _⟩, _⟩ r h hw1 hw2 => by
  obtain ⟨hc, rfl⟩ := pick_pre h
  exact ins0_ev (a, b, c)
noncomputable abbrev consB1 : List (FuncId × Con) := [(I.slices_BinarySearchFunc_dedup_Row_dedup_Row_int, .eff (effOf [caseBs.e, caseBs0.e])), (I.slices_Insert_dedup_Row_dedup_Row, .eff (effOf [caseIns.e, caseIns0.e]))]
theorem consB1_ok : ∀ x ∈ consB1, HoldsC P0 x.1 x.2 := by
  intro x hx
  simp at hx
  rcases hx with rfl | rfl
  · exact ⟨fun args objs r objs2 h _ => effOf_holds (by simp; exact ⟨bs_ok, bs0_ok⟩) args objs r objs2 h, C.slices_BinarySearchFunc_dedup_Row_dedup_Row_int⟩
  · exact ⟨fun args objs r objs2 h _ => effOf_holds (by simp; exact ⟨ins_ok, ins0_ok⟩) args objs r objs2 h, C.slices_Insert_dedup_Row_dedup_Row⟩
noncomputable abbrev consB2 : List (FuncId × Con) := [(I.dedup_Table_find, inl (env consB1) H.dedup_Table_find F.dedup_Table_find (fun R k0 => loopsF (env consB1) H.dedup_Table_find k0 B.dedup_Table_find 1))] ++ consB1
theorem consB2_ok : ∀ x ∈ consB2, HoldsC P0 x.1 x.2 := by
  intro x hx
  rcases List.mem_append.1 hx with hx | hx
  · simp at hx
    subst hx
    exact inl_ok (env_ok consB1_ok) glob0 mixed0 G.dedup_Table_find Bd.dedup_Table_find C.dedup_Table_find (fun R k0 => loopsF_good (env_ok consB1_ok) glob0 mixed0 (by kernel_rfl) 1)
  · exact consB1_ok x hx
end Go.Sim.XD
namespace Go.Sim.XD
set_option linter.unusedSimpArgs false
set_option linter.unusedVariables false
set_option maxRecDepth 10000
def H.set2 : Hint := { H.dedup_Table_Set with vs := [] }
theorem ask_ev (xs : List Row3) (p s : Int) : evFn (env consB2) H.dedup_Table_Ask (LPof []) F.dedup_Table_Ask [.ptr 0 (.tl 0) 0, .int .i64 p, .int .i64 s] [.arr 1 .bool [] [[.hw 1]], .arr 3 rowT xs []] (finV (.tup [.int .i64, .int .i64]) [.box 1 [[.lit (.hw 1)]], .arr 3 rowT []] 2) = bif sortedL xs && decide (xs.length ≤ 1000000) then Option.bind (bif !hasL xs p then some (s == (0 : Int)) else some false) fun v => bif v then some (((0 : Int), (0 : Int), ()), (((), ()), ()), (xs, ()), ()) else bif !hasL xs p then some (((2 : Int), (0 : Int), ()), (((), ()), ()), (xs, ()), ()) else bif decide ((0 : Int) ≤ (↑(posL xs p) : Int)) && decide ((↑(posL xs p) : Int) < (↑xs.length : Int)) then bif (xs.getD (posL xs p) rowT.zero).snd.fst == s then bif decide ((0 : Int) ≤ (↑(posL xs p) : Int)) && decide ((↑(posL xs p) : Int) < (↑xs.length : Int)) then some (((1 : Int), (xs.getD (posL xs p) rowT.zero).snd.snd, ()), (((), ()), ()), (xs, ()), ()) else none else Option.bind (bif decide ((0 : Int) ≤ (↑(posL xs p) : Int)) && decide ((↑(posL xs p) : Int) < (↑xs.length : Int)) then bif decide ((xs.getD (posL xs p) rowT.zero).snd.fst < s) then bif decide ((0 : Int) ≤ (↑(posL xs p) : Int)) && decide ((↑(posL xs p) : Int) < (↑xs.length : Int)) then some (IntKind.i64.wrap ((xs.getD (posL xs p) rowT.zero).snd.fst + (1 : Int)) == s) else none else some false else none) fun v => bif v then some (((0 : Int), (0 : Int), ()), (((), ()), ()), (xs, ()), ()) else some (((2 : Int), (0 : Int), ()), (((), ()), ()), (xs, ()), ()) else none else none := by kernel_rfl

theorem ask0_ev (p s : Int) : evFn (env consB2) H.dedup_Table_Ask (LPof []) F.dedup_Table_Ask [.ptr 0 (.tl 0) 0, .int .i64 p, .int .i64 s] [.arr 1 .bool [] [[.nils]]] (finV (.tup [.int .i64, .int .i64]) [.box 1 [[.lit .nils]]] 1) = bif s == (0 : Int) then some (((0 : Int), (0 : Int), ()), (((), ()), ()), ()) else some (((2 : Int), (0 : Int), ()), (((), ()), ()), ()) := by kernel_rfl

theorem seto_ev (xs : List Row3) (p s o : Int) : evFn (env consB2) H.set2 (LPof []) F.dedup_Table_Set [.ptr 0 (.tl 0) 0, .int .i64 p, .int .i64 s, .int .i64 o] [.arr 1 .bool [] [[.hw 1]], .arr 3 rowT xs []] (finV (.int .i64) [.box 1 [[.lit (.hw 1)]], .arr 3 rowT []] 2) = bif sortedL xs && decide (xs.length ≤ 1000000) then bif hasL xs p then bif decide ((0 : Int) ≤ (↑(posL xs p) : Int)) && decide ((↑(posL xs p) : Int) < (↑xs.length : Int)) then some ((0 : Int), (((), ()), ()), (xs.set (posL xs p) (p, s, o), ()), ()) else none else bif decide ((↑xs.length : Int) ≥ (100 : Int)) then some ((7 : Int), (((), ()), ()), (xs, ()), ()) else bif decide ((0 : (Pat.int IntKind.i64).den) ≤ (↑(posL xs p) : Int)) && decide ((↑(posL xs p) : Int) ≤ (↑xs.length : Int)) && decide (xs.length ≤ 1000000) then none else none else none := by kernel_rfl

theorem setn_ev (xs : List Row3) (p s o : Int) : evFn (env consB2) H.set2 (LPof []) F.dedup_Table_Set [.ptr 0 (.tl 0) 0, .int .i64 p, .int .i64 s, .int .i64 o] [.arr 1 .bool [] [[.hw 1]], .arr 3 rowT xs []] (finV (.int .i64) [.box 1 [[.lit (.hw 2)]], .dead, .arr 3 rowT []] 2) = bif sortedL xs && decide (xs.length ≤ 1000000) then bif hasL xs p then bif decide ((0 : Int) ≤ (↑(posL xs p) : Int)) && decide ((↑(posL xs p) : Int) < (↑xs.length : Int)) then none else none else bif decide ((↑xs.length : Int) ≥ (100 : Int)) then none else bif decide ((0 : (Pat.int IntKind.i64).den) ≤ (↑(posL xs p) : Int)) && decide ((↑(posL xs p) : Int) ≤ (↑xs.length : Int)) && decide (xs.length ≤ 1000000) then some ((0 : Int), (((), ()), ()), (), (putAt xs (posL xs p) (posL xs p) (p, s, o), ()), ()) else none else none := by kernel_rfl

theorem set0_ev (p s o : Int) : evFn (env consB2) H.set2 (LPof []) F.dedup_Table_Set [.ptr 0 (.tl 0) 0, .int .i64 p, .int .i64 s, .int .i64 o] [.arr 1 .bool [] [[.nils]]] (finV (.int .i64) [.box 1 [[.lit (.hw 1)]], .arr 3 rowT []] 1) = some ((0 : Int), (((), ()), ()), ([(p, s, o)], ()), ()) := by kernel_rfl

theorem wrap_next {a b : Int} (ha : In .i64 a) (h : a < b) (hb : In .i64 b) : (IntKind.i64.wrap (a + 1) == b) = (a == b - 1) := by
  have h1 := In.i64.1 ha
  have h2 := In.i64.1 hb
  rw [wrap64 (by omega) (by omega)]
  apply Bool.eq_iff_iff.2
  simp only [beq_iff_eq]
  omega
theorem at_in {xs : List Row3} (h : ∀ r ∈ xs, wfT rowT r) {i : Nat} (hi : i < xs.length) : wfT rowT (xs.getD i rowT.zero) := by
  rw [List.getD_eq_getElem?_getD, List.getElem?_eq_getElem hi]
  exact h _ (List.getElem_mem hi)
theorem has_lt {xs : List Row3} {p : Int} (h : hasL xs p = true) : posL xs p < xs.length := by
  unfold hasL at h
  simp only [Bool.and_eq_true, decide_eq_true_eq] at h
  exact h.1
theorem set_putAt (xs : List Row3) (k : Nat) (r : Row3) (h : k < xs.length) : xs.set k r = putAt xs k (k + 1) r := by
  unfold putAt
  rw [List.set_eq_take_append_cons_drop, if_pos h]
def caseAsk : VCase := ⟨[.lit (.ptr 0 (.tl 0) 0), .int .i64, .int .i64], [.box 1 [[.lit (.hw 1)]], .arr 3 rowT []], .tup [.int .i64, .int .i64], [.box 1 [[.lit (.hw 1)]], .arr 3 rowT []], fun ⟨_, p, s, ()⟩ ⟨_, ⟨xs, ()⟩, ()⟩ => [(sortedL xs && decide (List.length xs ≤ 1000000), (((askL xs p s).1, (askL xs p s).2, ()), ((((), ()), ()), (xs, ()), ())))]⟩
theorem ask_val (xs : List Row3) (p s : Int) (hc : (sortedL xs && decide (List.length xs ≤ 1000000)) = true) (hs : In .i64 s) (hx : ∀ r ∈ xs, wfT rowT r) : evFn (env consB2) H.dedup_Table_Ask (LPof []) F.dedup_Table_Ask [.ptr 0 (.tl 0) 0, .int .i64 p, .int .i64 s] [.arr 1 .bool [] [[.hw 1]], .arr 3 rowT xs []] (finV (.tup [.int .i64, .int .i64]) [.box 1 [[.lit (.hw 1)]], .arr 3 rowT []] 2) = some (((askL xs p s).1, (askL xs p s).2, ()), ((((), ()), ()), (xs, ()), ())) := by
  rw [ask_ev, hc, cond_true]
  unfold askL
  cases hh : hasL xs p with
  | false => cases s == 0 <;> rfl
  | true =>
    have hk := has_lt hh
    have hi := at_in hx hk
    simp only [Bool.not_true, cond_false, cond_true, Option.bind_some]
    rw [cond_pos2 (by omega) (by omega)]
    by_cases h1 : (xs.getD (posL xs p) rowT.zero).2.1 = s
    · have e1 : ((xs.getD (posL xs p) rowT.zero).2.1 == s) = true := by simpa using h1
      have e2 : ((atL xs (posL xs p)).2.1 == s) = true := e1
      rw [e1, e2, cond_true, cond_pos2 (by omega) (by omega)]
      rfl
    · have e1 : ((xs.getD (posL xs p) rowT.zero).2.1 == s) = false := by simpa using h1
      have e2 : ((atL xs (posL xs p)).2.1 == s) = false := e1
      rw [e1, e2, cond_false, cond_false, cond_pos2 (by omega) (by omega)]
      by_cases h2 : (xs.getD (posL xs p) rowT.zero).2.1 < s
      · have h2' : (atL xs (posL xs p)).2.1 < s := h2
        rw [cond_pos h2, cond_pos2 (by omega) (by omega), wrap_next hi.2.1 h2 hs, Option.bind_some, decide_eq_true h2', Bool.true_and]
        show (bif (atL xs (posL xs p)).2.1 == s - 1 then _ else _) = _
        cases (atL xs (posL xs p)).2.1 == s - 1 <;> rfl
      · have h2' : ¬ (atL xs (posL xs p)).2.1 < s := h2
        rw [cond_neg h2, decide_eq_false h2']
        rfl
theorem ask_ok : caseAsk.e.ok P0 I.dedup_Table_Ask := vcase_ok (c := caseAsk) (H := H.dedup_Table_Ask) (E := env consB2) (env_ok consB2_ok) glob0 mixed0 G.dedup_Table_Ask Bd.dedup_Table_Ask (by kernel_rfl) noLoops fun ⟨_, p, s, ()⟩ ⟨_, ⟨xs, ()⟩, ()⟩ r h hw1 hw2 => by
  obtain ⟨hc, rfl⟩ := pick_pre h
  exact ask_val xs p s hc hw1.2.2.1 hw2.2.1.1.2
def caseAsk0 : VCase := ⟨[.lit (.ptr 0 (.tl 0) 0), .int .i64, .int .i64], [.box 1 [[.lit .nils]]], .tup [.int .i64, .int .i64], [.box 1 [[.lit .nils]]], fun ⟨_, p, s, ()⟩ _ => [(true, (((askL [] p s).1, (askL [] p s).2, ()), ((((), ()), ()), ())))]⟩
theorem ask0_val (p s : Int) : evFn (env consB2) H.dedup_Table_Ask (LPof []) F.dedup_Table_Ask [.ptr 0 (.tl 0) 0, .int .i64 p, .int .i64 s] [.arr 1 .bool [] [[.nils]]] (finV (.tup [.int .i64, .int .i64]) [.box 1 [[.lit .nils]]] 1) = some (((askL [] p s).1, (askL [] p s).2, ()), ((((), ()), ()), ())) := by
  rw [ask0_ev]
  have : askL [] p s = bif s == 0 then (0, 0) else (2, 0) := rfl
  rw [this]
  cases s == 0 <;> rfl
theorem ask0_ok : caseAsk0.e.ok P0 I.dedup_Table_Ask := vcase_ok (c := caseAsk0) (H := H.dedup_Table_Ask) (E := env consB2) (env_ok consB2_ok) glob0 mixed0 G.dedup_Table_Ask Bd.dedup_Table_Ask (by kernel_rfl) noLoops fun ⟨_, p, s, ()⟩ _ r h hw1 hw2 => by
  obtain ⟨hc, rfl⟩ := pick_pre h
  exact ask0_val p s
def caseSetO : VCase := ⟨[.lit (.ptr 0 (.tl 0) 0), .int .i64, .int .i64, .int .i64], [.box 1 [[.lit (.hw 1)]], .arr 3 rowT []], .int .i64, [.box 1 [[.lit (.hw 1)]], .arr 3 rowT []], fun ⟨_, p, s, o, _⟩ ⟨_, ⟨xs, _⟩, _⟩ =>
  [(sortedL xs && decide (List.length xs ≤ 1000000) && (hasL xs p || decide ((List.length xs : Int) ≥ 100)), ((setL xs (p, s, o)).2, ((((), ()), ()), ((setL xs (p, s, o)).1, ()), ())))]⟩
theorem seto_ok : caseSetO.e.ok P0 I.dedup_Table_Set := vcase_ok (c := caseSetO) (H := H.set2) (E := env consB2) (env_ok consB2_ok) glob0 mixed0 G.dedup_Table_Set Bd.dedup_Table_Set (by kernel_rfl) noLoops fun ⟨_, p, s, o, _⟩ ⟨_, ⟨xs, _⟩, _⟩ r h hw1 hw2 => by
  obtain ⟨hc, rfl⟩ := pick_pre h
  refine (seto_ev xs p s o).trans ?_
  cases h1 : sortedL xs && decide (List.length xs ≤ 1000000) with
  | false => rw [h1] at hc; cases hc
  | true =>
    rw [h1, Bool.true_and] at hc
    unfold setL
    simp only [cond_true]
    cases hh : hasL xs p with
    | true =>
      have hk := has_lt hh
      rw [cond_true, cond_true, cond_pos2 (by omega) (Int.ofNat_lt.2 hk), set_putAt xs _ _ hk]
      rfl
    | false =>
      rw [hh, Bool.false_or] at hc
      rw [cond_false, cond_false, hc]
      rfl
def caseSetN : VCase := ⟨[.lit (.ptr 0 (.tl 0) 0), .int .i64, .int .i64, .int .i64], [.box 1 [[.lit (.hw 1)]], .arr 3 rowT []], .int .i64, [.box 1 [[.lit (.hw 2)]], .dead, .arr 3 rowT []], fun ⟨_, p, s, o, _⟩ ⟨_, ⟨xs, _⟩, _⟩ =>
  [(sortedL xs && decide (List.length xs ≤ 1000000) && !(hasL xs p || decide ((List.length xs : Int) ≥ 100)), ((setL xs (p, s, o)).2, ((((), ()), ()), (), ((setL xs (p, s, o)).1, ()), ())))]⟩
theorem setn_ok : caseSetN.e.ok P0 I.dedup_Table_Set := vcase_ok (c := caseSetN) (H := H.set2) (E := env consB2) (env_ok consB2_ok) glob0 mixed0 G.dedup_Table_Set Bd.dedup_Table_Set (by kernel_rfl) noLoops fun ⟨_, p, s, o, _⟩ ⟨_, ⟨xs, _⟩, _⟩ r h hw1 hw2 => by
  obtain ⟨hc, rfl⟩ := pick_pre h
  refine (setn_ev xs p s o).trans ?_
  cases h1 : sortedL xs && decide (List.length xs ≤ 1000000) with
  | false => rw [h1] at hc; cases hc
  | true =>
    rw [h1, Bool.true_and] at hc
    have h2 : decide (List.length xs ≤ 1000000) = true := (Bool.and_eq_true_iff.1 h1).2
    unfold setL
    simp only [cond_true]
    cases hh : hasL xs p with
    | true => rw [hh, Bool.true_or] at hc; cases hc
    | false =>
      rw [hh, Bool.false_or] at hc
      have hc : decide ((List.length xs : Int) ≥ 100) = false := by simpa using hc
      have hp := pos_le xs p
      rw [cond_false, cond_false, hc, cond_false, h2, Bool.and_true]
      rw [cond_pos2 (Int.natCast_nonneg _) (Int.ofNat_le.2 hp)]
      rfl
def caseSet0 : VCase := ⟨[.lit (.ptr 0 (.tl 0) 0), .int .i64, .int .i64, .int .i64], [.box 1 [[.lit .nils]]], .int .i64, [.box 1 [[.lit (.hw 1)]], .arr 3 rowT []], fun ⟨_, p, s, o, _⟩ _ => [(true, ((0 : Int), ((((), ()), ()), ([(p, s, o)], ()), ())))]⟩
theorem set0_ok : caseSet0.e.ok P0 I.dedup_Table_Set := vcase_ok (c := caseSet0) (H := H.set2) (E := env consB2) (env_ok consB2_ok) glob0 mixed0 G.dedup_Table_Set Bd.dedup_Table_Set (by kernel_rfl) noLoops fun ⟨_, p, s, o, _⟩ _ r h hw1 hw2 => by
  obtain ⟨hc, rfl⟩ := pick_pre h
  exact set0_ev p s o
theorem pick_or {α : Type} {v : α} : ∀ {a b : List (Bool × α)}, pick (a ++ b) = some v → pick a = some v ∨ pick b = some v
  | [], _, h => .inr h
  | (true, u) :: _, _, h => .inl h
  | (false, u) :: a, b, h => pick_or (a := a) h
def caseSetE : ECase := ⟨caseSetO.ins, caseSetO.objs, fun x y => caseSetO.e.f x y ++ caseSetN.e.f x y⟩
theorem set_ok : caseSetE.ok P0 I.dedup_Table_Set := fun x y r objs' h hw1 hw2 => by
  rcases pick_or h with h | h
  · exact seto_ok x y r objs' h hw1 hw2
  · exact setn_ok x y r objs' h hw1 hw2
noncomputable abbrev consB3 : List (FuncId × Con) := [(I.dedup_Table_Ask, .eff (effOf [caseAsk.e, caseAsk0.e])), (I.dedup_Table_Set, .eff (effOf [caseSetE, caseSet0.e]))]
theorem consB3_ok : ∀ x ∈ consB3, HoldsC P0 x.1 x.2 := by
  intro x hx
  simp at hx
  rcases hx with rfl | rfl
  · exact ⟨fun args objs r objs2 h _ => effOf_holds (by simp; exact ⟨ask_ok, ask0_ok⟩) args objs r objs2 h, C.dedup_Table_Ask⟩
  · exact ⟨fun args objs r objs2 h _ => effOf_holds (by simp; exact ⟨set_ok, set0_ok⟩) args objs r objs2 h, C.dedup_Table_Set⟩
end Go.Sim.XD
namespace Go.Sim
set_option linter.unusedSimpArgs false
set_option linter.unusedVariables false
set_option maxRecDepth 10000
open Go.Sim.XU
theorem num16_ev (n : Int) : evFn (env []) H.cooperagelaw16_num (LPof []) F.cooperagelaw16_num [.int .i64 n] [] (finT [.int .i64]) = some (n, ()) := by kernel_rfl

def caseNum16 : PCase := ⟨[.ty (.int .i64)], [.int .i64], fun x => (fun (n : Int) => [(true, (n, ()))]) x.1⟩
theorem num16_val (n : Int) : evFn (env []) H.cooperagelaw16_num (LPof []) F.cooperagelaw16_num [.int .i64 n] [] (finT [.int .i64]) = some (n, ()) := by
  rw [num16_ev]
theorem num16_ok : caseNum16.ok P0 I.cooperagelaw16_num := case_ok2 (H := H.cooperagelaw16_num) (E := env []) (env_ok env_nil) glob0 mixed0 G.cooperagelaw16_num Bd.cooperagelaw16_num (by kernel_rfl) noLoops fun ⟨n, ()⟩ y h hw => by
  obtain ⟨hc, rfl⟩ := pick_pre h
  exact num16_val n
noncomputable abbrev consQ1 : List (FuncId × Con) := [(I.state_failed, inl (env []) H.state_failed F.state_failed (fun R k0 => loopsF (env []) H.state_failed k0 B.state_failed 1)), (I.dedup_Table_Ask, .eff (effOf [XD.caseAsk.e, XD.caseAsk0.e])), (I.dedup_Table_Set, .eff (effOf [XD.caseSetE, XD.caseSet0.e])), (I.segs_Log_Append, .eff (effOf [XU.caseAppend.e])), (I.segs_Log_High, .eff (effOf [XU.caseHigh.e])), (I.segs_Log_Low, .eff (effOf [XU.caseLow.e])), (I.segs_New, .eff (effOf [XU.caseNew.e]))]
theorem consQ1_ok : ∀ x ∈ consQ1, HoldsC P0 x.1 x.2 := by
  intro x hx
  simp at hx
  rcases hx with rfl | rfl | rfl | rfl | rfl | rfl | rfl
  · exact inl_ok (env_ok env_nil) glob0 mixed0 G.state_failed Bd.state_failed C.state_failed (fun R k0 => loopsF_good (env_ok env_nil) glob0 mixed0 (by kernel_rfl) 1)
  · exact ⟨fun args objs r objs2 h _ => effOf_holds (by simp; exact ⟨XD.ask_ok, XD.ask0_ok⟩) args objs r objs2 h, C.dedup_Table_Ask⟩
  · exact ⟨fun args objs r objs2 h _ => effOf_holds (by simp; exact ⟨XD.set_ok, XD.set0_ok⟩) args objs r objs2 h, C.dedup_Table_Set⟩
  · exact ⟨fun args objs r objs2 h _ => effOf_holds (by simp; exact XU.append_ok) args objs r objs2 h, C.segs_Log_Append⟩
  · exact ⟨fun args objs r objs2 h _ => effOf_holds (by simp; exact XU.high_ok) args objs r objs2 h, C.segs_Log_High⟩
  · exact ⟨fun args objs r objs2 h _ => effOf_holds (by simp; exact XU.low_ok) args objs r objs2 h, C.segs_Log_Low⟩
  · exact ⟨fun args objs r objs2 h _ => effOf_holds (by simp; exact XU.new_ok) args objs r objs2 h, C.segs_New⟩
noncomputable abbrev consQ2 : List (FuncId × Con) := [(I.state_typed, inl (env []) H.state_typed F.state_typed (fun R k0 => loopsF (env []) H.state_typed k0 B.state_typed 1)), (I.state_State_produce, inl (env consQ1) H.state_State_produce F.state_State_produce (fun R k0 => loopsF (env consQ1) H.state_State_produce k0 B.state_State_produce 1)), (I.state_State_tidy, inl (env consQ1) H.state_State_tidy F.state_State_tidy (fun R k0 => loopsF (env consQ1) H.state_State_tidy k0 B.state_State_tidy 1)), (I.command_Right, .pure (pureOf [XS.caseCright]))] ++ consQ1
theorem consQ2_ok : ∀ x ∈ consQ2, HoldsC P0 x.1 x.2 := by
  intro x hx
  rcases List.mem_append.1 hx with hx | hx
  · simp at hx
    rcases hx with rfl | rfl | rfl | rfl
    · exact inl_ok (env_ok env_nil) glob0 mixed0 G.state_typed Bd.state_typed C.state_typed (fun R k0 => loopsF_good (env_ok env_nil) glob0 mixed0 (by kernel_rfl) 1)
    · exact inl_ok (env_ok consQ1_ok) glob0 mixed0 G.state_State_produce Bd.state_State_produce C.state_State_produce (fun R k0 => loopsF_good (env_ok consQ1_ok) glob0 mixed0 (by kernel_rfl) 1)
    · exact inl_ok (env_ok consQ1_ok) glob0 mixed0 G.state_State_tidy Bd.state_State_tidy C.state_State_tidy (fun R k0 => loopsF_good (env_ok consQ1_ok) glob0 mixed0 (by kernel_rfl) 1)
    · exact ⟨pureOf_holds (by simp; exact XS.cright_ok), C.command_Right⟩
  · exact consQ1_ok x hx
noncomputable abbrev consQ3 : List (FuncId × Con) := [(I.cooperagelaw16_num, .pure (pureOf [caseNum16])), (I.state_New, inl (env consQ1) H.state_New F.state_New (fun R k0 => loopsF (env consQ1) H.state_New k0 B.state_New 1)), (I.state_State_Apply, inl (env consQ2) H.state_State_Apply F.state_State_Apply (fun R k0 => loopsF (env consQ2) H.state_State_Apply k0 B.state_State_Apply 1))] ++ consQ1
theorem consQ3_ok : ∀ x ∈ consQ3, HoldsC P0 x.1 x.2 := by
  intro x hx
  rcases List.mem_append.1 hx with hx | hx
  · simp at hx
    rcases hx with rfl | rfl | rfl
    · exact ⟨pureOf_holds (by simp; exact num16_ok), C.cooperagelaw16_num⟩
    · exact inl_ok (env_ok consQ1_ok) glob0 mixed0 G.state_New Bd.state_New C.state_New (fun R k0 => loopsF_good (env_ok consQ1_ok) glob0 mixed0 (by kernel_rfl) 1)
    · exact inl_ok (env_ok consQ2_ok) glob0 mixed0 G.state_State_Apply Bd.state_State_Apply C.state_State_Apply (fun R k0 => loopsF_good (env_ok consQ2_ok) glob0 mixed0 (by kernel_rfl) 1)
  · exact consQ1_ok x hx
def H.al16 : Hint := { H.cooperagelaw16_alive with vs := [9], join := [] }
theorem alive16_ev : evFn (env consQ3) H.al16 (LPof []) F.cooperagelaw16_alive [] [] (finT [.bool]) = some (true, ()) := by kernel_rfl

end Go.Sim
namespace Go.Sim
set_option linter.unusedSimpArgs false
set_option linter.unusedVariables false
set_option maxRecDepth 10000
open Go.Sim.XU
abbrev actT (b n z : Int) : List AV := [.int .i64 b, .int .i64 n, .int .i64 0, .int .i64 0, .hw 3, .bool false, .bool false, .bool false, .int .i64 z, .int .u32 0]
abbrev actTP : List Pat := [.int .i64, .int .i64, .lit (.int .i64 0), .lit (.int .i64 0), .lit (.hw 3), .lit (.bool false), .lit (.bool false), .lit (.bool false), .int .i64, .lit (.int .u32 0)]
abbrev boxP : OPat := .box 7 [[.lit (.ptr 1 (.tl 0) 0), .int .i64, .int .i64, .int .i64, .int .i64, .lit (.ptr 4 (.tl 0) 0), .lit (.ptr 5 (.tl 0) 0)]]
abbrev boxO (c1 c2 c3 c4 : Int) : AObj := .arr 7 .bool [] [[.ptr 1 (.tl 0) 0, .int .i64 c1, .int .i64 c2, .int .i64 c3, .int .i64 c4, .ptr 4 (.tl 0) 0, .ptr 5 (.tl 0) 0]]
/-! ### the plain law: from which segment on a time is there -/
def lateR (now : Int) (rs : List Rec) : Bool := rs.any fun r => decide (r.2.1 ≥ now)
def lateG (now : Int) (g : Seg) : Bool := bif g.2.2.2.2.2.1 then decide (g.2.2.1 ≥ now) else lateR now g.2.2.2.2.1
def lateB (now : Int) (L : LogS) : Option Int := ((segsL L).find? (lateG now)).map (·.1)
/-- What holds of the log, and of what the law wants, once i numbers are in. -/
structure InvS (now : Int) (c n i : Nat) (L : LogS) (w : Int) : Prop where
  next : L.2.2.1 = (i : Int)
  base : L.2.1 = ((i / c * c : Nat) : Int)
  bnd : ∀ b, lateB now L = some b → b ≤ L.2.1
  want : w = (lateB now L).getD (n : Int)
  low : lowP L = 0
  ok : okB (4 * i) L = true
abbrev stAP : List OPat := [boxP, .box 1 [[.lit (.hw 2)]], .arr 10 segT [actTP], .log recT, .box 1 [[.lit .nils]], .box 1 [[.lit .nils]]]
def stAO (c1 c2 c3 c4 : Int) (f : List Seg) (b n z : Int) (rs : List Rec) : List (Nat × AObj) := [(0, boxO c1 c2 c3 c4), (1, .arr 1 .bool [] [[.hw 2]]), (2, .arr 10 segT f [actT b n z]), (3, .log recT rs), (4, .arr 1 .bool [] [[.nils]]), (5, .arr 1 .bool [] [[.nils]])]
end Go.Sim
namespace Go.Sim
set_option linter.unusedSimpArgs false
set_option linter.unusedVariables false
set_option maxRecDepth 10000
open Go.Sim.XU
def caseAlive16 : PCase := ⟨[], [.bool], fun _ => [(true, (true, ()))]⟩
theorem alive16_ok : caseAlive16.ok P0 I.cooperagelaw16_alive := case_ok2 (H := H.al16) (E := env consQ3) (env_ok consQ3_ok) glob0 mixed0 G.cooperagelaw16_alive Bd.cooperagelaw16_alive (by kernel_rfl) noLoops fun x y h hw => by
  obtain ⟨hc, rfl⟩ := pick_pre h
  exact alive16_ev
end Go.Sim
namespace Go.Sim
set_option linter.unusedSectionVars false
section
variable {P : Program} [Tabs P] {E : Env} {H : Hint} {k0 : Nat} {R : Type}
end
end Go.Sim
namespace Go.Sim
set_option linter.unusedSimpArgs false
set_option linter.unusedVariables false
set_option maxRecDepth 10000
open Go.Sim.XU
end Go.Sim
namespace Go.Sim
set_option linter.unusedSimpArgs false
set_option linter.unusedVariables false
set_option maxRecDepth 10000
open Go.Sim.XU
theorem apR_next {most : Int} {L : LogS} {r : Rec} (h : recR (0, r.2) = true) : (apR most L r).2.2.1 = L.2.2.1 + 1 := by
  unfold apR
  rw [h, cond_true]
  cases decide (L.2.2.1 + 1 - L.2.1 ≥ mxI most) with
  | true => rw [cond_true, sealP_next]; rfl
  | false => rfl
theorem apR_low (most : Int) (L : LogS) (r : Rec) : lowP (apR most L r) = lowP L := by
  unfold apR
  cases recR (0, r.2) with
  | false => rfl
  | true =>
    rw [cond_true]
    cases decide (L.2.2.1 + 1 - L.2.1 ≥ mxI most) with
    | true => rw [cond_true, lowP_seal]; rfl
    | false => rfl
end Go.Sim
namespace Go.Sim
set_option linter.unusedSimpArgs false
set_option linter.unusedVariables false
set_option maxRecDepth 10000
open Go.Sim.XU
end Go.Sim
namespace Go.Sim
set_option linter.unusedSimpArgs false
set_option linter.unusedVariables false
set_option maxRecDepth 10000
open Go.Sim.XU
def recO (l : List Rec) (j : Nat) : Rec := ((j : Int), (l.getD j recTy.zero).2)
def slO (l : List Rec) (a k : Nat) : List Rec := (List.range k).map fun j => recO l (a + j)
def segOK (l : List Rec) (g : Seg) (a k : Nat) : Prop := g.1 = (a : Int) ∧ g.2.1 = ((a + k : Nat) : Int) ∧ g.2.2.2.2.1 = slO l a k ∧ g.2.2.2.2.2.2.2.1 = false
def chainO (l : List Rec) : Nat → List Seg → Nat → Prop
  | a, [], e => a = e
  | a, g :: r, e => ∃ k, 0 < k ∧ segOK l g a k ∧ chainO l (a + k) r e
/-- What holds of the log once i records are in. -/
structure InvR (l : List Rec) (i : Nat) (M : LogS) : Prop where
  next : M.2.2.1 = (i : Int)
  parts : ∃ e : Nat, M.2.1 = (e : Int) ∧ e ≤ i ∧ M.2.2.2.2 = slO l e (i - e) ∧ chainO l 0 M.1 e
  low : lowP M = 0
  ok : okB (2 * i) M = true
end Go.Sim
namespace Go.Sim
set_option linter.unusedSimpArgs false
set_option linter.unusedVariables false
set_option maxRecDepth 10000
open Go.Sim.XU
def H.out2 : Hint := { H.state_State_out with join := [] }
end Go.Sim
namespace Go.Sim
set_option linter.unusedSimpArgs false
set_option linter.unusedVariables false
abbrev Row2 := List UInt8 × Int
theorem sl_irrefl : ∀ a : List UInt8, strLess a a = false
  | [] => rfl
  | a :: x => by simp [strLess, sl_irrefl x]
theorem sl_trans : ∀ {a b c : List UInt8}, strLess a b = true → strLess b c = true → strLess a c = true
  | [], [], _, h, _ => by simp [strLess] at h
  | [], _ :: _, [], _, h => by simp [strLess] at h
  | [], _ :: _, _ :: _, _, _ => by simp [strLess]
  | _ :: _, [], _, h, _ => by simp [strLess] at h
  | _ :: _, _ :: _, [], _, h => by simp [strLess] at h
  | a :: x, b :: y, c :: z, h, g => by
    simp only [strLess, Bool.or_eq_true, decide_eq_true_eq, Bool.and_eq_true, beq_iff_eq] at h g ⊢
    rcases h with h | ⟨rfl, h⟩ <;> rcases g with g | ⟨rfl, g⟩
    · exact .inl (UInt8.lt_trans h g)
    · exact .inl h
    · exact .inl g
    · exact .inr ⟨rfl, sl_trans h g⟩
theorem sl_tri : ∀ {a b : List UInt8}, strLess a b = false → strLess b a = false → a = b
  | [], [], _, _ => rfl
  | [], _ :: _, h, _ => by simp [strLess] at h
  | _ :: _, [], _, h => by simp [strLess] at h
  | a :: x, b :: y, h, g => by
    simp only [strLess, Bool.or_eq_false_iff, decide_eq_false_iff_not, Bool.and_eq_false_iff, beq_eq_false_iff_ne] at h g
    have e : a = b := UInt8.le_antisymm (UInt8.not_lt.1 g.1) (UInt8.not_lt.1 h.1)
    subst e
    rw [sl_tri (a := x) (b := y) (h.2.resolve_left fun k => k rfl) (g.2.resolve_left fun k => k rfl)]
theorem sl_ne {a b : List UInt8} (h : strLess a b = true) : a ≠ b := fun e => by subst e; rw [sl_irrefl] at h; cases h
/-- What strings.Compare tells. -/
def cmpS (a b : List UInt8) : Int := bif strLess a b then -1 else bif strLess b a then 1 else 0
theorem cmpS_lt (a b : List UInt8) : decide (cmpS a b < 0) = strLess a b := by
  unfold cmpS
  cases h : strLess a b <;> cases g : strLess b a <;> rfl
theorem cmpS_eq (a b : List UInt8) : (cmpS a b == 0) = (a == b) := by
  unfold cmpS
  cases h : strLess a b with
  | true => have := sl_ne h; simp [this]
  | false =>
    cases g : strLess b a with
    | true => have := (sl_ne g).symm; simp [this]
    | false => have := sl_tri h g; simp [this]
/-- Where a group's row stands, or would. -/
def posG : List Row2 → List UInt8 → Nat
  | [], _ => 0
  | r :: l, p => bif strLess r.1 p then posG l p + 1 else 0
def atG (l : List Row2) (i : Nat) : Row2 := l.getD i ([], 0)
def hasG (l : List Row2) (p : List UInt8) : Bool := decide (posG l p < l.length) && (atG l (posG l p)).1 == p
def sortedG : List Row2 → Bool
  | [] => true
  | r :: l => l.all (fun s => strLess r.1 s.1) && sortedG l
def putG (l : List Row2) (k t : Nat) (r : Row2) : List Row2 := l.take k ++ r :: l.drop t
/-- A table in which a row was set; what Set tells. -/
def setG (l : List Row2) (r : Row2) : List Row2 × Int :=
  bif !validL r.1 then (l, 6) else bif hasG l r.1 then (putG l (posG l r.1) (posG l r.1 + 1) r, 0) else bif decide ((l.length : Int) ≥ 100) then (l, 7) else (putG l (posG l r.1) (posG l r.1) r, 0)
def getGr (l : List Row2) (p : List UInt8) : Int × Bool := bif hasG l p then ((atG l (posG l p)).2, true) else (0, false)
theorem posG_le : ∀ (l : List Row2) (p : List UInt8), posG l p ≤ l.length
  | [], _ => Nat.le_refl _
  | r :: l, p => by
    have := posG_le l p
    simp only [posG, List.length_cons]
    cases strLess r.1 p <;> simp only [cond_true, cond_false] <;> omega
theorem posG_below : ∀ {l : List Row2} {p : List UInt8} {i : Nat}, i < posG l p → strLess (atG l i).1 p = true
  | [], p, i, h => by simp [posG] at h
  | r :: l, p, i, h => by
    simp only [posG] at h
    cases hr : strLess r.1 p with
    | true =>
      cases i with
      | zero => exact hr
      | succ i =>
        rw [hr, cond_true] at h
        have := posG_below (l := l) (p := p) (i := i) (by omega)
        simpa [atG] using this
    | false => rw [hr, cond_false] at h; omega
theorem posG_at : ∀ {l : List Row2} {p : List UInt8}, posG l p < l.length → strLess (atG l (posG l p)).1 p = false
  | [], p, h => by simp at h
  | r :: l, p, h => by
    simp only [posG] at h ⊢
    cases hr : strLess r.1 p with
    | true =>
      rw [hr, cond_true] at h
      rw [cond_true]
      have := posG_at (l := l) (p := p) (by simpa using h)
      simpa [atG] using this
    | false =>
      rw [cond_false]
      exact hr
theorem atG_mem {l : List Row2} {j : Nat} (hj : j < l.length) : atG l j ∈ l := by unfold atG; rw [List.getD_eq_getElem?_getD, List.getElem?_eq_getElem hj]; exact List.getElem_mem hj
theorem sortedG_lt : ∀ {l : List Row2} {i j : Nat}, sortedG l = true → i < j → j < l.length → strLess (atG l i).1 (atG l j).1 = true
  | [], i, j, _, _, hj => by simp at hj
  | r :: l, i, j, hs, hij, hj => by
    simp only [sortedG, Bool.and_eq_true, List.all_eq_true] at hs
    cases j with
    | zero => omega
    | succ j =>
      have hj : j < l.length := by simpa using hj
      cases i with
      | zero =>
        have := hs.1 _ (atG_mem hj)
        simpa [atG] using this
      | succ i =>
        have := sortedG_lt (l := l) (i := i) (j := j) hs.2 (by omega) hj
        simpa [atG] using this
/-- A place with nothing less behind it and nothing else ahead is the row's. -/
theorem posG_eq {l : List Row2} {p : List UInt8} {k : Nat} (hk : k ≤ l.length) (h1 : ∀ i, i < k → strLess (atG l i).1 p = true) (h2 : k < l.length → strLess (atG l k).1 p = false) : posG l p = k := by
  rcases Nat.lt_trichotomy (posG l p) k with h | h | h
  · have a := posG_at (l := l) (p := p) (by omega)
    rw [h1 _ h] at a; cases a
  · exact h
  · have a := posG_below h
    rw [h2 (by have := posG_le l p; omega)] at a; cases a
theorem sortedG_put {l : List Row2} {r : Row2} {t : Nat} (hs : sortedG l = true) (h1 : posG l r.1 ≤ t) (h2 : ∀ i, t ≤ i → i < l.length → strLess r.1 (atG l i).1 = true) : sortedG (putG l (posG l r.1) t r) = true := by
  have key : ∀ (a b : List Row2), (∀ x ∈ a, strLess x.1 r.1 = true) → (∀ x ∈ b, strLess r.1 x.1 = true) → sortedG a = true → sortedG b = true → sortedG (a ++ r :: b) = true := by
    intro a b ha hb
    induction a with
    | nil =>
      intro _ sb
      simp only [List.nil_append, sortedG, Bool.and_eq_true, List.all_eq_true]
      exact ⟨hb, sb⟩
    | cons x a ih =>
      intro sa sb
      simp only [sortedG, Bool.and_eq_true, List.all_eq_true, List.cons_append] at sa ⊢
      refine ⟨?_, ih (fun y hy => ha y (List.mem_cons_of_mem _ hy)) sa.2 sb⟩
      intro y hy
      have hx := ha x (by simp)
      rcases List.mem_append.1 hy with h | h
      · exact sa.1 y h
      · rcases List.mem_cons.1 h with h | h
        · subst h; exact hx
        · exact sl_trans hx (hb y h)
  have take_s : ∀ (l : List Row2) (n : Nat), sortedG l = true → sortedG (l.take n) = true := by
    intro l
    induction l with
    | nil => intro n _; simp [sortedG]
    | cons x l ih =>
      intro n hs
      cases n with
      | zero => simp [sortedG]
      | succ n =>
        simp only [sortedG, Bool.and_eq_true, List.all_eq_true, List.take_succ_cons] at hs ⊢
        exact ⟨fun y hy => hs.1 y (List.mem_of_mem_take hy), ih n hs.2⟩
  have drop_s : ∀ (l : List Row2) (n : Nat), sortedG l = true → sortedG (l.drop n) = true := by
    intro l
    induction l with
    | nil => intro n _; simp [sortedG]
    | cons x l ih =>
      intro n hs
      cases n with
      | zero => exact hs
      | succ n =>
        simp only [sortedG, Bool.and_eq_true, List.drop_succ_cons] at hs ⊢
        exact ih n hs.2
  unfold putG
  refine key _ _ ?_ ?_ (take_s _ _ hs) (drop_s _ _ hs)
  · intro x hx
    obtain ⟨i, hi, rfl⟩ := List.mem_iff_getElem.1 hx
    have hi' : i < posG l r.1 ∧ i < l.length := by have := hi; simp at this; omega
    have := posG_below hi'.1
    unfold atG at this
    rw [List.getD_eq_getElem?_getD, List.getElem?_eq_getElem hi'.2] at this
    simpa using this
  · intro x hx
    obtain ⟨i, hi, rfl⟩ := List.mem_iff_getElem.1 hx
    have hi' : t + i < l.length := by have := hi; simp at this; omega
    have := h2 (t + i) (by omega) hi'
    unfold atG at this
    rw [List.getD_eq_getElem?_getD, List.getElem?_eq_getElem hi'] at this
    simpa using this
theorem hasG_lt {xs : List Row2} {p : List UInt8} (h : hasG xs p = true) : posG xs p < xs.length ∧ (atG xs (posG xs p)).1 = p := by
  unfold hasG at h
  simp only [Bool.and_eq_true, decide_eq_true_eq, beq_iff_eq] at h
  exact h
theorem setG_sorted {l : List Row2} (r : Row2) (hs : sortedG l = true) : sortedG (setG l r).1 = true := by
  unfold setG
  cases validL r.1 with
  | false => exact hs
  | true =>
    rw [Bool.not_true, cond_false]
    cases hh : hasG l r.1 with
    | true =>
      simp only [cond_true]
      obtain ⟨k1, k2⟩ := hasG_lt hh
      exact sortedG_put hs (by omega) (fun i h1 h2 => by have := sortedG_lt hs (i := posG l r.1) (j := i) (by omega) h2; rwa [k2] at this)
    | false =>
      simp only [cond_false]
      cases decide ((l.length : Int) ≥ 100) with
      | true => exact hs
      | false =>
        refine sortedG_put hs (Nat.le_refl _) (fun i h1 h2 => ?_)
        have hk : posG l r.1 < l.length := by omega
        have ha := posG_at hk
        have hne : (atG l (posG l r.1)).1 ≠ r.1 := fun e => by
          unfold hasG at hh
          simp [hk, e] at hh
        have hlt : strLess r.1 (atG l (posG l r.1)).1 = true := by
          cases g : strLess r.1 (atG l (posG l r.1)).1 with
          | true => rfl
          | false => exact absurd (sl_tri ha g) hne
        rcases Nat.lt_or_ge (posG l r.1) i with h | h
        · exact sl_trans hlt (sortedG_lt hs h h2)
        · have : i = posG l r.1 := by omega
          subst this; exact hlt
theorem putG_len {l : List Row2} {k t : Nat} {r : Row2} (h : k ≤ t) (ht : t ≤ l.length) : (putG l k t r).length = k + 1 + (l.length - t) := by
  unfold putG
  simp only [List.length_append, List.length_take, List.length_cons, List.length_drop]
  omega
/-- A sorted table's row is found. -/
theorem hasG_of_mem {xs : List Row2} (hs : sortedG xs = true) {x : Row2} (h : x ∈ xs) : hasG xs x.1 = true := by
  obtain ⟨i, hi, rfl⟩ := List.mem_iff_getElem.1 h
  have e : atG xs i = xs[i] := by unfold atG; rw [List.getD_eq_getElem?_getD, List.getElem?_eq_getElem hi]; rfl
  have hp : posG xs (xs[i]).1 = i := posG_eq (by omega) (fun j hj => by rw [← e]; exact sortedG_lt hs hj hi) (fun _ => by rw [e]; exact sl_irrefl _)
  unfold hasG
  rw [hp, e]
  simp [hi]
end Go.Sim
namespace Go.Sim.XG
set_option linter.unusedSimpArgs false
set_option linter.unusedVariables false
set_option maxRecDepth 10000
open Go.Shelf in
def rhoS : Ren := ⟨fun n => match n with | 106 => 186 | 213 => 204 | 265 => 211 | n => n, fun t => t, fun g => g⟩
open Go.Shelf Go.RowKit Go.Proofs in
theorem laysS : Lays.n106 P0 rhoS where
  mixed := by kernel_rfl
  f106 := by kernel_rfl
  f213 := by kernel_rfl
  f265 := by kernel_rfl
  t3 := by kernel_rfl
  a3 := fun w => rfl
  z3 := fun w => rfl
  v3 := fun w => rfl
  t9 := by kernel_rfl
  a9 := fun w => rfl
  z9 := fun w => rfl
  v9 := fun w => rfl
theorem cmpb_eq : ∀ (a b : List UInt8), Lib.compareBytes a b = cmpS a b
  | [], [] => rfl
  | [], _ :: _ => rfl
  | _ :: _, [] => rfl
  | a :: x, b :: y => by
    have ih := cmpb_eq x y
    unfold Lib.compareBytes cmpS
    simp only [strLess]
    by_cases h : a < b
    · simp [h]
    · by_cases g : b < a
      · have e : (a == b) = false := by
          simp only [beq_eq_false_iff_ne]
          exact fun k => by subst k; exact UInt8.lt_irrefl a g
        simp [h, g, e]
      · have e : a = b := UInt8.le_antisymm (UInt8.not_lt.1 g) (UInt8.not_lt.1 h)
        subst e
        simp only [h, decide_false, Bool.false_or, beq_self_eq_true, Bool.true_and, if_false]
        rw [ih]
        rfl
def caseScmp : PCase := ⟨[.ty .str, .ty .str], [.int .i64], fun x => [(true, (cmpS x.1 x.2.1, ()))]⟩
theorem cmpS_in (a b : List UInt8) : In .i64 (cmpS a b) := by
  unfold cmpS
  refine In.i64.2 ?_
  cases strLess a b <;> cases strLess b a <;> simp
theorem scmp_ok : caseScmp.ok P0 I.strings_Compare := fun ⟨a, b, ()⟩ y h hw => by
  obtain ⟨hc, rfl⟩ := pick_pre h
  refine ⟨[], fun own φ β w vs hV hW hβ => ?_⟩
  obtain ⟨u, us, rfl, h1, v, vs, rfl, h2, rfl⟩ := hV
  obtain rfl := V.str_inv h1
  obtain rfl := V.str_inv h2
  refine (Proofs.Any.strings_Compare laysS ⟨a.toArray⟩ ⟨b.toArray⟩ w).mono ?_
  rintro e w' ⟨rfl, rfl⟩
  refine ⟨_, φ, β, rfl, Run.refl, ?_, hW, hβ⟩
  show V φ β w' (.int .i64 (cmpS a b)) _
  have e1 : Lib.compareBytes (ByteArray.mk a.toArray).data.toList (ByteArray.mk b.toArray).data.toList = cmpS a b := cmpb_eq a b
  rw [e1]
  exact ⟨rfl, cmpS_in a b⟩
noncomputable abbrev consG2 : List (FuncId × Con) := [(I.strings_Compare, .pure (pureOf [caseScmp]))]
theorem consG2_ok : ∀ x ∈ consG2, HoldsC P0 x.1 x.2 := by
  intro x hx
  simp at hx
  subst hx
  exact ⟨pureOf_holds (by simp; exact scmp_ok), C.strings_Compare⟩
abbrev rowS : Ty := .pair .str (.int .i64)
theorem gfind1_ev (r : Row2) (p : List UInt8) : evFn (env consG2) H.groups_Table_find_1 (LPof []) F.groups_Table_find_1 [valOf rowS r, .str p] [] (finT [.int .i64]) = some (cmpS r.fst p, ()) := by kernel_rfl

def H.gins : Hint := { H.slices_Insert_groups_Row_groups_Row with vs := [51], hw := [83], nh := [(6, 140)] }
noncomputable abbrev consG3 : List (FuncId × Con) := [(187, .apart)]
def insObj (r : Row2) : AObj := .arr 2 .bool [] [[.str r.1, .int .i64 r.2]]
theorem ins1_ev {R : Type} (xs : List Row2) (i : Int) (r : Row2) (c : Nat) (K : Ex → St → Option R) : ev (env consG3) H.gins 2 (LPof []) (preC 7 B.slices_Insert_groups_Row_groups_Row) (initSt [.hc 0 0 xs.length c, .int .i64 i, .hw 1] [.arr 2 rowS xs [], insObj r]) K = bif decide ((0 : Int) ≤ i) && decide (i ≤ (↑xs.length : Int)) then bif i == (↑xs.length : Int) then bif decide ((List.take xs.length xs ++ [r]).length * 24 ≤ 140737488355328) then K Ex.ret { slots := [(6, AV.hw 3), (25, AV.hw 3), (24, AV.hw 1), (23, AV.hc 0 0 xs.length c), (22, AV.bool (i == (↑xs.length : Int))), (21, AV.int IntKind.i64 (↑xs.length : Int)), (20, AV.int IntKind.i64 i), (8, AV.int IntKind.i64 (↑xs.length : Int)), (19, AV.int IntKind.i64 (↑xs.length : Int)), (18, AV.hc 0 0 xs.length c), (16, AV.bool false), (15, AV.int IntKind.i64 (1 : Int)), (7, AV.int IntKind.i64 (1 : Int)), (14, AV.int IntKind.i64 (1 : Int)), (13, AV.hw 1), (12, AV.hc 0 i.toNat (xs.length - i.toNat) (cutCap c (some i.toNat))), (11, AV.int IntKind.i64 i), (10, AV.hc 0 0 xs.length c), (6, AV.hw 2), (0, AV.hc 0 0 xs.length c), (1, AV.int IntKind.i64 i), (2, AV.hw 1)], objs := [(3, AObj.arr 2 (Ty.str.pair (Ty.int IntKind.i64)) (List.take xs.length xs ++ [r]) []), (0, AObj.dead), (2, AObj.arr 2 (Ty.str.pair (Ty.int IntKind.i64)) [] []), (0, AObj.arr 2 (Ty.str.pair (Ty.int IntKind.i64)) xs []), (1, AObj.arr 2 Ty.bool [] [[AV.str r.fst, AV.int IntKind.i64 r.snd]])], nx := 4 } else none else bif decide (IntKind.i64.wrap ((↑xs.length : Int) + (1 : Int)) > (↑c : Int)) then bif decide ((0 : Int) ≤ i) && decide (i ≤ (↑xs.length : Int)) then bif decide ((0 : Int) < IntKind.i64.wrap (IntKind.i64.wrap ((↑xs.length : Int) + (1 : Int)) - i)) && decide (c < i.toNat + (IntKind.i64.wrap (IntKind.i64.wrap ((↑xs.length : Int) + (1 : Int)) - i)).toNat) && decide (0 + i.toNat ≤ xs.length) && decide ((i.toNat + (IntKind.i64.wrap (IntKind.i64.wrap ((↑xs.length : Int) + (1 : Int)) - i)).toNat) * 24 ≤ 140737488355328) then bif decide ((0 : Int) ≤ i) && decide (i ≤ (↑(List.take i.toNat xs ++ List.replicate (IntKind.i64.wrap (IntKind.i64.wrap ((↑xs.length : Int) + (1 : Int)) - i)).toNat (Ty.str.pair (Ty.int IntKind.i64)).zero).length : Int)) then bif decide (1 ≤ (List.take i.toNat xs ++ List.replicate (IntKind.i64.wrap (IntKind.i64.wrap ((↑xs.length : Int) + (1 : Int)) - i)).toNat (Ty.str.pair (Ty.int IntKind.i64)).zero).length - i.toNat) && decide (i.toNat + 1 ≤ (List.take i.toNat xs ++ List.replicate (IntKind.i64.wrap (IntKind.i64.wrap ((↑xs.length : Int) + (1 : Int)) - i)).toNat (Ty.str.pair (Ty.int IntKind.i64)).zero).length) then bif decide ((0 : Int) ≤ IntKind.i64.wrap (i + (1 : Int))) && decide (IntKind.i64.wrap (i + (1 : Int)) ≤ (↑(List.take i.toNat (List.take i.toNat xs ++ List.replicate (IntKind.i64.wrap (IntKind.i64.wrap ((↑xs.length : Int) + (1 : Int)) - i)).toNat (Ty.str.pair (Ty.int IntKind.i64)).zero) ++ [r] ++ List.drop (i.toNat + 1) (List.take i.toNat xs ++ List.replicate (IntKind.i64.wrap (IntKind.i64.wrap ((↑xs.length : Int) + (1 : Int)) - i)).toNat (Ty.str.pair (Ty.int IntKind.i64)).zero)).length : Int)) then bif decide (xs.length = xs.length) && decide (0 < c) then bif decide ((0 : Int) ≤ i) && decide (i ≤ (↑xs.length : Int)) then bif decide ((List.drop i.toNat xs).length ≤ (List.take i.toNat (List.take i.toNat xs ++ List.replicate (IntKind.i64.wrap (IntKind.i64.wrap ((↑xs.length : Int) + (1 : Int)) - i)).toNat (Ty.str.pair (Ty.int IntKind.i64)).zero) ++ [r] ++ List.drop (i.toNat + 1) (List.take i.toNat xs ++ List.replicate (IntKind.i64.wrap (IntKind.i64.wrap ((↑xs.length : Int) + (1 : Int)) - i)).toNat (Ty.str.pair (Ty.int IntKind.i64)).zero)).length - (IntKind.i64.wrap (i + (1 : Int))).toNat) && decide ((IntKind.i64.wrap (i + (1 : Int))).toNat + (List.drop i.toNat xs).length ≤ (List.take i.toNat (List.take i.toNat xs ++ List.replicate (IntKind.i64.wrap (IntKind.i64.wrap ((↑xs.length : Int) + (1 : Int)) - i)).toNat (Ty.str.pair (Ty.int IntKind.i64)).zero) ++ [r] ++ List.drop (i.toNat + 1) (List.take i.toNat xs ++ List.replicate (IntKind.i64.wrap (IntKind.i64.wrap ((↑xs.length : Int) + (1 : Int)) - i)).toNat (Ty.str.pair (Ty.int IntKind.i64)).zero)).length) then K Ex.ret { slots := [(6, AV.hw 3), (55, AV.hw 3), (54, AV.int IntKind.i64 (↑(List.drop i.toNat xs).length : Int)), (53, AV.vl (Ty.str.pair (Ty.int IntKind.i64)) (List.drop i.toNat xs)), (52, AV.int IntKind.i64 i), (51, AV.vl (Ty.str.pair (Ty.int IntKind.i64)) xs), (50, AV.hs 3 (IntKind.i64.wrap (i + (1 : Int))).toNat ((List.take i.toNat (List.take i.toNat xs ++ List.replicate (IntKind.i64.wrap (IntKind.i64.wrap ((↑xs.length : Int) + (1 : Int)) - i)).toNat (Ty.str.pair (Ty.int IntKind.i64)).zero) ++ [r] ++ List.drop (i.toNat + 1) (List.take i.toNat xs ++ List.replicate (IntKind.i64.wrap (IntKind.i64.wrap ((↑xs.length : Int) + (1 : Int)) - i)).toNat (Ty.str.pair (Ty.int IntKind.i64)).zero)).length - (IntKind.i64.wrap (i + (1 : Int))).toNat)), (49, AV.int IntKind.i64 (IntKind.i64.wrap (i + (1 : Int)))), (48, AV.int IntKind.i64 (1 : Int)), (47, AV.int IntKind.i64 i), (46, AV.hw 3), (45, AV.int IntKind.i64 (1 : Int)), (44, AV.hw 1), (43, AV.hs 3 i.toNat ((List.take i.toNat xs ++ List.replicate (IntKind.i64.wrap (IntKind.i64.wrap ((↑xs.length : Int) + (1 : Int)) - i)).toNat (Ty.str.pair (Ty.int IntKind.i64)).zero).length - i.toNat)), (42, AV.int IntKind.i64 i), (41, AV.hw 3), (9, AV.hw 3), (40, AV.hw 3), (39, AV.int IntKind.i64 (IntKind.i64.wrap (IntKind.i64.wrap ((↑xs.length : Int) + (1 : Int)) - i))), (38, AV.int IntKind.i64 i), (37, AV.int IntKind.i64 (IntKind.i64.wrap ((↑xs.length : Int) + (1 : Int)))), (36, AV.int IntKind.i64 (1 : Int)), (35, AV.int IntKind.i64 (↑xs.length : Int)), (34, AV.hc 0 0 i.toNat c), (33, AV.int IntKind.i64 i), (32, AV.hc 0 0 xs.length c), (31, AV.bool (decide (IntKind.i64.wrap ((↑xs.length : Int) + (1 : Int)) > (↑c : Int)))), (30, AV.int IntKind.i64 (↑c : Int)), (29, AV.hc 0 0 xs.length c), (28, AV.int IntKind.i64 (IntKind.i64.wrap ((↑xs.length : Int) + (1 : Int)))), (27, AV.int IntKind.i64 (1 : Int)), (26, AV.int IntKind.i64 (↑xs.length : Int)), (22, AV.bool (i == (↑xs.length : Int))), (21, AV.int IntKind.i64 (↑xs.length : Int)), (20, AV.int IntKind.i64 i), (8, AV.int IntKind.i64 (↑xs.length : Int)), (19, AV.int IntKind.i64 (↑xs.length : Int)), (18, AV.hc 0 0 xs.length c), (16, AV.bool false), (15, AV.int IntKind.i64 (1 : Int)), (7, AV.int IntKind.i64 (1 : Int)), (14, AV.int IntKind.i64 (1 : Int)), (13, AV.hw 1), (12, AV.hc 0 i.toNat (xs.length - i.toNat) (cutCap c (some i.toNat))), (11, AV.int IntKind.i64 i), (10, AV.hc 0 0 xs.length c), (6, AV.hw 2), (0, AV.hc 0 0 xs.length c), (1, AV.int IntKind.i64 i), (2, AV.hw 1)], objs := [(3, AObj.arr 2 (Ty.str.pair (Ty.int IntKind.i64)) (List.take (IntKind.i64.wrap (i + (1 : Int))).toNat (List.take i.toNat (List.take i.toNat xs ++ List.replicate (IntKind.i64.wrap (IntKind.i64.wrap ((↑xs.length : Int) + (1 : Int)) - i)).toNat (Ty.str.pair (Ty.int IntKind.i64)).zero) ++ [r] ++ List.drop (i.toNat + 1) (List.take i.toNat xs ++ List.replicate (IntKind.i64.wrap (IntKind.i64.wrap ((↑xs.length : Int) + (1 : Int)) - i)).toNat (Ty.str.pair (Ty.int IntKind.i64)).zero)) ++ List.drop i.toNat xs ++ List.drop ((IntKind.i64.wrap (i + (1 : Int))).toNat + (List.drop i.toNat xs).length) (List.take i.toNat (List.take i.toNat xs ++ List.replicate (IntKind.i64.wrap (IntKind.i64.wrap ((↑xs.length : Int) + (1 : Int)) - i)).toNat (Ty.str.pair (Ty.int IntKind.i64)).zero) ++ [r] ++ List.drop (i.toNat + 1) (List.take i.toNat xs ++ List.replicate (IntKind.i64.wrap (IntKind.i64.wrap ((↑xs.length : Int) + (1 : Int)) - i)).toNat (Ty.str.pair (Ty.int IntKind.i64)).zero))) []), (0, AObj.dead), (3, AObj.arr 2 (Ty.str.pair (Ty.int IntKind.i64)) (List.take i.toNat (List.take i.toNat xs ++ List.replicate (IntKind.i64.wrap (IntKind.i64.wrap ((↑xs.length : Int) + (1 : Int)) - i)).toNat (Ty.str.pair (Ty.int IntKind.i64)).zero) ++ [r] ++ List.drop (i.toNat + 1) (List.take i.toNat xs ++ List.replicate (IntKind.i64.wrap (IntKind.i64.wrap ((↑xs.length : Int) + (1 : Int)) - i)).toNat (Ty.str.pair (Ty.int IntKind.i64)).zero)) []), (3, AObj.arr 2 (Ty.str.pair (Ty.int IntKind.i64)) (List.take i.toNat xs ++ List.replicate (IntKind.i64.wrap (IntKind.i64.wrap ((↑xs.length : Int) + (1 : Int)) - i)).toNat (Ty.str.pair (Ty.int IntKind.i64)).zero) []), (2, AObj.arr 2 (Ty.str.pair (Ty.int IntKind.i64)) [] []), (0, AObj.arr 2 (Ty.str.pair (Ty.int IntKind.i64)) xs []), (1, AObj.arr 2 Ty.bool [] [[AV.str r.fst, AV.int IntKind.i64 r.snd]])], nx := 4 } else none else none else none else none else none else none else none else bif decide (i = (↑xs.length : Int) + (1 : Int)) && decide (xs.length + 1 ≤ c) && decide (0 + xs.length = xs.length) && decide (xs.length < 9223372036854775807) && true then none else none else K Ex.normal { slots := [(31, AV.bool (decide (IntKind.i64.wrap ((↑xs.length : Int) + (1 : Int)) > (↑c : Int)))), (30, AV.int IntKind.i64 (↑c : Int)), (29, AV.hc 0 0 xs.length c), (28, AV.int IntKind.i64 (IntKind.i64.wrap ((↑xs.length : Int) + (1 : Int)))), (27, AV.int IntKind.i64 (1 : Int)), (26, AV.int IntKind.i64 (↑xs.length : Int)), (22, AV.bool (i == (↑xs.length : Int))), (21, AV.int IntKind.i64 (↑xs.length : Int)), (20, AV.int IntKind.i64 i), (8, AV.int IntKind.i64 (↑xs.length : Int)), (19, AV.int IntKind.i64 (↑xs.length : Int)), (18, AV.hc 0 0 xs.length c), (16, AV.bool false), (15, AV.int IntKind.i64 (1 : Int)), (7, AV.int IntKind.i64 (1 : Int)), (14, AV.int IntKind.i64 (1 : Int)), (13, AV.hw 1), (12, AV.hc 0 i.toNat (xs.length - i.toNat) (cutCap c (some i.toNat))), (11, AV.int IntKind.i64 i), (10, AV.hc 0 0 xs.length c), (6, AV.hw 2), (0, AV.hc 0 0 xs.length c), (1, AV.int IntKind.i64 i), (2, AV.hw 1)], objs := [(2, AObj.arr 2 (Ty.str.pair (Ty.int IntKind.i64)) [] []), (0, AObj.arr 2 (Ty.str.pair (Ty.int IntKind.i64)) xs []), (1, AObj.arr 2 Ty.bool [] [[AV.str r.fst, AV.int IntKind.i64 r.snd]])], nx := 3 } else none := by kernel_rfl

end Go.Sim.XG
namespace Go.Sim.XG
set_option linter.unusedSimpArgs false
set_option linter.unusedVariables false
set_option maxRecDepth 10000
def insR1 (xs : List Row2) (i : Int) (r : Row2) (c : Nat) : St := { slots := [(6, AV.hw 3), (25, AV.hw 3), (24, AV.hw 1), (23, AV.hc 0 0 xs.length c), (22, AV.bool (i == (↑xs.length : Int))), (21, AV.int IntKind.i64 (↑xs.length : Int)), (20, AV.int IntKind.i64 i), (8, AV.int IntKind.i64 (↑xs.length : Int)), (19, AV.int IntKind.i64 (↑xs.length : Int)), (18, AV.hc 0 0 xs.length c), (16, AV.bool false), (15, AV.int IntKind.i64 (1 : Int)), (7, AV.int IntKind.i64 (1 : Int)), (14, AV.int IntKind.i64 (1 : Int)), (13, AV.hw 1), (12, AV.hc 0 i.toNat (xs.length - i.toNat) (cutCap c (some i.toNat))), (11, AV.int IntKind.i64 i), (10, AV.hc 0 0 xs.length c), (6, AV.hw 2), (0, AV.hc 0 0 xs.length c), (1, AV.int IntKind.i64 i), (2, AV.hw 1)], objs := [(3, AObj.arr 2 (Ty.str.pair (Ty.int IntKind.i64)) (List.take xs.length xs ++ [r]) []), (0, AObj.dead), (2, AObj.arr 2 (Ty.str.pair (Ty.int IntKind.i64)) [] []), (0, AObj.arr 2 (Ty.str.pair (Ty.int IntKind.i64)) xs []), (1, AObj.arr 2 Ty.bool [] [[AV.str r.fst, AV.int IntKind.i64 r.snd]])], nx := 4 }
def insR2 (xs : List Row2) (i : Int) (r : Row2) (c : Nat) : St := { slots := [(6, AV.hw 3), (55, AV.hw 3), (54, AV.int IntKind.i64 (↑(List.drop i.toNat xs).length : Int)), (53, AV.vl (Ty.str.pair (Ty.int IntKind.i64)) (List.drop i.toNat xs)), (52, AV.int IntKind.i64 i), (51, AV.vl (Ty.str.pair (Ty.int IntKind.i64)) xs), (50, AV.hs 3 (IntKind.i64.wrap (i + (1 : Int))).toNat ((List.take i.toNat (List.take i.toNat xs ++ List.replicate (IntKind.i64.wrap (IntKind.i64.wrap ((↑xs.length : Int) + (1 : Int)) - i)).toNat (Ty.str.pair (Ty.int IntKind.i64)).zero) ++ [r] ++ List.drop (i.toNat + 1) (List.take i.toNat xs ++ List.replicate (IntKind.i64.wrap (IntKind.i64.wrap ((↑xs.length : Int) + (1 : Int)) - i)).toNat (Ty.str.pair (Ty.int IntKind.i64)).zero)).length - (IntKind.i64.wrap (i + (1 : Int))).toNat)), (49, AV.int IntKind.i64 (IntKind.i64.wrap (i + (1 : Int)))), (48, AV.int IntKind.i64 (1 : Int)), (47, AV.int IntKind.i64 i), (46, AV.hw 3), (45, AV.int IntKind.i64 (1 : Int)), (44, AV.hw 1), (43, AV.hs 3 i.toNat ((List.take i.toNat xs ++ List.replicate (IntKind.i64.wrap (IntKind.i64.wrap ((↑xs.length : Int) + (1 : Int)) - i)).toNat (Ty.str.pair (Ty.int IntKind.i64)).zero).length - i.toNat)), (42, AV.int IntKind.i64 i), (41, AV.hw 3), (9, AV.hw 3), (40, AV.hw 3), (39, AV.int IntKind.i64 (IntKind.i64.wrap (IntKind.i64.wrap ((↑xs.length : Int) + (1 : Int)) - i))), (38, AV.int IntKind.i64 i), (37, AV.int IntKind.i64 (IntKind.i64.wrap ((↑xs.length : Int) + (1 : Int)))), (36, AV.int IntKind.i64 (1 : Int)), (35, AV.int IntKind.i64 (↑xs.length : Int)), (34, AV.hc 0 0 i.toNat c), (33, AV.int IntKind.i64 i), (32, AV.hc 0 0 xs.length c), (31, AV.bool (decide (IntKind.i64.wrap ((↑xs.length : Int) + (1 : Int)) > (↑c : Int)))), (30, AV.int IntKind.i64 (↑c : Int)), (29, AV.hc 0 0 xs.length c), (28, AV.int IntKind.i64 (IntKind.i64.wrap ((↑xs.length : Int) + (1 : Int)))), (27, AV.int IntKind.i64 (1 : Int)), (26, AV.int IntKind.i64 (↑xs.length : Int)), (22, AV.bool (i == (↑xs.length : Int))), (21, AV.int IntKind.i64 (↑xs.length : Int)), (20, AV.int IntKind.i64 i), (8, AV.int IntKind.i64 (↑xs.length : Int)), (19, AV.int IntKind.i64 (↑xs.length : Int)), (18, AV.hc 0 0 xs.length c), (16, AV.bool false), (15, AV.int IntKind.i64 (1 : Int)), (7, AV.int IntKind.i64 (1 : Int)), (14, AV.int IntKind.i64 (1 : Int)), (13, AV.hw 1), (12, AV.hc 0 i.toNat (xs.length - i.toNat) (cutCap c (some i.toNat))), (11, AV.int IntKind.i64 i), (10, AV.hc 0 0 xs.length c), (6, AV.hw 2), (0, AV.hc 0 0 xs.length c), (1, AV.int IntKind.i64 i), (2, AV.hw 1)], objs := [(3, AObj.arr 2 (Ty.str.pair (Ty.int IntKind.i64)) (List.take (IntKind.i64.wrap (i + (1 : Int))).toNat (List.take i.toNat (List.take i.toNat xs ++ List.replicate (IntKind.i64.wrap (IntKind.i64.wrap ((↑xs.length : Int) + (1 : Int)) - i)).toNat (Ty.str.pair (Ty.int IntKind.i64)).zero) ++ [r] ++ List.drop (i.toNat + 1) (List.take i.toNat xs ++ List.replicate (IntKind.i64.wrap (IntKind.i64.wrap ((↑xs.length : Int) + (1 : Int)) - i)).toNat (Ty.str.pair (Ty.int IntKind.i64)).zero)) ++ List.drop i.toNat xs ++ List.drop ((IntKind.i64.wrap (i + (1 : Int))).toNat + (List.drop i.toNat xs).length) (List.take i.toNat (List.take i.toNat xs ++ List.replicate (IntKind.i64.wrap (IntKind.i64.wrap ((↑xs.length : Int) + (1 : Int)) - i)).toNat (Ty.str.pair (Ty.int IntKind.i64)).zero) ++ [r] ++ List.drop (i.toNat + 1) (List.take i.toNat xs ++ List.replicate (IntKind.i64.wrap (IntKind.i64.wrap ((↑xs.length : Int) + (1 : Int)) - i)).toNat (Ty.str.pair (Ty.int IntKind.i64)).zero))) []), (0, AObj.dead), (3, AObj.arr 2 (Ty.str.pair (Ty.int IntKind.i64)) (List.take i.toNat (List.take i.toNat xs ++ List.replicate (IntKind.i64.wrap (IntKind.i64.wrap ((↑xs.length : Int) + (1 : Int)) - i)).toNat (Ty.str.pair (Ty.int IntKind.i64)).zero) ++ [r] ++ List.drop (i.toNat + 1) (List.take i.toNat xs ++ List.replicate (IntKind.i64.wrap (IntKind.i64.wrap ((↑xs.length : Int) + (1 : Int)) - i)).toNat (Ty.str.pair (Ty.int IntKind.i64)).zero)) []), (3, AObj.arr 2 (Ty.str.pair (Ty.int IntKind.i64)) (List.take i.toNat xs ++ List.replicate (IntKind.i64.wrap (IntKind.i64.wrap ((↑xs.length : Int) + (1 : Int)) - i)).toNat (Ty.str.pair (Ty.int IntKind.i64)).zero) []), (2, AObj.arr 2 (Ty.str.pair (Ty.int IntKind.i64)) [] []), (0, AObj.arr 2 (Ty.str.pair (Ty.int IntKind.i64)) xs []), (1, AObj.arr 2 Ty.bool [] [[AV.str r.fst, AV.int IntKind.i64 r.snd]])], nx := 4 }
def insN (xs : List Row2) (i : Int) (r : Row2) (c : Nat) : St := { slots := [(31, AV.bool (decide (IntKind.i64.wrap ((↑xs.length : Int) + (1 : Int)) > (↑c : Int)))), (30, AV.int IntKind.i64 (↑c : Int)), (29, AV.hc 0 0 xs.length c), (28, AV.int IntKind.i64 (IntKind.i64.wrap ((↑xs.length : Int) + (1 : Int)))), (27, AV.int IntKind.i64 (1 : Int)), (26, AV.int IntKind.i64 (↑xs.length : Int)), (22, AV.bool (i == (↑xs.length : Int))), (21, AV.int IntKind.i64 (↑xs.length : Int)), (20, AV.int IntKind.i64 i), (8, AV.int IntKind.i64 (↑xs.length : Int)), (19, AV.int IntKind.i64 (↑xs.length : Int)), (18, AV.hc 0 0 xs.length c), (16, AV.bool false), (15, AV.int IntKind.i64 (1 : Int)), (7, AV.int IntKind.i64 (1 : Int)), (14, AV.int IntKind.i64 (1 : Int)), (13, AV.hw 1), (12, AV.hc 0 i.toNat (xs.length - i.toNat) (cutCap c (some i.toNat))), (11, AV.int IntKind.i64 i), (10, AV.hc 0 0 xs.length c), (6, AV.hw 2), (0, AV.hc 0 0 xs.length c), (1, AV.int IntKind.i64 i), (2, AV.hw 1)], objs := [(2, AObj.arr 2 (Ty.str.pair (Ty.int IntKind.i64)) [] []), (0, AObj.arr 2 (Ty.str.pair (Ty.int IntKind.i64)) xs []), (1, AObj.arr 2 Ty.bool [] [[AV.str r.fst, AV.int IntKind.i64 r.snd]])], nx := 3 }
theorem ins2_ev {R : Type} (xs : List Row2) (i : Int) (r : Row2) (c : Nat) (K : Ex → St → Option R) : ev (env consG3) H.gins 2 (LPof []) (preC 1 (sufC 7 B.slices_Insert_groups_Row_groups_Row)) (insN xs i r c) K = bif decide ((0 : Int) ≤ IntKind.i64.wrap ((↑xs.length : Int) + (1 : Int))) && decide (IntKind.i64.wrap ((↑xs.length : Int) + (1 : Int)) ≤ (↑xs.length : Int)) then K Ex.normal { slots := [(0, AV.hc 0 0 (IntKind.i64.wrap ((↑xs.length : Int) + (1 : Int))).toNat c), (60, AV.hc 0 0 (IntKind.i64.wrap ((↑xs.length : Int) + (1 : Int))).toNat c), (59, AV.int IntKind.i64 (IntKind.i64.wrap ((↑xs.length : Int) + (1 : Int)))), (58, AV.int IntKind.i64 (1 : Int)), (57, AV.int IntKind.i64 (↑xs.length : Int)), (56, AV.hc 0 0 xs.length c), (31, AV.bool (decide (IntKind.i64.wrap ((↑xs.length : Int) + (1 : Int)) > (↑c : Int)))), (30, AV.int IntKind.i64 (↑c : Int)), (29, AV.hc 0 0 xs.length c), (28, AV.int IntKind.i64 (IntKind.i64.wrap ((↑xs.length : Int) + (1 : Int)))), (27, AV.int IntKind.i64 (1 : Int)), (26, AV.int IntKind.i64 (↑xs.length : Int)), (22, AV.bool (i == (↑xs.length : Int))), (21, AV.int IntKind.i64 (↑xs.length : Int)), (20, AV.int IntKind.i64 i), (8, AV.int IntKind.i64 (↑xs.length : Int)), (19, AV.int IntKind.i64 (↑xs.length : Int)), (18, AV.hc 0 0 xs.length c), (16, AV.bool false), (15, AV.int IntKind.i64 (1 : Int)), (7, AV.int IntKind.i64 (1 : Int)), (14, AV.int IntKind.i64 (1 : Int)), (13, AV.hw 1), (12, AV.hc 0 i.toNat (xs.length - i.toNat) (cutCap c (some i.toNat))), (11, AV.int IntKind.i64 i), (10, AV.hc 0 0 xs.length c), (6, AV.hw 2), (0, AV.hc 0 0 xs.length c), (1, AV.int IntKind.i64 i), (2, AV.hw 1)], objs := [(2, AObj.arr 2 (Ty.str.pair (Ty.int IntKind.i64)) [] []), (0, AObj.arr 2 (Ty.str.pair (Ty.int IntKind.i64)) xs []), (1, AObj.arr 2 Ty.bool [] [[AV.str r.fst, AV.int IntKind.i64 r.snd]])], nx := 3 } else bif decide (IntKind.i64.wrap ((↑xs.length : Int) + (1 : Int)) = (↑xs.length : Int) + (1 : Int)) && decide (xs.length + 1 ≤ c) && decide (0 + xs.length = xs.length) && decide (xs.length < 9223372036854775807) && true then K Ex.normal { slots := [(0, AV.hc 3 0 (xs.length + 1) c), (60, AV.hc 3 0 (xs.length + 1) c), (59, AV.int IntKind.i64 (IntKind.i64.wrap ((↑xs.length : Int) + (1 : Int)))), (58, AV.int IntKind.i64 (1 : Int)), (57, AV.int IntKind.i64 (↑xs.length : Int)), (56, AV.hc 0 0 xs.length c), (31, AV.bool (decide (IntKind.i64.wrap ((↑xs.length : Int) + (1 : Int)) > (↑c : Int)))), (30, AV.int IntKind.i64 (↑c : Int)), (29, AV.hc 0 0 xs.length c), (28, AV.int IntKind.i64 (IntKind.i64.wrap ((↑xs.length : Int) + (1 : Int)))), (27, AV.int IntKind.i64 (1 : Int)), (26, AV.int IntKind.i64 (↑xs.length : Int)), (22, AV.bool (i == (↑xs.length : Int))), (21, AV.int IntKind.i64 (↑xs.length : Int)), (20, AV.int IntKind.i64 i), (8, AV.int IntKind.i64 (↑xs.length : Int)), (19, AV.int IntKind.i64 (↑xs.length : Int)), (18, AV.hc 0 0 xs.length c), (16, AV.bool false), (15, AV.int IntKind.i64 (1 : Int)), (7, AV.int IntKind.i64 (1 : Int)), (14, AV.int IntKind.i64 (1 : Int)), (13, AV.hw 1), (12, AV.hc 0 i.toNat (xs.length - i.toNat) (cutCap c (some i.toNat))), (11, AV.int IntKind.i64 i), (10, AV.hc 0 0 xs.length c), (6, AV.hw 2), (0, AV.hc 0 0 xs.length c), (1, AV.int IntKind.i64 i), (2, AV.hw 1)], objs := [(3, AObj.arr 2 (Ty.str.pair (Ty.int IntKind.i64)) xs [[AV.undef, AV.undef]]), (0, AObj.dead), (2, AObj.arr 2 (Ty.str.pair (Ty.int IntKind.i64)) [] []), (0, AObj.arr 2 (Ty.str.pair (Ty.int IntKind.i64)) xs []), (1, AObj.arr 2 Ty.bool [] [[AV.str r.fst, AV.int IntKind.i64 r.snd]])], nx := 4 } else none := by kernel_rfl

end Go.Sim.XG
namespace Go.Sim.XG
set_option linter.unusedSimpArgs false
set_option linter.unusedVariables false
set_option maxRecDepth 10000
def insM (xs : List Row2) (i : Int) (r : Row2) (c : Nat) : St := { slots := [(0, AV.hc 3 0 (xs.length + 1) c), (60, AV.hc 3 0 (xs.length + 1) c), (59, AV.int IntKind.i64 (IntKind.i64.wrap ((↑xs.length : Int) + (1 : Int)))), (58, AV.int IntKind.i64 (1 : Int)), (57, AV.int IntKind.i64 (↑xs.length : Int)), (56, AV.hc 0 0 xs.length c), (31, AV.bool (decide (IntKind.i64.wrap ((↑xs.length : Int) + (1 : Int)) > (↑c : Int)))), (30, AV.int IntKind.i64 (↑c : Int)), (29, AV.hc 0 0 xs.length c), (28, AV.int IntKind.i64 (IntKind.i64.wrap ((↑xs.length : Int) + (1 : Int)))), (27, AV.int IntKind.i64 (1 : Int)), (26, AV.int IntKind.i64 (↑xs.length : Int)), (22, AV.bool (i == (↑xs.length : Int))), (21, AV.int IntKind.i64 (↑xs.length : Int)), (20, AV.int IntKind.i64 i), (8, AV.int IntKind.i64 (↑xs.length : Int)), (19, AV.int IntKind.i64 (↑xs.length : Int)), (18, AV.hc 0 0 xs.length c), (16, AV.bool false), (15, AV.int IntKind.i64 (1 : Int)), (7, AV.int IntKind.i64 (1 : Int)), (14, AV.int IntKind.i64 (1 : Int)), (13, AV.hw 1), (12, AV.hc 0 i.toNat (xs.length - i.toNat) (cutCap c (some i.toNat))), (11, AV.int IntKind.i64 i), (10, AV.hc 0 0 xs.length c), (6, AV.hw 2), (0, AV.hc 0 0 xs.length c), (1, AV.int IntKind.i64 i), (2, AV.hw 1)], objs := [(3, AObj.arr 2 (Ty.str.pair (Ty.int IntKind.i64)) xs [[AV.undef, AV.undef]]), (0, AObj.dead), (2, AObj.arr 2 (Ty.str.pair (Ty.int IntKind.i64)) [] []), (0, AObj.arr 2 (Ty.str.pair (Ty.int IntKind.i64)) xs []), (1, AObj.arr 2 Ty.bool [] [[AV.str r.fst, AV.int IntKind.i64 r.snd]])], nx := 4 }
theorem ins3_ev {R : Type} (xs : List Row2) (i : Int) (r : Row2) (c : Nat) (K : Ex → St → Option R) : ev (env consG3) H.gins 2 (LPof []) (sufC 8 B.slices_Insert_groups_Row_groups_Row) (insM xs i r c) K = bif decide ((0 : Int) ≤ IntKind.i64.wrap (i + (1 : Int))) && decide (IntKind.i64.wrap (i + (1 : Int)) ≤ (↑(xs.length + 1) : Int)) then bif decide (0 < cutCap c (some (IntKind.i64.wrap (i + (1 : Int))).toNat)) then bif decide ((0 : Int) ≤ IntKind.i64.wrap (i + (1 : Int))) && decide (IntKind.i64.wrap (i + (1 : Int)) ≤ (↑(xs.length + 1) : Int)) then bif decide ((0 : Int) ≤ i) && decide (i ≤ (↑(xs.length + 1) : Int)) then bif decide ((IntKind.i64.wrap (i + (1 : Int))).toNat + (xs.length + 1 - (IntKind.i64.wrap (i + (1 : Int))).toNat) = xs.length + 1) && decide ((IntKind.i64.wrap (i + (1 : Int))).toNat ≤ xs.length) && decide (i.toNat + (xs.length + 1 - (IntKind.i64.wrap (i + (1 : Int))).toNat) ≤ xs.length) && decide (xs.length + 1 - (IntKind.i64.wrap (i + (1 : Int))).toNat ≤ xs.length + 1 - i.toNat) then bif decide ((0 : Int) ≤ i) && decide (i ≤ (↑(xs.length + 1) : Int)) then bif decide (1 ≤ xs.length + 1 - i.toNat) && decide (i.toNat + 1 ≤ (List.take xs.length (List.take (IntKind.i64.wrap (i + (1 : Int))).toNat xs ++ List.take (xs.length + 1 - (IntKind.i64.wrap (i + (1 : Int))).toNat) (List.drop i.toNat xs))).length) then bif decide (xs.length + 1 = (List.take i.toNat (List.take xs.length (List.take (IntKind.i64.wrap (i + (1 : Int))).toNat xs ++ List.take (xs.length + 1 - (IntKind.i64.wrap (i + (1 : Int))).toNat) (List.drop i.toNat xs))) ++ [r] ++ List.drop (i.toNat + 1) (List.take xs.length (List.take (IntKind.i64.wrap (i + (1 : Int))).toNat xs ++ List.take (xs.length + 1 - (IntKind.i64.wrap (i + (1 : Int))).toNat) (List.drop i.toNat xs)))).length + 1) && decide (0 < c) then K Ex.ret { slots := [(6, AV.hw 4), (83, AV.hw 3), (82, AV.int IntKind.i64 (1 : Int)), (81, AV.hw 1), (80, AV.hc 3 i.toNat (xs.length + 1 - i.toNat) (cutCap c (some i.toNat))), (79, AV.int IntKind.i64 i), (78, AV.hc 3 0 (xs.length + 1) c), (77, AV.int IntKind.i64 (↑(xs.length + 1 - (IntKind.i64.wrap (i + (1 : Int))).toNat) : Int)), (76, AV.hc 3 i.toNat (xs.length + 1 - i.toNat) (cutCap c (some i.toNat))), (75, AV.int IntKind.i64 i), (74, AV.hc 3 0 (xs.length + 1) c), (73, AV.hc 3 (IntKind.i64.wrap (i + (1 : Int))).toNat (xs.length + 1 - (IntKind.i64.wrap (i + (1 : Int))).toNat) (cutCap c (some (IntKind.i64.wrap (i + (1 : Int))).toNat))), (72, AV.int IntKind.i64 (IntKind.i64.wrap (i + (1 : Int)))), (71, AV.int IntKind.i64 (1 : Int)), (70, AV.int IntKind.i64 i), (69, AV.hc 3 0 (xs.length + 1) c), (68, AV.bool true), (67, AV.bool false), (66, AV.hc 3 (IntKind.i64.wrap (i + (1 : Int))).toNat (xs.length + 1 - (IntKind.i64.wrap (i + (1 : Int))).toNat) (cutCap c (some (IntKind.i64.wrap (i + (1 : Int))).toNat))), (65, AV.int IntKind.i64 (IntKind.i64.wrap (i + (1 : Int)))), (64, AV.int IntKind.i64 (1 : Int)), (63, AV.int IntKind.i64 i), (62, AV.hc 3 0 (xs.length + 1) c), (61, AV.hw 1), (0, AV.hc 3 0 (xs.length + 1) c), (60, AV.hc 3 0 (xs.length + 1) c), (59, AV.int IntKind.i64 (IntKind.i64.wrap ((↑xs.length : Int) + (1 : Int)))), (58, AV.int IntKind.i64 (1 : Int)), (57, AV.int IntKind.i64 (↑xs.length : Int)), (56, AV.hc 0 0 xs.length c), (31, AV.bool (decide (IntKind.i64.wrap ((↑xs.length : Int) + (1 : Int)) > (↑c : Int)))), (30, AV.int IntKind.i64 (↑c : Int)), (29, AV.hc 0 0 xs.length c), (28, AV.int IntKind.i64 (IntKind.i64.wrap ((↑xs.length : Int) + (1 : Int)))), (27, AV.int IntKind.i64 (1 : Int)), (26, AV.int IntKind.i64 (↑xs.length : Int)), (22, AV.bool (i == (↑xs.length : Int))), (21, AV.int IntKind.i64 (↑xs.length : Int)), (20, AV.int IntKind.i64 i), (8, AV.int IntKind.i64 (↑xs.length : Int)), (19, AV.int IntKind.i64 (↑xs.length : Int)), (18, AV.hc 0 0 xs.length c), (16, AV.bool false), (15, AV.int IntKind.i64 (1 : Int)), (7, AV.int IntKind.i64 (1 : Int)), (14, AV.int IntKind.i64 (1 : Int)), (13, AV.hw 1), (12, AV.hc 0 i.toNat (xs.length - i.toNat) (cutCap c (some i.toNat))), (11, AV.int IntKind.i64 i), (10, AV.hc 0 0 xs.length c), (6, AV.hw 2), (0, AV.hc 0 0 xs.length c), (1, AV.int IntKind.i64 i), (2, AV.hw 1)], objs := [(4, AObj.arr 2 (Ty.str.pair (Ty.int IntKind.i64)) (List.take i.toNat (List.take xs.length (List.take (IntKind.i64.wrap (i + (1 : Int))).toNat xs ++ List.take (xs.length + 1 - (IntKind.i64.wrap (i + (1 : Int))).toNat) (List.drop i.toNat xs))) ++ [r] ++ List.drop (i.toNat + 1) (List.take xs.length (List.take (IntKind.i64.wrap (i + (1 : Int))).toNat xs ++ List.take (xs.length + 1 - (IntKind.i64.wrap (i + (1 : Int))).toNat) (List.drop i.toNat xs))) ++ [(List.take (IntKind.i64.wrap (i + (1 : Int))).toNat xs ++ List.take (xs.length + 1 - (IntKind.i64.wrap (i + (1 : Int))).toNat) (List.drop i.toNat xs)).getD xs.length (Ty.str.pair (Ty.int IntKind.i64)).zero]) []), (3, AObj.dead), (3, AObj.arr 2 (Ty.str.pair (Ty.int IntKind.i64)) (List.take i.toNat (List.take xs.length (List.take (IntKind.i64.wrap (i + (1 : Int))).toNat xs ++ List.take (xs.length + 1 - (IntKind.i64.wrap (i + (1 : Int))).toNat) (List.drop i.toNat xs))) ++ [r] ++ List.drop (i.toNat + 1) (List.take xs.length (List.take (IntKind.i64.wrap (i + (1 : Int))).toNat xs ++ List.take (xs.length + 1 - (IntKind.i64.wrap (i + (1 : Int))).toNat) (List.drop i.toNat xs)))) [[AV.str ((List.take (IntKind.i64.wrap (i + (1 : Int))).toNat xs ++ List.take (xs.length + 1 - (IntKind.i64.wrap (i + (1 : Int))).toNat) (List.drop i.toNat xs)).getD xs.length (Ty.str.pair (Ty.int IntKind.i64)).zero).fst, AV.int IntKind.i64 ((List.take (IntKind.i64.wrap (i + (1 : Int))).toNat xs ++ List.take (xs.length + 1 - (IntKind.i64.wrap (i + (1 : Int))).toNat) (List.drop i.toNat xs)).getD xs.length (Ty.str.pair (Ty.int IntKind.i64)).zero).snd]]), (3, AObj.arr 2 (Ty.str.pair (Ty.int IntKind.i64)) (List.take xs.length (List.take (IntKind.i64.wrap (i + (1 : Int))).toNat xs ++ List.take (xs.length + 1 - (IntKind.i64.wrap (i + (1 : Int))).toNat) (List.drop i.toNat xs))) [[AV.str ((List.take (IntKind.i64.wrap (i + (1 : Int))).toNat xs ++ List.take (xs.length + 1 - (IntKind.i64.wrap (i + (1 : Int))).toNat) (List.drop i.toNat xs)).getD xs.length (Ty.str.pair (Ty.int IntKind.i64)).zero).fst, AV.int IntKind.i64 ((List.take (IntKind.i64.wrap (i + (1 : Int))).toNat xs ++ List.take (xs.length + 1 - (IntKind.i64.wrap (i + (1 : Int))).toNat) (List.drop i.toNat xs)).getD xs.length (Ty.str.pair (Ty.int IntKind.i64)).zero).snd]]), (3, AObj.arr 2 (Ty.str.pair (Ty.int IntKind.i64)) xs [[AV.undef, AV.undef]]), (0, AObj.dead), (2, AObj.arr 2 (Ty.str.pair (Ty.int IntKind.i64)) [] []), (0, AObj.arr 2 (Ty.str.pair (Ty.int IntKind.i64)) xs []), (1, AObj.arr 2 Ty.bool [] [[AV.str r.fst, AV.int IntKind.i64 r.snd]])], nx := 5 } else none else none else none else none else none else none else none else none := by kernel_rfl

end Go.Sim.XG
namespace Go.Sim.XG
set_option linter.unusedSimpArgs false
set_option linter.unusedVariables false
set_option maxRecDepth 10000
def insR3 (xs : List Row2) (i : Int) (r : Row2) (c : Nat) : St := { slots := [(6, AV.hw 4), (83, AV.hw 3), (82, AV.int IntKind.i64 (1 : Int)), (81, AV.hw 1), (80, AV.hc 3 i.toNat (xs.length + 1 - i.toNat) (cutCap c (some i.toNat))), (79, AV.int IntKind.i64 i), (78, AV.hc 3 0 (xs.length + 1) c), (77, AV.int IntKind.i64 (↑(xs.length + 1 - (IntKind.i64.wrap (i + (1 : Int))).toNat) : Int)), (76, AV.hc 3 i.toNat (xs.length + 1 - i.toNat) (cutCap c (some i.toNat))), (75, AV.int IntKind.i64 i), (74, AV.hc 3 0 (xs.length + 1) c), (73, AV.hc 3 (IntKind.i64.wrap (i + (1 : Int))).toNat (xs.length + 1 - (IntKind.i64.wrap (i + (1 : Int))).toNat) (cutCap c (some (IntKind.i64.wrap (i + (1 : Int))).toNat))), (72, AV.int IntKind.i64 (IntKind.i64.wrap (i + (1 : Int)))), (71, AV.int IntKind.i64 (1 : Int)), (70, AV.int IntKind.i64 i), (69, AV.hc 3 0 (xs.length + 1) c), (68, AV.bool true), (67, AV.bool false), (66, AV.hc 3 (IntKind.i64.wrap (i + (1 : Int))).toNat (xs.length + 1 - (IntKind.i64.wrap (i + (1 : Int))).toNat) (cutCap c (some (IntKind.i64.wrap (i + (1 : Int))).toNat))), (65, AV.int IntKind.i64 (IntKind.i64.wrap (i + (1 : Int)))), (64, AV.int IntKind.i64 (1 : Int)), (63, AV.int IntKind.i64 i), (62, AV.hc 3 0 (xs.length + 1) c), (61, AV.hw 1), (0, AV.hc 3 0 (xs.length + 1) c), (60, AV.hc 3 0 (xs.length + 1) c), (59, AV.int IntKind.i64 (IntKind.i64.wrap ((↑xs.length : Int) + (1 : Int)))), (58, AV.int IntKind.i64 (1 : Int)), (57, AV.int IntKind.i64 (↑xs.length : Int)), (56, AV.hc 0 0 xs.length c), (31, AV.bool (decide (IntKind.i64.wrap ((↑xs.length : Int) + (1 : Int)) > (↑c : Int)))), (30, AV.int IntKind.i64 (↑c : Int)), (29, AV.hc 0 0 xs.length c), (28, AV.int IntKind.i64 (IntKind.i64.wrap ((↑xs.length : Int) + (1 : Int)))), (27, AV.int IntKind.i64 (1 : Int)), (26, AV.int IntKind.i64 (↑xs.length : Int)), (22, AV.bool (i == (↑xs.length : Int))), (21, AV.int IntKind.i64 (↑xs.length : Int)), (20, AV.int IntKind.i64 i), (8, AV.int IntKind.i64 (↑xs.length : Int)), (19, AV.int IntKind.i64 (↑xs.length : Int)), (18, AV.hc 0 0 xs.length c), (16, AV.bool false), (15, AV.int IntKind.i64 (1 : Int)), (7, AV.int IntKind.i64 (1 : Int)), (14, AV.int IntKind.i64 (1 : Int)), (13, AV.hw 1), (12, AV.hc 0 i.toNat (xs.length - i.toNat) (cutCap c (some i.toNat))), (11, AV.int IntKind.i64 i), (10, AV.hc 0 0 xs.length c), (6, AV.hw 2), (0, AV.hc 0 0 xs.length c), (1, AV.int IntKind.i64 i), (2, AV.hw 1)], objs := [(4, AObj.arr 2 (Ty.str.pair (Ty.int IntKind.i64)) (List.take i.toNat (List.take xs.length (List.take (IntKind.i64.wrap (i + (1 : Int))).toNat xs ++ List.take (xs.length + 1 - (IntKind.i64.wrap (i + (1 : Int))).toNat) (List.drop i.toNat xs))) ++ [r] ++ List.drop (i.toNat + 1) (List.take xs.length (List.take (IntKind.i64.wrap (i + (1 : Int))).toNat xs ++ List.take (xs.length + 1 - (IntKind.i64.wrap (i + (1 : Int))).toNat) (List.drop i.toNat xs))) ++ [(List.take (IntKind.i64.wrap (i + (1 : Int))).toNat xs ++ List.take (xs.length + 1 - (IntKind.i64.wrap (i + (1 : Int))).toNat) (List.drop i.toNat xs)).getD xs.length (Ty.str.pair (Ty.int IntKind.i64)).zero]) []), (3, AObj.dead), (3, AObj.arr 2 (Ty.str.pair (Ty.int IntKind.i64)) (List.take i.toNat (List.take xs.length (List.take (IntKind.i64.wrap (i + (1 : Int))).toNat xs ++ List.take (xs.length + 1 - (IntKind.i64.wrap (i + (1 : Int))).toNat) (List.drop i.toNat xs))) ++ [r] ++ List.drop (i.toNat + 1) (List.take xs.length (List.take (IntKind.i64.wrap (i + (1 : Int))).toNat xs ++ List.take (xs.length + 1 - (IntKind.i64.wrap (i + (1 : Int))).toNat) (List.drop i.toNat xs)))) [[AV.str ((List.take (IntKind.i64.wrap (i + (1 : Int))).toNat xs ++ List.take (xs.length + 1 - (IntKind.i64.wrap (i + (1 : Int))).toNat) (List.drop i.toNat xs)).getD xs.length (Ty.str.pair (Ty.int IntKind.i64)).zero).fst, AV.int IntKind.i64 ((List.take (IntKind.i64.wrap (i + (1 : Int))).toNat xs ++ List.take (xs.length + 1 - (IntKind.i64.wrap (i + (1 : Int))).toNat) (List.drop i.toNat xs)).getD xs.length (Ty.str.pair (Ty.int IntKind.i64)).zero).snd]]), (3, AObj.arr 2 (Ty.str.pair (Ty.int IntKind.i64)) (List.take xs.length (List.take (IntKind.i64.wrap (i + (1 : Int))).toNat xs ++ List.take (xs.length + 1 - (IntKind.i64.wrap (i + (1 : Int))).toNat) (List.drop i.toNat xs))) [[AV.str ((List.take (IntKind.i64.wrap (i + (1 : Int))).toNat xs ++ List.take (xs.length + 1 - (IntKind.i64.wrap (i + (1 : Int))).toNat) (List.drop i.toNat xs)).getD xs.length (Ty.str.pair (Ty.int IntKind.i64)).zero).fst, AV.int IntKind.i64 ((List.take (IntKind.i64.wrap (i + (1 : Int))).toNat xs ++ List.take (xs.length + 1 - (IntKind.i64.wrap (i + (1 : Int))).toNat) (List.drop i.toNat xs)).getD xs.length (Ty.str.pair (Ty.int IntKind.i64)).zero).snd]]), (3, AObj.arr 2 (Ty.str.pair (Ty.int IntKind.i64)) xs [[AV.undef, AV.undef]]), (0, AObj.dead), (2, AObj.arr 2 (Ty.str.pair (Ty.int IntKind.i64)) [] []), (0, AObj.arr 2 (Ty.str.pair (Ty.int IntKind.i64)) xs []), (1, AObj.arr 2 Ty.bool [] [[AV.str r.fst, AV.int IntKind.i64 r.snd]])], nx := 5 }
abbrev insOut : List OPat := [.dead, .box 2 [[.str, .int .i64]], .arr 2 rowS []]
noncomputable def insFin (e : Ex) (s : St) : Option ((Pat.lit (.hw 2)).den × opatsDen insOut) := match e with
  | .exit _ => none
  | _ => (resultsOf (env consG3) s F.slices_Insert_groups_Row_groups_Row.results.toList).bind fun vs => finV (.lit (.hw 2)) insOut 2 (oneOr vs) s
theorem fin1_ev (xs : List Row2) (i : Int) (r : Row2) (c : Nat) : insFin .ret (insR1 xs i r c) = some ((), (), ((r.fst, r.snd, ()), ()), (List.take xs.length xs ++ [r], ()), ()) := by kernel_rfl

theorem fin2_ev (xs : List Row2) (i : Int) (r : Row2) (c : Nat) : insFin .ret (insR2 xs i r c) = some ((), (), ((r.fst, r.snd, ()), ()), (List.take (IntKind.i64.wrap (i + (1 : Int))).toNat (List.take i.toNat (List.take i.toNat xs ++ List.replicate (IntKind.i64.wrap (IntKind.i64.wrap ((↑xs.length : Int) + (1 : Int)) - i)).toNat (Ty.str.pair (Ty.int IntKind.i64)).zero) ++ [r] ++ List.drop (i.toNat + 1) (List.take i.toNat xs ++ List.replicate (IntKind.i64.wrap (IntKind.i64.wrap ((↑xs.length : Int) + (1 : Int)) - i)).toNat (Ty.str.pair (Ty.int IntKind.i64)).zero)) ++ List.drop i.toNat xs ++ List.drop ((IntKind.i64.wrap (i + (1 : Int))).toNat + (List.drop i.toNat xs).length) (List.take i.toNat (List.take i.toNat xs ++ List.replicate (IntKind.i64.wrap (IntKind.i64.wrap ((↑xs.length : Int) + (1 : Int)) - i)).toNat (Ty.str.pair (Ty.int IntKind.i64)).zero) ++ [r] ++ List.drop (i.toNat + 1) (List.take i.toNat xs ++ List.replicate (IntKind.i64.wrap (IntKind.i64.wrap ((↑xs.length : Int) + (1 : Int)) - i)).toNat (Ty.str.pair (Ty.int IntKind.i64)).zero)), ()), ()) := by kernel_rfl

theorem fin3_ev (xs : List Row2) (i : Int) (r : Row2) (c : Nat) : insFin .ret (insR3 xs i r c) = some ((), (), ((r.fst, r.snd, ()), ()), (List.take i.toNat (List.take xs.length (List.take (IntKind.i64.wrap (i + (1 : Int))).toNat xs ++ List.take (xs.length + 1 - (IntKind.i64.wrap (i + (1 : Int))).toNat) (List.drop i.toNat xs))) ++ [r] ++ List.drop (i.toNat + 1) (List.take xs.length (List.take (IntKind.i64.wrap (i + (1 : Int))).toNat xs ++ List.take (xs.length + 1 - (IntKind.i64.wrap (i + (1 : Int))).toNat) (List.drop i.toNat xs))) ++ [(List.take (IntKind.i64.wrap (i + (1 : Int))).toNat xs ++ List.take (xs.length + 1 - (IntKind.i64.wrap (i + (1 : Int))).toNat) (List.drop i.toNat xs)).getD xs.length (Ty.str.pair (Ty.int IntKind.i64)).zero], ()), ()) := by kernel_rfl

theorem cond_t {α : Type _} {b : Bool} {x y : α} (h : b = true) : cond b x y = x := by rw [h]; rfl
theorem cond_f {α : Type _} {b : Bool} {x y : α} (h : b = false) : cond b x y = y := by rw [h]; rfl
theorem suf_skip : ∀ m, sufC m .skip = .skip
  | 0 => rfl
  | _ + 1 => rfl
theorem suf_suf : ∀ (n m : Nat) (c : Code), sufC m (sufC n c) = sufC (n + m) c
  | 0, m, c => by rw [Nat.zero_add]; rfl
  | n + 1, m, c => by
    rw [show n + 1 + m = (n + m) + 1 by omega]
    cases c <;> first | exact suf_suf n m _ | exact suf_skip m
theorem ins_grow (xs : List Row2) (z r : Row2) (k : Nat) (hk : k ≤ xs.length) : List.take (k + 1) (List.take k (List.take k xs ++ List.replicate (xs.length + 1 - k) z) ++ [r] ++ List.drop (k + 1) (List.take k xs ++ List.replicate (xs.length + 1 - k) z)) ++ List.drop k xs ++
    List.drop (k + 1 + (List.drop k xs).length) (List.take k (List.take k xs ++ List.replicate (xs.length + 1 - k) z) ++ [r] ++ List.drop (k + 1) (List.take k xs ++ List.replicate (xs.length + 1 - k) z)) = putG xs k k r := by
  have hl : (List.take k xs).length = k := by simp; omega
  have e1 : List.take k (List.take k xs ++ List.replicate (xs.length + 1 - k) z) = List.take k xs := by
    rw [List.take_append_of_le_length (by omega), List.take_take, Nat.min_self]
  have e2 : List.drop (k + 1) (List.take k xs ++ List.replicate (xs.length + 1 - k) z) = List.replicate (xs.length - k) z := by
    rw [List.drop_append, List.drop_of_length_le (by omega), hl, Nat.add_sub_cancel_left, List.drop_replicate, List.nil_append]
    congr 1
    omega
  rw [e1, e2]
  have hl1 : (List.take k xs ++ [r]).length = k + 1 := by rw [List.length_append, hl]; rfl
  have e3 : List.take (k + 1) (List.take k xs ++ [r] ++ List.replicate (xs.length - k) z) = List.take k xs ++ [r] := by
    rw [List.take_append_of_le_length (by omega), List.take_of_length_le (by omega)]
  have e4 : List.drop (k + 1 + (List.drop k xs).length) (List.take k xs ++ [r] ++ List.replicate (xs.length - k) z) = [] :=
    List.drop_of_length_le (by rw [List.length_append, hl1, List.length_replicate, List.length_drop]; omega)
  rw [e3, e4]
  unfold putG
  simp
theorem ins_move (xs : List Row2) (z r : Row2) (k : Nat) (hk : k < xs.length) : List.take k (List.take xs.length (List.take (k + 1) xs ++ List.take (xs.length + 1 - (k + 1)) (List.drop k xs))) ++ [r] ++
    List.drop (k + 1) (List.take xs.length (List.take (k + 1) xs ++ List.take (xs.length + 1 - (k + 1)) (List.drop k xs))) ++ [(List.take (k + 1) xs ++ List.take (xs.length + 1 - (k + 1)) (List.drop k xs)).getD xs.length z] = putG xs k k r := by
  have eA : List.take (xs.length + 1 - (k + 1)) (List.drop k xs) = List.drop k xs := List.take_of_length_le (by simp only [List.length_drop]; omega)
  rw [eA]
  have hl : (List.take (k + 1) xs).length = k + 1 := by simp; omega
  obtain ⟨A, hA⟩ : ∃ A, A = List.take (k + 1) xs ++ List.drop k xs := ⟨_, rfl⟩
  have hAl : A.length = xs.length + 1 := by rw [hA, List.length_append, hl, List.length_drop]; omega
  rw [← hA]
  have h1 : List.take k (List.take xs.length A) = List.take k xs := by
    rw [List.take_take, Nat.min_eq_left (by omega), hA, List.take_append_of_le_length (by omega), List.take_take, Nat.min_eq_left (by omega)]
  have h2 : List.take xs.length A ++ [A.getD xs.length z] = A := by
    have hget : A.getD xs.length z = A[xs.length]'(by omega) := by rw [List.getD_eq_getElem?_getD, List.getElem?_eq_getElem (by omega)]; rfl
    rw [hget, List.take_append_getElem, List.take_of_length_le (by omega)]
  have h3 : List.drop (k + 1) (List.take xs.length A) ++ [A.getD xs.length z] = List.drop k xs := by
    have : List.drop (k + 1) (List.take xs.length A ++ [A.getD xs.length z]) = List.drop (k + 1) (List.take xs.length A) ++ [A.getD xs.length z] := List.drop_append_of_le_length (by rw [List.length_take, hAl]; omega)
    rw [← this, h2, hA, List.drop_append, hl, Nat.sub_self, List.drop_of_length_le (by omega)]
    simp
  rw [h1, List.append_assoc, List.append_assoc, h3]
  unfold putG
  simp
theorem mv_len (A : List Row2) (r : Row2) (n k : Nat) (hA : A.length = n + 1) (hk : k < n) : (List.take k (List.take n A) ++ [r] ++ List.drop (k + 1) (List.take n A)).length = n := by
  simp only [List.length_append, List.length_take, List.length_drop, List.length_cons, List.length_nil, hA]
  omega
theorem ins_val (xs : List Row2) (r : Row2) (c k : Nat) (hk : k ≤ xs.length) (hn : xs.length ≤ 1000000) (hc : xs.length ≤ c) (hM : c ≤ maxL) :
    evFn (env consG3) H.gins (LPof []) F.slices_Insert_groups_Row_groups_Row [.hc 0 0 xs.length c, .int .i64 (k : Int), .hw 1] [.arr 2 rowS xs [], insObj r] (finV (.lit (.hw 2)) insOut 2) = some ((), (), ((r.1, r.2, ()), ()), (putG xs k k r, ()), ()) := by
  have h0 : evFn (env consG3) H.gins (LPof []) F.slices_Insert_groups_Row_groups_Row [.hc 0 0 xs.length c, .int .i64 (k : Int), .hw 1] [.arr 2 rowS xs [], insObj r] (finV (.lit (.hw 2)) insOut 2) =
    ev (env consG3) H.gins 2 (LPof []) B.slices_Insert_groups_Row_groups_Row (initSt [.hc 0 0 xs.length c, .int .i64 (k : Int), .hw 1] [.arr 2 rowS xs [], insObj r]) insFin := by
    unfold evFn
    rw [Bd.slices_Insert_groups_Row_groups_Row]
    rfl
  have w1 : IntKind.i64.wrap ((xs.length : Int) + 1) = (xs.length : Int) + 1 := wrap64 (by omega) (by omega)
  have w2 : IntKind.i64.wrap ((xs.length : Int) + 1 - (k : Int)) = (xs.length : Int) + 1 - (k : Int) := wrap64 (by omega) (by omega)
  have w3 : IntKind.i64.wrap ((k : Int) + 1) = (k : Int) + 1 := wrap64 (by omega) (by omega)
  have t1 : ((xs.length : Int) + 1 - (k : Int)).toNat = xs.length + 1 - k := by omega
  have t2 : ((k : Int) + 1).toNat = k + 1 := by omega
  rw [h0, ev_cut (by rfl) 7, ins1_ev]
  rw [cond_pos2 (by omega) (by omega)]
  by_cases he : k = xs.length
  · subst he
    rw [show (((xs.length : Int) == (xs.length : Int))) = true by simp, cond_true, cond_pos (by simp; omega)]
    refine (fin1_ev xs (xs.length : Int) r c).trans ?_
    congr 1
    unfold putG
    simp
  · have hne : ((k : Int) == (xs.length : Int)) = false := by simp; omega
    rw [cond_f hne]
    by_cases hg : xs.length + 1 > c
    · have hl0 : (List.take k xs ++ List.replicate (xs.length + 1 - k) rowS.zero).length = xs.length + 1 := by simp only [List.length_append, List.length_take, List.length_replicate]; omega
      have hd : (List.drop k xs).length = xs.length - k := List.length_drop
      have hl1 : (List.take k (List.take k xs ++ List.replicate (xs.length + 1 - k) rowS.zero) ++ [r] ++ List.drop (k + 1) (List.take k xs ++ List.replicate (xs.length + 1 - k) rowS.zero)).length = xs.length + 1 := by
        rw [List.length_append, List.length_append, List.length_take, List.length_drop, hl0]
        simp only [List.length_cons, List.length_nil]
        omega
      rw [cond_t (by first | (simp only [w1, w2, w3, t1, t2, Int.toNat_natCast, hl0, hl1, hd, decide_true, Bool.and_true, Bool.true_and, Bool.and_eq_true, decide_eq_true_eq]; done) | (simp only [w1, w2, w3, t1, t2, Int.toNat_natCast, hl0, hl1, hd, decide_true, Bool.and_true, Bool.true_and, Bool.and_eq_true, decide_eq_true_eq]; omega)), cond_t (by first | (simp only [w1, w2, w3, t1, t2, Int.toNat_natCast, hl0, hl1, hd, decide_true, Bool.and_true, Bool.true_and, Bool.and_eq_true, decide_eq_true_eq]; done) | (simp only [w1, w2, w3, t1, t2, Int.toNat_natCast, hl0, hl1, hd, decide_true, Bool.and_true, Bool.true_and, Bool.and_eq_true, decide_eq_true_eq]; omega)), cond_t (by first | (simp only [w1, w2, w3, t1, t2, Int.toNat_natCast, hl0, hl1, hd, decide_true, Bool.and_true, Bool.true_and, Bool.and_eq_true, decide_eq_true_eq]; done) | (simp only [w1, w2, w3, t1, t2, Int.toNat_natCast, hl0, hl1, hd, decide_true, Bool.and_true, Bool.true_and, Bool.and_eq_true, decide_eq_true_eq]; omega)), cond_t (by first | (simp only [w1, w2, w3, t1, t2, Int.toNat_natCast, hl0, hl1, hd, decide_true, Bool.and_true, Bool.true_and, Bool.and_eq_true, decide_eq_true_eq]; done) | (simp only [w1, w2, w3, t1, t2, Int.toNat_natCast, hl0, hl1, hd, decide_true, Bool.and_true, Bool.true_and, Bool.and_eq_true, decide_eq_true_eq]; omega)), cond_t (by first | (simp only [w1, w2, w3, t1, t2, Int.toNat_natCast, hl0, hl1, hd, decide_true, Bool.and_true, Bool.true_and, Bool.and_eq_true, decide_eq_true_eq]; done) | (simp only [w1, w2, w3, t1, t2, Int.toNat_natCast, hl0, hl1, hd, decide_true, Bool.and_true, Bool.true_and, Bool.and_eq_true, decide_eq_true_eq]; omega)), cond_t (by first | (simp only [w1, w2, w3, t1, t2, Int.toNat_natCast, hl0, hl1, hd, decide_true, Bool.and_true, Bool.true_and, Bool.and_eq_true, decide_eq_true_eq]; done) | (simp only [w1, w2, w3, t1, t2, Int.toNat_natCast, hl0, hl1, hd, decide_true, Bool.and_true, Bool.true_and, Bool.and_eq_true, decide_eq_true_eq]; omega)), cond_t (by first | (simp only [w1, w2, w3, t1, t2, Int.toNat_natCast, hl0, hl1, hd, decide_true, Bool.and_true, Bool.true_and, Bool.and_eq_true, decide_eq_true_eq]; done) | (simp only [w1, w2, w3, t1, t2, Int.toNat_natCast, hl0, hl1, hd, decide_true, Bool.and_true, Bool.true_and, Bool.and_eq_true, decide_eq_true_eq]; omega)), cond_t (by first | (simp only [w1, w2, w3, t1, t2, Int.toNat_natCast, hl0, hl1, hd, decide_true, Bool.and_true, Bool.true_and, Bool.and_eq_true, decide_eq_true_eq]; done) | (simp only [w1, w2, w3, t1, t2, Int.toNat_natCast, hl0, hl1, hd, decide_true, Bool.and_true, Bool.true_and, Bool.and_eq_true, decide_eq_true_eq]; omega)), cond_t (by first | (simp only [w1, w2, w3, t1, t2, Int.toNat_natCast, hl0, hl1, hd, decide_true, Bool.and_true, Bool.true_and, Bool.and_eq_true, decide_eq_true_eq]; done) | (simp only [w1, w2, w3, t1, t2, Int.toNat_natCast, hl0, hl1, hd, decide_true, Bool.and_true, Bool.true_and, Bool.and_eq_true, decide_eq_true_eq]; omega))]
      refine (fin2_ev xs (k : Int) r c).trans ?_
      simp only [w1, w2, w3, t1, t2, Int.toNat_natCast]
      rw [ins_grow xs _ r k hk]
    · have hA : List.take (xs.length + 1 - (k + 1)) (List.drop k xs) = List.drop k xs := List.take_of_length_le (by simp only [List.length_drop]; omega)
      have hA2 : (List.take xs.length (List.take (k + 1) xs ++ List.drop k xs)).length = xs.length := by simp only [List.length_take, List.length_append, List.length_drop]; omega
      have hA3 : True := trivial
      rw [cond_f (by simp only [w1, decide_eq_false_iff_not]; omega)]
      show ev (env consG3) H.gins 2 (LPof []) (sufC 7 B.slices_Insert_groups_Row_groups_Row) (insN xs (k : Int) r c) insFin = _
      rw [ev_cut (by rfl) 1, ins2_ev, cond_f (by simp only [w1, Bool.and_eq_false_iff, decide_eq_false_iff_not]; omega), cond_t (by first | (simp only [w1, w3, t2, Int.toNat_natCast, hA, hA2, hA3, cutCap, decide_true, Bool.and_true, Bool.true_and, Bool.and_eq_true, decide_eq_true_eq]; done) | (simp only [w1, w3, t2, Int.toNat_natCast, hA, hA2, hA3, cutCap, decide_true, Bool.and_true, Bool.true_and, Bool.and_eq_true, decide_eq_true_eq]; omega))]
      rw [suf_suf]
      show ev (env consG3) H.gins 2 (LPof []) (sufC 8 B.slices_Insert_groups_Row_groups_Row) (insM xs (k : Int) r c) insFin = _
      rw [ins3_ev, cond_t (by first | (simp only [w1, w3, t2, Int.toNat_natCast, hA, hA2, hA3, cutCap, decide_true, Bool.and_true, Bool.true_and, Bool.and_eq_true, decide_eq_true_eq]; done) | (simp only [w1, w3, t2, Int.toNat_natCast, hA, hA2, hA3, cutCap, decide_true, Bool.and_true, Bool.true_and, Bool.and_eq_true, decide_eq_true_eq]; omega)), cond_t (by first | (simp only [w1, w3, t2, Int.toNat_natCast, hA, hA2, hA3, cutCap, decide_true, Bool.and_true, Bool.true_and, Bool.and_eq_true, decide_eq_true_eq]; done) | (simp only [w1, w3, t2, Int.toNat_natCast, hA, hA2, hA3, cutCap, decide_true, Bool.and_true, Bool.true_and, Bool.and_eq_true, decide_eq_true_eq]; omega)), cond_t (by first | (simp only [w1, w3, t2, Int.toNat_natCast, hA, hA2, hA3, cutCap, decide_true, Bool.and_true, Bool.true_and, Bool.and_eq_true, decide_eq_true_eq]; done) | (simp only [w1, w3, t2, Int.toNat_natCast, hA, hA2, hA3, cutCap, decide_true, Bool.and_true, Bool.true_and, Bool.and_eq_true, decide_eq_true_eq]; omega)), cond_t (by first | (simp only [w1, w3, t2, Int.toNat_natCast, hA, hA2, hA3, cutCap, decide_true, Bool.and_true, Bool.true_and, Bool.and_eq_true, decide_eq_true_eq]; done) | (simp only [w1, w3, t2, Int.toNat_natCast, hA, hA2, hA3, cutCap, decide_true, Bool.and_true, Bool.true_and, Bool.and_eq_true, decide_eq_true_eq]; omega)), cond_t (by first | (simp only [w1, w3, t2, Int.toNat_natCast, hA, hA2, hA3, cutCap, decide_true, Bool.and_true, Bool.true_and, Bool.and_eq_true, decide_eq_true_eq]; done) | (simp only [w1, w3, t2, Int.toNat_natCast, hA, hA2, hA3, cutCap, decide_true, Bool.and_true, Bool.true_and, Bool.and_eq_true, decide_eq_true_eq]; omega)), cond_t (by first | (simp only [w1, w3, t2, Int.toNat_natCast, hA, hA2, hA3, cutCap, decide_true, Bool.and_true, Bool.true_and, Bool.and_eq_true, decide_eq_true_eq]; done) | (simp only [w1, w3, t2, Int.toNat_natCast, hA, hA2, hA3, cutCap, decide_true, Bool.and_true, Bool.true_and, Bool.and_eq_true, decide_eq_true_eq]; omega)), cond_t (by first | (simp only [w1, w3, t2, Int.toNat_natCast, hA, hA2, hA3, cutCap, decide_true, Bool.and_true, Bool.true_and, Bool.and_eq_true, decide_eq_true_eq]; done) | (simp only [w1, w3, t2, Int.toNat_natCast, hA, hA2, hA3, cutCap, decide_true, Bool.and_true, Bool.true_and, Bool.and_eq_true, decide_eq_true_eq]; omega))]
      rw [cond_t (by
        rw [Bool.and_eq_true]
        refine ⟨?_, decide_eq_true (by omega)⟩
        rw [decide_eq_true_eq]
        have hml := mv_len (List.take (k + 1) xs ++ List.drop k xs) r xs.length k (by simp only [List.length_append, List.length_take, List.length_drop]; omega) (by omega)
        rw [w3, t2, Int.toNat_natCast, hA]
        rw [hml])]
      refine (fin3_ev xs (k : Int) r c).trans ?_
      simp only [w3, t2, Int.toNat_natCast]
      rw [ins_move xs _ r k (by omega)]
end Go.Sim.XG
namespace Go.Sim.XG
set_option linter.unusedSimpArgs false
set_option linter.unusedVariables false
set_option maxRecDepth 10000
theorem row29 : P0.underlying 74 = some (.slice 140) := by kernel_rfl
theorem size54 (w : World) : (Go.sizeOf 140).run P0 w = .ok 2 w := by
  have h : (P0.info? 140).map (fun x => x.size) = some 2 := by kernel_rfl
  obtain ⟨i0, hi0, h1⟩ := Option.map_eq_some_iff.1 h
  simp [sizeOf, typeInfo, hi0, h1]
theorem apart35 : ApartOK P0 187 := fun w a b la ca lb cb tA tB kA kB h1 h2 h3 h4 h5 h6 => by
  rw [run_callFunc_extern (P := P0) (f := 187) (fn := Proofs.Tryz.f187) Proofs.Tryz.func187 (by kernel_rfl) (by kernel_rfl) (by kernel_rfl) (e := Extern.SlicesOverlaps.overlaps #[74, 74] #[4]) (by kernel_rfl),
    Lib.run_overlaps_apart w 74 4 140 row29 2 size54 a b la ca lb cb h1 tA tB kA kB h2 h3 h4 h5 h6]
  rfl
theorem consG3_ok : ∀ x ∈ consG3, HoldsC P0 x.1 x.2 := by
  intro x hx
  simp at hx
  subst hx
  exact apart35
def caseIns : VCase := ⟨[.lit (.hw 0), .int .i64, .lit (.hw 1)], [.arr 2 rowS [], .box 2 [[.str, .int .i64]]], .lit (.hw 2), insOut,
  fun ⟨_, i, _⟩ ⟨⟨xs, _⟩, ⟨⟨a, b, _⟩, _⟩, _⟩ => [(decide (0 ≤ i) && decide (i ≤ (List.length xs : Int)) && decide (List.length xs ≤ 1000000), ((), ((), ((a, b, ()), ()), (putG xs i.toNat i.toNat (a, b), ()), ())))]⟩
theorem ins_ok : caseIns.e.ok P0 I.slices_Insert_groups_Row_groups_Row := fun ⟨_, i, _, _⟩ ⟨⟨xs, _⟩, ⟨⟨a, b, _⟩, _⟩, _⟩ r objs' hxy hw1 hw2 => by
  obtain ⟨z, hz, e0⟩ := pick_mapAlt hxy
  cases e0
  obtain ⟨hc, rfl⟩ := pick_pre hz
  simp only [Bool.and_eq_true, decide_eq_true_eq] at hc
  obtain ⟨k, rfl⟩ := Int.eq_ofNat_of_zero_le hc.1.1
  refine EffGood.of_cap (n := I.slices_Insert_groups_Row_groups_Row) (t := rowS) (xs := xs) fun cp h1 h2 => ?_
  exact eff_of_ev (H := H.gins) (E := env consG3) (env_ok consG3_ok) glob0 mixed0 G.slices_Insert_groups_Row_groups_Row Bd.slices_Insert_groups_Row_groups_Row (by kernel_rfl) noLoops (out := .lit (.hw 2)) (outs := insOut) (ins_val xs (a, b) cp k (Int.ofNat_le.1 hc.1.2) hc.2 h1 h2)
def caseGf1 : PCase := ⟨[.ty rowS, .ty .str], [.int .i64], fun x => (fun (r : Row2) (p : List UInt8) => [(true, (cmpS r.1 p, ()))]) x.1 x.2.1⟩
theorem gfind1_val (r : Row2) (p : List UInt8) : evFn (env consG2) H.groups_Table_find_1 (LPof []) F.groups_Table_find_1 [valOf rowS r, .str p] [] (finT [.int .i64]) = some (cmpS r.1 p, ()) := by
  rw [gfind1_ev]
theorem gfind1_ok : caseGf1.ok P0 I.groups_Table_find_1 := case_ok2 (H := H.groups_Table_find_1) (E := env consG2) (env_ok consG2_ok) glob0 mixed0 G.groups_Table_find_1 Bd.groups_Table_find_1 (by kernel_rfl) noLoops fun ⟨r, p, ()⟩ y h hw => by
  obtain ⟨hc, rfl⟩ := pick_pre h
  exact gfind1_val r p
noncomputable abbrev consG4 : List (FuncId × Con) := [(I.groups_Table_find_1, .pure (pureOf [caseGf1]))]
theorem consG4_ok : ∀ x ∈ consG4, HoldsC P0 x.1 x.2 := by
  intro x hx
  simp at hx
  subst hx
  exact ⟨pureOf_holds (by simp; exact gfind1_ok), C.groups_Table_find_1⟩
theorem bs_rd {R : Type} (xs : List Row2) (p : List UInt8) (n i j : Int) (K : Ex → St → Option R) : roundK (env consG4) H.slices_BinarySearchFunc_groups_Row_groups_Row_string 1 (LPof []) V.slices_BinarySearchFunc_groups_Row_groups_Row_string_3 L.slices_BinarySearchFunc_groups_Row_groups_Row_string_3 ⟨[(0, .hw 0), (1, .str p), (2, .fn (.func I.groups_Table_find_1) [] []), (8, .int .i64 n), (9, .int .i64 i), (10, .int .i64 j)], [(0, .arr 2 rowS xs [])], 1⟩ K = bif decide (i < j) then bif decide ((0 : Int) ≤ IntKind.i64.wrap ((IntKind.u64.wrap (IntKind.i64.wrap (i + j))).fdiv (2 : Int))) && decide (IntKind.i64.wrap ((IntKind.u64.wrap (IntKind.i64.wrap (i + j))).fdiv (2 : Int)) < (↑xs.length : Int)) then bif decide (cmpS (xs.getD (IntKind.i64.wrap ((IntKind.u64.wrap (IntKind.i64.wrap (i + j))).fdiv (2 : Int))).toNat rowS.zero).fst p < (0 : Int)) then K Ex.normal { slots := [(0, AV.hw 0), (1, AV.str p), (2, AV.fn (Fn.func 185) [] []), (8, AV.int IntKind.i64 n), (9, AV.int IntKind.i64 (IntKind.i64.wrap (IntKind.i64.wrap ((IntKind.u64.wrap (IntKind.i64.wrap (i + j))).fdiv (2 : Int)) + (1 : Int)))), (10, AV.int IntKind.i64 j)], objs := [(0, AObj.arr 2 (Ty.str.pair (Ty.int IntKind.i64)) xs [])], nx := 1 } else K Ex.normal { slots := [(0, AV.hw 0), (1, AV.str p), (2, AV.fn (Fn.func 185) [] []), (8, AV.int IntKind.i64 n), (9, AV.int IntKind.i64 i), (10, AV.int IntKind.i64 (IntKind.i64.wrap ((IntKind.u64.wrap (IntKind.i64.wrap (i + j))).fdiv (2 : Int))))], objs := [(0, AObj.arr 2 (Ty.str.pair (Ty.int IntKind.i64)) xs [])], nx := 1 } else none else K (Ex.exit 0) { slots := [(0, AV.hw 0), (1, AV.str p), (2, AV.fn (Fn.func 185) [] []), (8, AV.int IntKind.i64 n), (9, AV.int IntKind.i64 i), (10, AV.int IntKind.i64 j)], objs := [(0, AObj.arr 2 (Ty.str.pair (Ty.int IntKind.i64)) xs [])], nx := 1 } := by kernel_rfl

def bsSt (xs : List Row2) (p : List UInt8) (i j : Nat) : St := ⟨[(0, .hw 0), (1, .str p), (2, .fn (.func I.groups_Table_find_1) [] []), (8, .int .i64 xs.length), (9, .int .i64 i), (10, .int .i64 j)], [(0, .arr 2 rowS xs [])], 1⟩
theorem bs_rounds {R : Type} (xs : List Row2) (p : List UInt8) (hs : sortedG xs = true) (hn : xs.length ≤ 1000000) (K : Ex → St → Option R) : ∀ (d i j : Nat), j - i ≤ d → i ≤ j → j ≤ xs.length → (∀ a, a < i → strLess (atG xs a).1 p = true) → (∀ a, j ≤ a → a < xs.length → strLess (atG xs a).1 p = false) →
    ∃ m, rounds (env consG4) H.slices_BinarySearchFunc_groups_Row_groups_Row_string 1 (LPof []) V.slices_BinarySearchFunc_groups_Row_groups_Row_string_3 L.slices_BinarySearchFunc_groups_Row_groups_Row_string_3 m (bsSt xs p i j) K = K (.exit 0) (bsSt xs p (posG xs p) (posG xs p)) := by
  intro d
  induction d with
  | zero =>
    intro i j hd hij hj h1 h2
    obtain rfl : i = j := by omega
    have hp := posG_eq hj h1 (fun h => h2 i (Nat.le_refl _) h)
    refine ⟨1, ?_⟩
    rw [rounds_succ']
    refine (bs_rd _ _ _ _ _ _).trans ?_
    rw [cond_neg (by omega), hp]
    rfl
  | succ d ih =>
    intro i j hd hij hj h1 h2
    by_cases hlt : i < j
    · have e1 : IntKind.i64.wrap ((i : Int) + (j : Int)) = (i : Int) + (j : Int) := wrap64 (by omega) (by omega)
      have e2 : IntKind.u64.wrap ((i : Int) + (j : Int)) = (i : Int) + (j : Int) := wrapu64 (by omega) (by omega)
      have e3 : ((i : Int) + (j : Int)).fdiv 2 = (((i + j) / 2 : Nat) : Int) := by rw [Int.fdiv_eq_ediv_of_nonneg _ (by omega)]; omega
      have e4 : IntKind.i64.wrap ((((i + j) / 2 : Nat)) : Int) = (((i + j) / 2 : Nat) : Int) := wrap64 (by omega) (by omega)
      have e5 : IntKind.i64.wrap ((((i + j) / 2 : Nat) : Int) + 1) = (((i + j) / 2 + 1 : Nat) : Int) := by rw [wrap64 (by omega) (by omega)]; omega
      cases hc : strLess (atG xs ((i + j) / 2)).1 p with
      | true =>
        obtain ⟨m, hm⟩ := ih ((i + j) / 2 + 1) j (by omega) (by omega) hj (fun a ha => by
          rcases Nat.lt_or_ge a ((i + j) / 2) with h | h
          · exact sl_trans (sortedG_lt hs h (by omega)) hc
          · have : a = (i + j) / 2 := by omega
            subst this; exact hc) h2
        refine ⟨m + 1, ?_⟩
        rw [rounds_succ']
        refine (bs_rd _ _ _ _ _ _).trans ?_
        rw [cond_pos (by omega), e1, e2, e3, e4, cond_pos2 (by omega) (by omega), Int.toNat_natCast, cmpS_lt, cond_t (show strLess (xs.getD ((i + j) / 2) rowS.zero).1 p = true from hc), e5]
        exact hm
      | false =>
        obtain ⟨m, hm⟩ := ih i ((i + j) / 2) (by omega) (by omega) (by omega) h1 (fun a ha hx => by
          rcases Nat.lt_or_ge ((i + j) / 2) a with h | h
          · cases g : strLess (atG xs a).1 p with
            | false => rfl
            | true => have := sl_trans (sortedG_lt hs h hx) g; rw [hc] at this; cases this
          · have : a = (i + j) / 2 := by omega
            subst this; exact hc)
        refine ⟨m + 1, ?_⟩
        rw [rounds_succ']
        refine (bs_rd _ _ _ _ _ _).trans ?_
        rw [cond_pos (by omega), e1, e2, e3, e4, cond_pos2 (by omega) (by omega), Int.toNat_natCast, cmpS_lt, cond_f (show strLess (xs.getD ((i + j) / 2) rowS.zero).1 p = false from hc)]
        exact hm
    · obtain ⟨m, hm⟩ := ih i j (by omega) hij hj h1 h2
      exact ⟨m, hm⟩
abbrev bsLC : LoopC := LoopC.of ⟨[(0, .lit (.hw 0)), (1, .str), (2, .fn I.groups_Table_find_1 []), (8, .int .i64), (9, .int .i64), (10, .int .i64)], [.arr 2 rowS []]⟩
    (fun x => decide (x.1.2.2.2.1 = (List.length x.2.1.1 : Int)) && decide (x.1.2.2.2.2.1 = 0) && decide (x.1.2.2.2.2.2.1 = (List.length x.2.1.1 : Int)) && sortedG x.2.1.1 && decide (List.length x.2.1.1 ≤ 1000000))
    fun x => [(true, .exit 0, bsSt x.2.1.1 x.1.2.1 (posG x.2.1.1 x.1.2.1) (posG x.2.1.1 x.1.2.1))]
theorem bs_lok : LoopOK P0 H.slices_BinarySearchFunc_groups_Row_groups_Row_string 1 L.slices_BinarySearchFunc_groups_Row_groups_Row_string_3 bsLC :=
  loop_ok_of (env_ok consG4_ok) glob0 mixed0 noLoops V.slices_BinarySearchFunc_groups_Row_groups_Row_string_3 (by decide) fun ⟨⟨_, p, _, n, i, j, _⟩, ⟨xs, _⟩, _⟩ h hw => by
    simp only [Bool.and_eq_true, decide_eq_true_eq] at h
    obtain ⟨⟨⟨⟨rfl, rfl⟩, rfl⟩, h4⟩, h5⟩ := h
    exact bs_rounds xs p h4 h5 _ (List.length xs) 0 (List.length xs) (by omega) (by omega) (Nat.le_refl _) (fun a ha => absurd ha (Nat.not_lt_zero _)) (fun a h1 h2 => absurd h2 (Nat.not_lt.2 h1))
theorem bs_ev (xs : List Row2) (p : List UInt8) : evFn (env consG4) H.slices_BinarySearchFunc_groups_Row_groups_Row_string (LPof [(3, bsLC)]) F.slices_BinarySearchFunc_groups_Row_groups_Row_string [.hw 0, .str p, .fn (.func I.groups_Table_find_1) [] []] [.arr 2 rowS xs []] (finV (.tup [.int .i64, .bool]) [.arr 2 rowS []] 1) = bif decide ((↑xs.length : Int) = (↑xs.length : Int)) && true && decide ((↑xs.length : Int) = (↑xs.length : Int)) && sortedG xs && decide (xs.length ≤ 1000000) && true then bif decide ((↑(posG xs p) : Int) < (↑xs.length : Int)) then bif decide ((0 : Int) ≤ (↑(posG xs p) : Int)) && decide ((↑(posG xs p) : Int) < (↑xs.length : Int)) then some (((↑(posG xs p) : Int), cmpS (xs.getD (posG xs p) rowS.zero).fst p == (0 : Int), ()), (xs, ()), ()) else none else some (((↑(posG xs p) : Int), false, ()), (xs, ()), ()) else none := by kernel_rfl

def caseBs : VCase := ⟨[.lit (.hw 0), .str, .fn I.groups_Table_find_1 []], [.arr 2 rowS []], .tup [.int .i64, .bool], [.arr 2 rowS []], fun ⟨_, p, _, ()⟩ ⟨⟨xs, ()⟩, ()⟩ => [(sortedG xs && decide (List.length xs ≤ 1000000), ((((posG xs p : Nat) : Int), hasG xs p, ()), ((xs, ()), ())))]⟩
theorem bs_val (xs : List Row2) (p : List UInt8) (hc : (sortedG xs && decide (List.length xs ≤ 1000000)) = true) : evFn (env consG4) H.slices_BinarySearchFunc_groups_Row_groups_Row_string (LPof [(3, bsLC)]) F.slices_BinarySearchFunc_groups_Row_groups_Row_string [.hw 0, .str p, .fn (.func I.groups_Table_find_1) [] []] [.arr 2 rowS xs []] (finV (.tup [.int .i64, .bool]) [.arr 2 rowS []] 1) = some ((((posG xs p : Nat) : Int), hasG xs p, ()), ((xs, ()), ())) := by
  simp only [Bool.and_eq_true, decide_eq_true_eq] at hc
  rw [bs_ev, hc.1, decide_eq_true hc.2, decide_eq_true rfl]
  simp only [Bool.and_self, cond_true]
  unfold hasG
  by_cases h : posG xs p < xs.length
  · rw [cond_pos (by omega), cond_pos2 (by omega) (by omega), decide_eq_true h, cmpS_eq, Bool.true_and]
    rfl
  · rw [cond_neg (by omega), decide_eq_false h, Bool.false_and]
theorem bs_ok : caseBs.e.ok P0 I.slices_BinarySearchFunc_groups_Row_groups_Row_string := vcase_ok (c := caseBs) (H := H.slices_BinarySearchFunc_groups_Row_groups_Row_string) (E := env consG4) (env_ok consG4_ok) glob0 mixed0 G.slices_BinarySearchFunc_groups_Row_groups_Row_string Bd.slices_BinarySearchFunc_groups_Row_groups_Row_string (by kernel_rfl) (loops_good (tab := [(3, bsLC)]) (by kernel_rfl) (fun x hx => by simp at hx; subst hx; exact bs_lok)) fun ⟨_, p, _, ()⟩ ⟨⟨xs, ()⟩, ()⟩ r h hw1 hw2 => by
  obtain ⟨hc, rfl⟩ := pick_pre h
  exact bs_val xs p hc
theorem bs0_ev (p : List UInt8) : evFn (env consG4) H.slices_BinarySearchFunc_groups_Row_groups_Row_string (loopsF (env consG4) H.slices_BinarySearchFunc_groups_Row_groups_Row_string 0 B.slices_BinarySearchFunc_groups_Row_groups_Row_string 3) F.slices_BinarySearchFunc_groups_Row_groups_Row_string [.nils, .str p, .fn (.func I.groups_Table_find_1) [] []] [] (finV (.tup [.int .i64, .bool]) [] 0) = some (((0 : Int), false, ()), ()) := by kernel_rfl

theorem ins0_ev (r : Row2) : evFn (env consG3) H.gins (LPof []) F.slices_Insert_groups_Row_groups_Row [.nils, .int .i64 0, .hw 0] [insObj r] (finV (.lit (.hw 1)) [.box 2 [[.str, .int .i64]], .arr 2 rowS []] 1) = some ((), ((r.fst, r.snd, ()), ()), ([r], ()), ()) := by kernel_rfl

def caseBs0 : VCase := ⟨[.lit .nils, .str, .fn I.groups_Table_find_1 []], [], .tup [.int .i64, .bool], [], fun ⟨_, p, _, ()⟩ () => [(true, (((0 : Int), false, ()), ()))]⟩
theorem bs0_val (p : List UInt8) : evFn (env consG4) H.slices_BinarySearchFunc_groups_Row_groups_Row_string (loopsF (env consG4) H.slices_BinarySearchFunc_groups_Row_groups_Row_string 0 B.slices_BinarySearchFunc_groups_Row_groups_Row_string 3) F.slices_BinarySearchFunc_groups_Row_groups_Row_string [.nils, .str p, .fn (.func I.groups_Table_find_1) [] []] [] (finV (.tup [.int .i64, .bool]) [] 0) = some (((0 : Int), false, ()), ()) := by
  exact bs0_ev p
theorem bs0_ok : caseBs0.e.ok P0 I.slices_BinarySearchFunc_groups_Row_groups_Row_string := vcase_ok (c := caseBs0) (H := H.slices_BinarySearchFunc_groups_Row_groups_Row_string) (E := env consG4) (env_ok consG4_ok) glob0 mixed0 G.slices_BinarySearchFunc_groups_Row_groups_Row_string Bd.slices_BinarySearchFunc_groups_Row_groups_Row_string (by kernel_rfl) (loopsF_good (env_ok consG4_ok) glob0 mixed0 (by kernel_rfl) 3) fun ⟨_, p, _, ()⟩ () r h hw1 hw2 => by
  obtain ⟨hc, rfl⟩ := pick_pre h
  exact bs0_val p
def caseIns0 : VCase := ⟨[.lit .nils, .lit (.int .i64 0), .lit (.hw 0)], [.box 2 [[.str, .int .i64]]], .lit (.hw 1), [.box 2 [[.str, .int .i64]], .arr 2 rowS []],
  fun _ ⟨⟨⟨a, b, _⟩, _⟩, _⟩ => [(true, ((), (((a, b, ()), ()), ([(a, b)], ()), ())))]⟩
theorem ins0_ok : caseIns0.e.ok P0 I.slices_Insert_groups_Row_groups_Row := vcase_ok (c := caseIns0) (H := H.gins) (E := env consG3) (env_ok consG3_ok) glob0 mixed0 G.slices_Insert_groups_Row_groups_Row Bd.slices_Insert_groups_Row_groups_Row (by kernel_rfl) noLoops fun _ ⟨⟨⟨a, b, _⟩, _⟩, _⟩ r h hw1 hw2 => by
  obtain ⟨hc, rfl⟩ := pick_pre h
  exact ins0_ev (a, b)
noncomputable abbrev consG5 : List (FuncId × Con) := [(I.slices_BinarySearchFunc_groups_Row_groups_Row_string, .eff (effOf [caseBs.e, caseBs0.e])), (I.slices_Insert_groups_Row_groups_Row, .eff (effOf [caseIns.e, caseIns0.e]))]
theorem consG5_ok : ∀ x ∈ consG5, HoldsC P0 x.1 x.2 := by
  intro x hx
  simp at hx
  rcases hx with rfl | rfl
  · exact ⟨fun args objs r objs2 h _ => effOf_holds (by simp; exact ⟨bs_ok, bs0_ok⟩) args objs r objs2 h, C.slices_BinarySearchFunc_groups_Row_groups_Row_string⟩
  · exact ⟨fun args objs r objs2 h _ => effOf_holds (by simp; exact ⟨ins_ok, ins0_ok⟩) args objs r objs2 h, C.slices_Insert_groups_Row_groups_Row⟩
noncomputable abbrev consG6 : List (FuncId × Con) := [(I.names_Valid, .pure (pureOf [caseValid])), (I.cooperageref1_Valid, .pure (pureOf [caseRValid]))] ++ consG5
theorem consG6_ok : ∀ x ∈ consG6, HoldsC P0 x.1 x.2 := by
  intro x hx
  rcases List.mem_append.1 hx with hx | hx
  · simp at hx
    rcases hx with rfl | rfl
    · exact ⟨pureOf_holds (by simp; exact valid_ok), C.names_Valid⟩
    · exact ⟨pureOf_holds (by simp; exact rvalid_ok), C.cooperageref1_Valid⟩
  · exact consG5_ok x hx
noncomputable abbrev consG7 : List (FuncId × Con) := [(I.groups_Table_find, inl (env consG6) H.groups_Table_find F.groups_Table_find (fun R k0 => loopsF (env consG6) H.groups_Table_find k0 B.groups_Table_find 1))] ++ consG6
theorem consG7_ok : ∀ x ∈ consG7, HoldsC P0 x.1 x.2 := by
  intro x hx
  rcases List.mem_append.1 hx with hx | hx
  · simp at hx
    subst hx
    exact inl_ok (env_ok consG6_ok) glob0 mixed0 G.groups_Table_find Bd.groups_Table_find C.groups_Table_find (fun R k0 => loopsF_good (env_ok consG6_ok) glob0 mixed0 (by kernel_rfl) 1)
  · exact consG6_ok x hx
theorem get_ev (xs : List Row2) (p : List UInt8) : evFn (env consG7) H.groups_Table_Get (LPof []) F.groups_Table_Get [.ptr 0 (.tl 0) 0, .str p] [.arr 1 .bool [] [[.hw 1]], .arr 2 rowS xs []] (finV (.tup [.int .i64, .bool]) [.box 1 [[.lit (.hw 1)]], .arr 2 rowS []] 2) = bif sortedG xs && decide (xs.length ≤ 1000000) then bif !hasG xs p then some (((0 : Int), false, ()), (((), ()), ()), (xs, ()), ()) else bif decide ((0 : Int) ≤ (↑(posG xs p) : Int)) && decide ((↑(posG xs p) : Int) < (↑xs.length : Int)) then some (((xs.getD (posG xs p) rowS.zero).snd, true, ()), (((), ()), ()), (xs, ()), ()) else none else none := by kernel_rfl

theorem get0_ev (p : List UInt8) : evFn (env consG7) H.groups_Table_Get (LPof []) F.groups_Table_Get [.ptr 0 (.tl 0) 0, .str p] [.arr 1 .bool [] [[.nils]]] (finV (.tup [.int .i64, .bool]) [.box 1 [[.lit .nils]]] 1) = some (((0 : Int), false, ()), (((), ()), ()), ()) := by kernel_rfl

def H.gset2 : Hint := { H.groups_Table_Set with vs := [] }
theorem seto_ev (xs : List Row2) (p : List UInt8) (o : Int) : evFn (env consG7) H.gset2 (LPof []) F.groups_Table_Set [.ptr 0 (.tl 0) 0, .str p, .int .i64 o] [.arr 1 .bool [] [[.hw 1]], .arr 2 rowS xs []] (finV (.int .i64) [.box 1 [[.lit (.hw 1)]], .arr 2 rowS []] 2) = bif !validL p then some ((6 : Int), (((), ()), ()), (xs, ()), ()) else bif sortedG xs && decide (xs.length ≤ 1000000) then bif hasG xs p then bif decide ((0 : Int) ≤ (↑(posG xs p) : Int)) && decide ((↑(posG xs p) : Int) < (↑xs.length : Int)) then some ((0 : Int), (((), ()), ()), (xs.set (posG xs p) ((xs.getD (posG xs p) rowS.zero).fst, o), ()), ()) else none else bif decide ((↑xs.length : Int) ≥ (100 : Int)) then some ((7 : Int), (((), ()), ()), (xs, ()), ()) else bif decide ((0 : (Pat.int IntKind.i64).den) ≤ (↑(posG xs p) : Int)) && decide ((↑(posG xs p) : Int) ≤ (↑xs.length : Int)) && decide (xs.length ≤ 1000000) then none else none else none := by kernel_rfl

theorem setn_ev (xs : List Row2) (p : List UInt8) (o : Int) : evFn (env consG7) H.gset2 (LPof []) F.groups_Table_Set [.ptr 0 (.tl 0) 0, .str p, .int .i64 o] [.arr 1 .bool [] [[.hw 1]], .arr 2 rowS xs []] (finV (.int .i64) [.box 1 [[.lit (.hw 2)]], .dead, .arr 2 rowS []] 2) = bif !validL p then none else bif sortedG xs && decide (xs.length ≤ 1000000) then bif hasG xs p then bif decide ((0 : Int) ≤ (↑(posG xs p) : Int)) && decide ((↑(posG xs p) : Int) < (↑xs.length : Int)) then none else none else bif decide ((↑xs.length : Int) ≥ (100 : Int)) then none else bif decide ((0 : (Pat.int IntKind.i64).den) ≤ (↑(posG xs p) : Int)) && decide ((↑(posG xs p) : Int) ≤ (↑xs.length : Int)) && decide (xs.length ≤ 1000000) then some ((0 : Int), (((), ()), ()), (), (putG xs (posG xs p) (posG xs p) (p, o), ()), ()) else none else none := by kernel_rfl

theorem set0_ev (p : List UInt8) (o : Int) : evFn (env consG7) H.gset2 (LPof []) F.groups_Table_Set [.ptr 0 (.tl 0) 0, .str p, .int .i64 o] [.arr 1 .bool [] [[.nils]]] (finV (.int .i64) [.box 1 [[.lit (.hw 1)]], .arr 2 rowS []] 1) = bif !validL p then none else some ((0 : Int), (((), ()), ()), ([(p, o)], ()), ()) := by kernel_rfl

end Go.Sim.XG
namespace Go.Sim.XG
set_option linter.unusedSimpArgs false
set_option linter.unusedVariables false
set_option maxRecDepth 10000
theorem set_putG (xs : List Row2) (k : Nat) (r : Row2) (h : k < xs.length) : xs.set k r = putG xs k (k + 1) r := by
  unfold putG
  rw [List.set_eq_take_append_cons_drop, if_pos h]
theorem has_row {xs : List Row2} {p : List UInt8} (o : Int) (h : hasG xs p = true) : xs.set (posG xs p) ((xs.getD (posG xs p) rowS.zero).1, o) = putG xs (posG xs p) (posG xs p + 1) (p, o) := by
  obtain ⟨h1, h2⟩ := hasG_lt h
  have h2 : (xs.getD (posG xs p) rowS.zero).1 = p := h2
  rw [h2, set_putG xs _ _ h1]
def caseGget : VCase := ⟨[.lit (.ptr 0 (.tl 0) 0), .str], [.box 1 [[.lit (.hw 1)]], .arr 2 rowS []], .tup [.int .i64, .bool], [.box 1 [[.lit (.hw 1)]], .arr 2 rowS []], fun ⟨_, p, ()⟩ ⟨_, ⟨xs, ()⟩, ()⟩ => [(sortedG xs && decide (List.length xs ≤ 1000000), (((getGr xs p).1, (getGr xs p).2, ()), ((((), ()), ()), (xs, ()), ())))]⟩
theorem gget_val (xs : List Row2) (p : List UInt8) (hc : (sortedG xs && decide (List.length xs ≤ 1000000)) = true) : evFn (env consG7) H.groups_Table_Get (LPof []) F.groups_Table_Get [.ptr 0 (.tl 0) 0, .str p] [.arr 1 .bool [] [[.hw 1]], .arr 2 rowS xs []] (finV (.tup [.int .i64, .bool]) [.box 1 [[.lit (.hw 1)]], .arr 2 rowS []] 2) = some (((getGr xs p).1, (getGr xs p).2, ()), ((((), ()), ()), (xs, ()), ())) := by
  rw [get_ev, hc, cond_true]
  unfold getGr
  cases hh : hasG xs p with
  | false => rfl
  | true =>
    have hk := (hasG_lt hh).1
    simp only [Bool.not_true, cond_false, cond_true]
    rw [cond_pos2 (by omega) (by omega)]
    rfl
theorem gget_ok : caseGget.e.ok P0 I.groups_Table_Get := vcase_ok (c := caseGget) (H := H.groups_Table_Get) (E := env consG7) (env_ok consG7_ok) glob0 mixed0 G.groups_Table_Get Bd.groups_Table_Get (by kernel_rfl) noLoops fun ⟨_, p, ()⟩ ⟨_, ⟨xs, ()⟩, ()⟩ r h hw1 hw2 => by
  obtain ⟨hc, rfl⟩ := pick_pre h
  exact gget_val xs p hc
def caseGget0 : VCase := ⟨[.lit (.ptr 0 (.tl 0) 0), .str], [.box 1 [[.lit .nils]]], .tup [.int .i64, .bool], [.box 1 [[.lit .nils]]], fun ⟨_, p, ()⟩ _ => [(true, (((0 : Int), false, ()), ((((), ()), ()), ())))]⟩
theorem gget0_val (p : List UInt8) : evFn (env consG7) H.groups_Table_Get (LPof []) F.groups_Table_Get [.ptr 0 (.tl 0) 0, .str p] [.arr 1 .bool [] [[.nils]]] (finV (.tup [.int .i64, .bool]) [.box 1 [[.lit .nils]]] 1) = some (((0 : Int), false, ()), ((((), ()), ()), ())) := by
  exact get0_ev p
theorem gget0_ok : caseGget0.e.ok P0 I.groups_Table_Get := vcase_ok (c := caseGget0) (H := H.groups_Table_Get) (E := env consG7) (env_ok consG7_ok) glob0 mixed0 G.groups_Table_Get Bd.groups_Table_Get (by kernel_rfl) noLoops fun ⟨_, p, ()⟩ _ r h hw1 hw2 => by
  obtain ⟨hc, rfl⟩ := pick_pre h
  exact gget0_val p
def caseGsetO : VCase := ⟨[.lit (.ptr 0 (.tl 0) 0), .str, .int .i64], [.box 1 [[.lit (.hw 1)]], .arr 2 rowS []], .int .i64, [.box 1 [[.lit (.hw 1)]], .arr 2 rowS []], fun ⟨_, p, o, _⟩ ⟨_, ⟨xs, _⟩, _⟩ =>
  [(sortedG xs && decide (List.length xs ≤ 1000000) && (!validL p || hasG xs p || decide ((List.length xs : Int) ≥ 100)), ((setG xs (p, o)).2, ((((), ()), ()), ((setG xs (p, o)).1, ()), ())))]⟩
theorem gseto_ok : caseGsetO.e.ok P0 I.groups_Table_Set := vcase_ok (c := caseGsetO) (H := H.gset2) (E := env consG7) (env_ok consG7_ok) glob0 mixed0 G.groups_Table_Set Bd.groups_Table_Set (by kernel_rfl) noLoops fun ⟨_, p, o, _⟩ ⟨_, ⟨xs, _⟩, _⟩ r h hw1 hw2 => by
  obtain ⟨hc, rfl⟩ := pick_pre h
  refine (seto_ev xs p o).trans ?_
  cases h1 : sortedG xs && decide (List.length xs ≤ 1000000) with
  | false => rw [h1] at hc; cases hc
  | true =>
    rw [h1, Bool.true_and] at hc
    unfold setG
    simp only [cond_true]
    cases hv : validL p with
    | false => rfl
    | true =>
      simp only [Bool.not_true, cond_false]
      rw [hv, Bool.not_true, Bool.false_or] at hc
      cases hh : hasG xs p with
      | true =>
        have hk := (hasG_lt hh).1
        rw [cond_true, cond_true, cond_pos2 (by omega) (Int.ofNat_lt.2 hk), has_row o hh]
        rfl
      | false =>
        rw [hh, Bool.false_or] at hc
        rw [cond_false, cond_false, hc]
        rfl
def caseGsetN : VCase := ⟨[.lit (.ptr 0 (.tl 0) 0), .str, .int .i64], [.box 1 [[.lit (.hw 1)]], .arr 2 rowS []], .int .i64, [.box 1 [[.lit (.hw 2)]], .dead, .arr 2 rowS []], fun ⟨_, p, o, _⟩ ⟨_, ⟨xs, _⟩, _⟩ =>
  [(sortedG xs && decide (List.length xs ≤ 1000000) && !(!validL p || hasG xs p || decide ((List.length xs : Int) ≥ 100)), ((setG xs (p, o)).2, ((((), ()), ()), (), ((setG xs (p, o)).1, ()), ())))]⟩
theorem gsetn_ok : caseGsetN.e.ok P0 I.groups_Table_Set := vcase_ok (c := caseGsetN) (H := H.gset2) (E := env consG7) (env_ok consG7_ok) glob0 mixed0 G.groups_Table_Set Bd.groups_Table_Set (by kernel_rfl) noLoops fun ⟨_, p, o, _⟩ ⟨_, ⟨xs, _⟩, _⟩ r h hw1 hw2 => by
  obtain ⟨hc, rfl⟩ := pick_pre h
  refine (setn_ev xs p o).trans ?_
  cases h1 : sortedG xs && decide (List.length xs ≤ 1000000) with
  | false => rw [h1] at hc; cases hc
  | true =>
    rw [h1, Bool.true_and] at hc
    have h2 : decide (List.length xs ≤ 1000000) = true := (Bool.and_eq_true_iff.1 h1).2
    unfold setG
    simp only [cond_true]
    cases hv : validL p with
    | false => rw [hv] at hc; cases hc
    | true =>
      simp only [Bool.not_true, cond_false]
      rw [hv, Bool.not_true, Bool.false_or] at hc
      cases hh : hasG xs p with
      | true => rw [hh, Bool.true_or] at hc; cases hc
      | false =>
        rw [hh, Bool.false_or] at hc
        have hc : decide ((List.length xs : Int) ≥ 100) = false := by simpa using hc
        have hp := posG_le xs p
        rw [cond_false, cond_false, hc, cond_false, h2, Bool.and_true]
        rw [cond_pos2 (Int.natCast_nonneg _) (Int.ofNat_le.2 hp)]
        rfl
def caseGset0 : VCase := ⟨[.lit (.ptr 0 (.tl 0) 0), .str, .int .i64], [.box 1 [[.lit .nils]]], .int .i64, [.box 1 [[.lit (.hw 1)]], .arr 2 rowS []], fun ⟨_, p, o, _⟩ _ => [(validL p, ((0 : Int), ((((), ()), ()), ([(p, o)], ()), ())))]⟩
theorem gset0_ok : caseGset0.e.ok P0 I.groups_Table_Set := vcase_ok (c := caseGset0) (H := H.gset2) (E := env consG7) (env_ok consG7_ok) glob0 mixed0 G.groups_Table_Set Bd.groups_Table_Set (by kernel_rfl) noLoops fun ⟨_, p, o, _⟩ _ r h hw1 hw2 => by
  obtain ⟨hc, rfl⟩ := pick_pre h
  exact (set0_ev p o).trans (by rw [hc]; rfl)
theorem pick_or {α : Type} {v : α} : ∀ {a b : List (Bool × α)}, pick (a ++ b) = some v → pick a = some v ∨ pick b = some v
  | [], _, h => .inr h
  | (true, u) :: _, _, h => .inl h
  | (false, u) :: a, b, h => pick_or (a := a) h
theorem gclone_ev (xs : List Row2) : evFn (env []) H.slices_Clone_groups_Row_groups_Row (LPof []) F.slices_Clone_groups_Row_groups_Row [.hw 0] [.arr 2 rowS xs []] (finV (.vl rowS) [.arr 2 rowS []] 1) = bif decide (0 < xs.length) then bif decide (([] ++ xs).length * 24 ≤ 140737488355328) then some ([] ++ xs, (xs, ()), ()) else none else none := by kernel_rfl

theorem gclone0_ev : evFn (env []) H.slices_Clone_groups_Row_groups_Row (LPof []) F.slices_Clone_groups_Row_groups_Row [.nils] [] (finV (.vl rowS) [] 0) = some ([], ()) := by kernel_rfl

def caseGclone : VCase := ⟨[.lit (.hw 0)], [.arr 2 rowS []], .vl rowS, [.arr 2 rowS []], fun _ ⟨⟨xs, ()⟩, ()⟩ => [(decide (0 < List.length xs) && decide (List.length xs ≤ 1000000), (xs, ((xs, ()), ())))]⟩
theorem gclone_val (xs : List Row2) (hc : (decide (0 < List.length xs) && decide (List.length xs ≤ 1000000)) = true) : evFn (env []) H.slices_Clone_groups_Row_groups_Row (LPof []) F.slices_Clone_groups_Row_groups_Row [.hw 0] [.arr 2 rowS xs []] (finV (.vl rowS) [.arr 2 rowS []] 1) = some (xs, ((xs, ()), ())) := by
  simp only [Bool.and_eq_true, decide_eq_true_eq] at hc
  rw [gclone_ev, cond_pos hc.1, cond_pos (by simp only [List.nil_append]; omega), List.nil_append]
theorem gclone_ok : caseGclone.e.ok P0 I.slices_Clone_groups_Row_groups_Row := vcase_ok (c := caseGclone) (H := H.slices_Clone_groups_Row_groups_Row) (E := env []) (env_ok env_nil) glob0 mixed0 G.slices_Clone_groups_Row_groups_Row Bd.slices_Clone_groups_Row_groups_Row (by kernel_rfl) noLoops fun _ ⟨⟨xs, ()⟩, ()⟩ r h hw1 hw2 => by
  obtain ⟨hc, rfl⟩ := pick_pre h
  exact gclone_val xs hc
def caseGclone0 : VCase := ⟨[.lit .nils], [], .vl rowS, [], fun _ () => [(true, (([] : List Row2), ()))]⟩
theorem gclone0_val  : evFn (env []) H.slices_Clone_groups_Row_groups_Row (LPof []) F.slices_Clone_groups_Row_groups_Row [.nils] [] (finV (.vl rowS) [] 0) = some (([] : List Row2), ()) := by
  exact gclone0_ev
theorem gclone0_ok : caseGclone0.e.ok P0 I.slices_Clone_groups_Row_groups_Row := vcase_ok (c := caseGclone0) (H := H.slices_Clone_groups_Row_groups_Row) (E := env []) (env_ok env_nil) glob0 mixed0 G.slices_Clone_groups_Row_groups_Row Bd.slices_Clone_groups_Row_groups_Row (by kernel_rfl) noLoops fun _ () r h hw1 hw2 => by
  obtain ⟨hc, rfl⟩ := pick_pre h
  exact gclone0_val
noncomputable abbrev consH1 : List (FuncId × Con) := [(I.slices_Clone_groups_Row_groups_Row, .eff (effOf [caseGclone.e, caseGclone0.e]))]
theorem consH1_ok : ∀ x ∈ consH1, HoldsC P0 x.1 x.2 := by
  intro x hx
  simp at hx
  subst hx
  exact ⟨fun args objs r objs2 h _ => effOf_holds (by simp; exact ⟨gclone_ok, gclone0_ok⟩) args objs r objs2 h, C.slices_Clone_groups_Row_groups_Row⟩
theorem grows_ev (xs : List Row2) : evFn (env consH1) H.groups_Table_Rows (LPof []) F.groups_Table_Rows [.ptr 0 (.tl 0) 0] [.arr 1 .bool [] [[.hw 1]], .arr 2 rowS xs []] (finV (.vl rowS) [.box 1 [[.lit (.hw 1)]], .arr 2 rowS []] 2) = bif decide (0 < xs.length) && decide (xs.length ≤ 1000000) then some (xs, (((), ()), ()), (xs, ()), ()) else none := by kernel_rfl

theorem grows0_ev : evFn (env consH1) H.groups_Table_Rows (LPof []) F.groups_Table_Rows [.ptr 0 (.tl 0) 0] [.arr 1 .bool [] [[.nils]]] (finV (.vl rowS) [.box 1 [[.lit .nils]]] 1) = some ([], (((), ()), ()), ()) := by kernel_rfl

def caseGrows : VCase := ⟨[.lit (.ptr 0 (.tl 0) 0)], [.box 1 [[.lit (.hw 1)]], .arr 2 rowS []], .vl rowS, [.box 1 [[.lit (.hw 1)]], .arr 2 rowS []], fun _ ⟨_, ⟨xs, ()⟩, ()⟩ => [(decide (0 < List.length xs) && decide (List.length xs ≤ 1000000), (xs, ((((), ()), ()), (xs, ()), ())))]⟩
theorem grows_val (xs : List Row2) (hc : (decide (0 < List.length xs) && decide (List.length xs ≤ 1000000)) = true) : evFn (env consH1) H.groups_Table_Rows (LPof []) F.groups_Table_Rows [.ptr 0 (.tl 0) 0] [.arr 1 .bool [] [[.hw 1]], .arr 2 rowS xs []] (finV (.vl rowS) [.box 1 [[.lit (.hw 1)]], .arr 2 rowS []] 2) = some (xs, ((((), ()), ()), (xs, ()), ())) := by
  rw [grows_ev, hc]; rfl
theorem grows_ok : caseGrows.e.ok P0 I.groups_Table_Rows := vcase_ok (c := caseGrows) (H := H.groups_Table_Rows) (E := env consH1) (env_ok consH1_ok) glob0 mixed0 G.groups_Table_Rows Bd.groups_Table_Rows (by kernel_rfl) noLoops fun _ ⟨_, ⟨xs, ()⟩, ()⟩ r h hw1 hw2 => by
  obtain ⟨hc, rfl⟩ := pick_pre h
  exact grows_val xs hc
def caseGrows0 : VCase := ⟨[.lit (.ptr 0 (.tl 0) 0)], [.box 1 [[.lit .nils]]], .vl rowS, [.box 1 [[.lit .nils]]], fun _ _ => [(true, (([] : List Row2), ((((), ()), ()), ())))]⟩
theorem grows0_val  : evFn (env consH1) H.groups_Table_Rows (LPof []) F.groups_Table_Rows [.ptr 0 (.tl 0) 0] [.arr 1 .bool [] [[.nils]]] (finV (.vl rowS) [.box 1 [[.lit .nils]]] 1) = some (([] : List Row2), ((((), ()), ()), ())) := by
  exact grows0_ev
theorem grows0_ok : caseGrows0.e.ok P0 I.groups_Table_Rows := vcase_ok (c := caseGrows0) (H := H.groups_Table_Rows) (E := env consH1) (env_ok consH1_ok) glob0 mixed0 G.groups_Table_Rows Bd.groups_Table_Rows (by kernel_rfl) noLoops fun _ _ r h hw1 hw2 => by
  obtain ⟨hc, rfl⟩ := pick_pre h
  exact grows0_val
end Go.Sim.XG
namespace Go.Sim.XG
set_option linter.unusedSimpArgs false
set_option linter.unusedVariables false
set_option maxRecDepth 10000
noncomputable abbrev consJ1 : List (FuncId × Con) := [(I.cooperageref1_Valid, .pure (pureOf [caseRValid]))]
theorem consJ1_ok : ∀ x ∈ consJ1, HoldsC P0 x.1 x.2 := by
  intro x hx
  simp at hx
  subst hx
  exact ⟨pureOf_holds (by simp; exact rvalid_ok), C.cooperageref1_Valid⟩
def H.grset2 : Hint := { H.cooperageref10_Places_Set with vs := [82] }
theorem grset_rd {R : Type} (xs : List Row2) (p : List UInt8) (o k : Int) (K : Ex → St → Option R) : roundK (env consJ1) H.grset2 1 (LPof []) V.cooperageref10_Places_Set_4 L.cooperageref10_Places_Set_4 ⟨[(0, .ptr 0 (.tl 0) 0), (1, .str p), (2, .int .i64 o), (7, .int .i64 k)], [(0, .arr 1 .bool [] [[.vl rowS xs]])], 1⟩ K = Option.bind (bif decide (k < (↑xs.length : Int)) then bif decide ((0 : Int) ≤ k) && decide (k < (↑xs.length : Int)) then some (strLess (xs.getD k.toNat rowS.zero).fst p) else none else some false) fun v => bif v then K Ex.normal { slots := [(0, AV.ptr 0 (Elt.tl 0) 0), (1, AV.str p), (2, AV.int IntKind.i64 o), (7, AV.int IntKind.i64 (IntKind.i64.wrap (k + (1 : Int))))], objs := [(0, AObj.arr 1 Ty.bool [] [[AV.vl (Ty.str.pair (Ty.int IntKind.i64)) xs]])], nx := 1 } else K (Ex.exit 0) { slots := [(0, AV.ptr 0 (Elt.tl 0) 0), (1, AV.str p), (2, AV.int IntKind.i64 o), (7, AV.int IntKind.i64 k)], objs := [(0, AObj.arr 1 Ty.bool [] [[AV.vl (Ty.str.pair (Ty.int IntKind.i64)) xs]])], nx := 1 } := by kernel_rfl

theorem gsrows_rd {R : Type} (a b : List Row2) (f : Bool) (i : Int) (K : Ex → St → Option R) : roundK (env []) H.cooperagelaw12_SameRows 0 (LPof []) V.cooperagelaw12_SameRows_4 L.cooperagelaw12_SameRows_4 ⟨[(0, .vl rowS a), (1, .vl rowS b), (4, .bool f), (5, .int .i64 i)], [], 0⟩ K = bif decide (i < (↑a.length : Int)) then Option.bind (bif decide ((0 : Int) ≤ i) && decide (i < (↑a.length : Int)) then bif decide ((0 : Int) ≤ i) && decide (i < (↑b.length : Int)) then bif !(a.getD i.toNat rowS.zero).fst == (b.getD i.toNat rowS.zero).fst then some true else bif decide ((0 : Int) ≤ i) && decide (i < (↑a.length : Int)) then bif decide ((0 : Int) ≤ i) && decide (i < (↑b.length : Int)) then some ((a.getD i.toNat rowS.zero).snd != (b.getD i.toNat rowS.zero).snd) else none else none else none else none) fun v => bif v then K Ex.ret { slots := [(0, AV.vl (Ty.str.pair (Ty.int IntKind.i64)) a), (1, AV.vl (Ty.str.pair (Ty.int IntKind.i64)) b), (4, AV.bool false), (5, AV.int IntKind.i64 i)], objs := [], nx := 0 } else K Ex.normal { slots := [(0, AV.vl (Ty.str.pair (Ty.int IntKind.i64)) a), (1, AV.vl (Ty.str.pair (Ty.int IntKind.i64)) b), (4, AV.bool f), (5, AV.int IntKind.i64 (IntKind.i64.wrap (i + (1 : Int))))], objs := [], nx := 0 } else K (Ex.exit 0) { slots := [(0, AV.vl (Ty.str.pair (Ty.int IntKind.i64)) a), (1, AV.vl (Ty.str.pair (Ty.int IntKind.i64)) b), (4, AV.bool f), (5, AV.int IntKind.i64 i)], objs := [], nx := 0 } := by kernel_rfl

def gsSt (xs : List Row2) (p : List UInt8) (o : Int) (k : Nat) : St := ⟨[(0, .ptr 0 (.tl 0) 0), (1, .str p), (2, .int .i64 o), (7, .int .i64 k)], [(0, .arr 1 .bool [] [[.vl rowS xs]])], 1⟩
theorem gs_rounds {R : Type} (xs : List Row2) (p : List UInt8) (o : Int) (hn : xs.length ≤ 1000000) (K : Ex → St → Option R) : ∀ (m k : Nat), k + m = posG xs p → rounds (env consJ1) H.grset2 1 (LPof []) V.cooperageref10_Places_Set_4 L.cooperageref10_Places_Set_4 (m + 1) (gsSt xs p o k) K = K (.exit 0) (gsSt xs p o (posG xs p))
  | 0, k, h => by
    obtain rfl : k = posG xs p := by omega
    have hp := posG_le xs p
    rw [rounds_succ']
    refine (grset_rd _ _ _ _ _).trans ?_
    by_cases hk : posG xs p < xs.length
    · have h1 : strLess (xs.getD (posG xs p) rowS.zero).1 p = false := posG_at hk
      rw [cond_pos (Int.ofNat_lt.2 hk), cond_pos2 (by omega) (Int.ofNat_lt.2 hk), Int.toNat_natCast, h1]
      rfl
    · rw [cond_neg (fun h => hk (Int.ofNat_lt.1 h))]
      rfl
  | m + 1, k, h => by
    have ih := gs_rounds xs p o hn K m (k + 1) (by omega)
    have hp := posG_le xs p
    have hb : strLess (xs.getD k rowS.zero).1 p = true := posG_below (l := xs) (p := p) (i := k) (by omega)
    rw [rounds_succ']
    refine (grset_rd _ _ _ _ _).trans ?_
    rw [cond_pos (by omega), cond_pos2 (by omega) (by omega), Int.toNat_natCast, hb, wrap64 (by omega) (by omega)]
    exact ih
abbrev gsLC : LoopC := LoopC.of ⟨[(0, .lit (.ptr 0 (.tl 0) 0)), (1, .str), (2, .int .i64), (7, .int .i64)], [.box 1 [[.vl rowS]]]⟩ (fun x => decide (x.1.2.2.2.1 = (0 : Int)) && decide (List.length x.2.1.1.1 ≤ 1000000))
  fun x => [(true, .exit 0, gsSt x.2.1.1.1 x.1.2.1 x.1.2.2.1 (posG x.2.1.1.1 x.1.2.1))]
theorem gs_lok : LoopOK P0 H.grset2 1 L.cooperageref10_Places_Set_4 gsLC :=
  loop_ok_of (env_ok consJ1_ok) glob0 mixed0 noLoops V.cooperageref10_Places_Set_4 (by decide) fun ⟨⟨_, p, o, k, _⟩, ⟨⟨xs, _⟩, _⟩, _⟩ h hw => by
    simp only [Bool.and_eq_true, decide_eq_true_eq] at h
    obtain ⟨rfl, h2⟩ := h
    exact ⟨_, gs_rounds xs p o h2 _ (posG xs p) 0 (Nat.zero_add _)⟩
theorem grset_ev (xs : List Row2) (p : List UInt8) (o : Int) : evFn (env consJ1) H.grset2 (LPof [(4, gsLC)]) F.cooperageref10_Places_Set [.ptr 0 (.tl 0) 0, .str p, .int .i64 o] [.arr 1 .bool [] [[.vl rowS xs]]] (finV (.int .i64) [.box 1 [[.vl rowS]]] 1) = bif !validL p then some ((6 : Int), ((xs, ()), ()), ()) else bif decide (xs.length ≤ 1000000) && true then Option.bind (bif decide ((↑(posG xs p) : Int) < (↑xs.length : Int)) then bif decide ((0 : Int) ≤ (↑(posG xs p) : Int)) && decide ((↑(posG xs p) : Int) < (↑xs.length : Int)) then some ((xs.getD (posG xs p) rowS.zero).fst == p) else none else some false) fun v => bif v then bif decide ((0 : Int) ≤ (↑(posG xs p) : Int)) && decide ((↑(posG xs p) : Int) ≤ (↑xs.length : Int)) then bif decide ((List.take (posG xs p) xs).length * 24 ≤ 140737488355328) then bif decide ((List.take (posG xs p) xs ++ [(p, o)]).length * 24 ≤ 140737488355328) then bif decide ((0 : Int) ≤ IntKind.i64.wrap ((↑(posG xs p) : Int) + (1 : Int))) && decide (IntKind.i64.wrap ((↑(posG xs p) : Int) + (1 : Int)) ≤ (↑xs.length : Int)) then bif decide ((List.take (posG xs p) xs ++ [(p, o)] ++ List.drop (IntKind.i64.wrap ((↑(posG xs p) : Int) + (1 : Int))).toNat xs).length * 24 ≤ 140737488355328) then some ((0 : Int), ((List.take (posG xs p) xs ++ [(p, o)] ++ List.drop (IntKind.i64.wrap ((↑(posG xs p) : Int) + (1 : Int))).toNat xs, ()), ()), ()) else none else none else none else none else none else bif decide ((↑xs.length : Int) ≥ (100 : Int)) then some ((7 : Int), ((xs, ()), ()), ()) else bif decide ((0 : Int) ≤ (↑(posG xs p) : Int)) && decide ((↑(posG xs p) : Int) ≤ (↑xs.length : Int)) then bif decide ((List.take (posG xs p) xs).length * 24 ≤ 140737488355328) then bif decide ((List.take (posG xs p) xs ++ [(p, o)]).length * 24 ≤ 140737488355328) then bif decide ((0 : Int) ≤ (↑(posG xs p) : Int)) && decide ((↑(posG xs p) : Int) ≤ (↑xs.length : Int)) then bif decide ((List.take (posG xs p) xs ++ [(p, o)] ++ List.drop (posG xs p) xs).length * 24 ≤ 140737488355328) then some ((0 : Int), ((List.take (posG xs p) xs ++ [(p, o)] ++ List.drop (posG xs p) xs, ()), ()), ()) else none else none else none else none else none else none := by kernel_rfl

def difR2 (a b : List Row2) (i : Nat) : Bool := !(decide (a.getD i rowS.zero = b.getD i rowS.zero))
theorem row_dif (a b : Row2) : (bif !a.1 == b.1 then some true else some (a.2 != b.2)) = some !decide (a = b) := by
  obtain ⟨a1, a2⟩ := a
  obtain ⟨b1, b2⟩ := b
  have e : decide ((a1, a2) = (b1, b2)) = ((a1 == b1) && (a2 == b2)) := by
    apply Bool.eq_iff_iff.2
    simp only [decide_eq_true_eq, Bool.and_eq_true, beq_iff_eq, Prod.mk.injEq]
  rw [e]
  unfold bne
  simp only
  cases a1 == b1 <;> cases a2 == b2 <;> rfl
def gsrSt (a b : List Row2) (f : Bool) (i : Nat) : St := ⟨[(0, .vl rowS a), (1, .vl rowS b), (4, .bool f), (5, .int .i64 i)], [], 0⟩
abbrev gsrLC : LoopC := LoopC.of ⟨[(0, .vl rowS), (1, .vl rowS), (4, .bool), (5, .int .i64)], []⟩ (fun x => decide (List.length x.1.2.1 = List.length x.1.1) && decide (x.1.2.2.2.1 = (0 : Int)))
    fun x => [((firstFrom (difR2 x.1.1 x.1.2.1) 0 (List.length x.1.1)).isSome, .ret, gsrSt x.1.1 x.1.2.1 false ((firstFrom (difR2 x.1.1 x.1.2.1) 0 (List.length x.1.1)).getD 0)), (true, .exit 0, gsrSt x.1.1 x.1.2.1 x.1.2.2.1 (List.length x.1.1))]
theorem gsr_lok : LoopOK P0 H.cooperagelaw12_SameRows 0 L.cooperagelaw12_SameRows_4 gsrLC :=
  loop_ok_of (env_ok env_nil) glob0 mixed0 noLoops V.cooperagelaw12_SameRows_4 (by decide) fun ⟨⟨a, b, f, i, _⟩, _⟩ h hw => by
    simp only [Bool.and_eq_true, decide_eq_true_eq] at h
    obtain ⟨h1, h2⟩ := h
    subst h2
    have hm : List.length a ≤ maxL := hw.1.1.1
    unfold maxL at hm
    refine ⟨_, Eq.trans (search_rounds (S := gsrSt a b f) (T := gsrSt a b false) (p := difR2 a b) (n := List.length a) (e1 := .ret) (e2 := .exit 0) (s2 := gsrSt a b f (List.length a)) (by simp) (by simp) (fun i hi K => ?_) (fun K => ?_) _ (List.length a) 0 (by omega)) search_pick⟩
    · unfold gsrSt
      rw [gsrows_rd, cond_pos (by omega), cond_pos2 (by omega) (by omega), cond_pos2 (by omega) (by omega), cond_pos2 (by omega) (by omega), cond_pos2 (by omega) (by omega), Int.toNat_natCast, row_dif, wrap64 (by omega) (by omega)]
      rfl
    · unfold gsrSt
      rw [gsrows_rd, cond_neg (by omega)]
theorem gsrows_ev (a b : List Row2) : evFn (env []) H.cooperagelaw12_SameRows (LPof [(4, gsrLC)]) F.cooperagelaw12_SameRows [.vl rowS a, .vl rowS b] [] (finT [.bool]) = bif (↑a.length : Int) != (↑b.length : Int) then some (false, ()) else bif decide (b.length = a.length) && true && (firstFrom (difR2 a b) 0 a.length).isSome then some (false, ()) else bif decide (b.length = a.length) && true && true then some (true, ()) else none := by kernel_rfl

def caseGsrows : PCase := ⟨[.ty (.sl rowS), .ty (.sl rowS)], [.bool], fun x => (fun (a b : List Row2) => [(true, (decide (a = b), ()))]) x.1 x.2.1⟩
theorem gsrows_val (a b : List Row2) : evFn (env []) H.cooperagelaw12_SameRows (LPof [(4, gsrLC)]) F.cooperagelaw12_SameRows [.vl rowS a, .vl rowS b] [] (finT [.bool]) = some (decide (a = b), ()) := by
  rw [gsrows_ev]
  by_cases h : b.length = a.length
  · have h1 : ((a.length : Int) != (b.length : Int)) = false := by simp; omega
    have := firstFrom_eq (q := fun a b => decide (a = b)) (fun _ _ => rfl) rowS.zero h
    unfold difR2
    rw [h1, this, decide_eq_true h]
    cases decide (a = b) <;> rfl
  · have h1 : ((a.length : Int) != (b.length : Int)) = true := by simp; omega
    have h2 : a ≠ b := fun e => h (by rw [e])
    rw [h1, decide_eq_false h2]; rfl
theorem gsrows_ok : caseGsrows.ok P0 I.cooperagelaw12_SameRows := case_ok2 (H := H.cooperagelaw12_SameRows) (E := env []) (env_ok env_nil) glob0 mixed0 G.cooperagelaw12_SameRows Bd.cooperagelaw12_SameRows (by kernel_rfl) (loops_good (tab := [(4, gsrLC)]) (by kernel_rfl) (fun x hx => by simp at hx; subst hx; exact gsr_lok)) fun ⟨a, b, ()⟩ y h hw => by
  obtain ⟨hc, rfl⟩ := pick_pre h
  exact gsrows_val a b
theorem grset_val (xs : List Row2) (p : List UInt8) (o : Int) (hn : xs.length ≤ 1000000) : evFn (env consJ1) H.grset2 (LPof [(4, gsLC)]) F.cooperageref10_Places_Set [.ptr 0 (.tl 0) 0, .str p, .int .i64 o] [.arr 1 .bool [] [[.vl rowS xs]]] (finV (.int .i64) [.box 1 [[.vl rowS]]] 1) =
    some ((setG xs (p, o)).2, ((((setG xs (p, o)).1, ()), ()), ())) := by
  rw [grset_ev]
  have hp := posG_le xs p
  have hput : ∀ t, List.take (posG xs p) xs ++ [(p, o)] ++ List.drop t xs = putG xs (posG xs p) t (p, o) := fun t => by unfold putG; simp
  have hl1 : (List.take (posG xs p) xs).length = posG xs p := by simp; omega
  have e1 : IntKind.i64.wrap ((posG xs p : Int) + 1) = (posG xs p : Int) + 1 := wrap64 (by omega) (by omega)
  have e2 : ((posG xs p : Int) + 1).toNat = posG xs p + 1 := by omega
  have hl2 : (List.take (posG xs p) xs ++ [(p, o)]).length = posG xs p + 1 := by rw [List.length_append, hl1]; rfl
  have ins : xs.length < 1000001 → (bif decide ((0 : Int) ≤ (posG xs p : Int)) && decide ((posG xs p : Int) ≤ (xs.length : Int)) then bif decide ((List.take (posG xs p) xs).length * 24 ≤ 140737488355328) then bif decide ((List.take (posG xs p) xs ++ [(p, o)]).length * 24 ≤ 140737488355328) then
      bif decide ((0 : Int) ≤ (posG xs p : Int)) && decide ((posG xs p : Int) ≤ (xs.length : Int)) then bif decide ((List.take (posG xs p) xs ++ [(p, o)] ++ List.drop (posG xs p) xs).length * 24 ≤ 140737488355328) then some ((0 : Int), (((List.take (posG xs p) xs ++ [(p, o)] ++ List.drop (posG xs p) xs, ()), ()), ())) else none else none else none else none else none) =
      some ((0 : Int), (((putG xs (posG xs p) (posG xs p) (p, o), ()), ()), ())) := fun _ => by
    rw [cond_pos2 (by omega) (by omega), hl1, cond_pos (by omega), hl2, cond_pos (by omega), cond_pos2 (by omega) (by omega), hput, cond_pos (by rw [putG_len (Nat.le_refl _) hp]; omega)]
  cases hv : validL p with
  | false => unfold setG; simp only; rw [hv]; rfl
  | true =>
  rw [Bool.not_true, cond_false, decide_eq_true hn, Bool.true_and, cond_true]
  by_cases hk : posG xs p < xs.length
  · rw [cond_pos (Int.ofNat_lt.2 hk), cond_pos2 (by omega) (Int.ofNat_lt.2 hk), Option.bind_some]
    have hh : hasG xs p = ((xs.getD (posG xs p) rowS.zero).1 == p) := by unfold hasG; rw [decide_eq_true hk, Bool.true_and]; rfl
    rw [← hh]
    unfold setG
    simp only
    rw [hv, Bool.not_true, cond_false]
    cases hasG xs p with
    | true =>
      rw [cond_true, cond_true, cond_pos2 (by omega) (by omega), hl1, cond_pos (by omega), hl2, cond_pos (by omega), e1, cond_pos2 (by omega) (by omega), e2, hput, cond_pos (by rw [putG_len (by omega) (by omega)]; omega)]
    | false =>
      rw [cond_false, cond_false]
      by_cases h100 : (xs.length : Int) ≥ 100
      · rw [cond_pos h100, cond_pos h100]
      · rw [cond_neg h100, cond_neg h100]
        exact ins (by omega)
  · rw [cond_neg (fun h => hk (Int.ofNat_lt.1 h)), Option.bind_some, cond_false]
    have hh : hasG xs p = false := by unfold hasG; rw [decide_eq_false hk]; rfl
    unfold setG
    simp only
    rw [hv, Bool.not_true, cond_false, hh, cond_false]
    by_cases h100 : (xs.length : Int) ≥ 100
    · rw [cond_pos h100, cond_pos h100]
    · rw [cond_neg h100, cond_neg h100]
      exact ins (by omega)
def caseGrset : VCase := ⟨[.lit (.ptr 0 (.tl 0) 0), .str, .int .i64], [.box 1 [[.vl rowS]]], .int .i64, [.box 1 [[.vl rowS]]], fun ⟨_, p, o, _⟩ ⟨⟨⟨xs, _⟩, _⟩, _⟩ => [(decide (List.length xs ≤ 1000000), ((setG xs (p, o)).2, ((((setG xs (p, o)).1, ()), ()), ())))]⟩
theorem grset_ok : caseGrset.e.ok P0 I.cooperageref10_Places_Set := vcase_ok (c := caseGrset) (H := H.grset2) (E := env consJ1) (env_ok consJ1_ok) glob0 mixed0 G.cooperageref10_Places_Set Bd.cooperageref10_Places_Set (by kernel_rfl) (loops_good (tab := [(4, gsLC)]) (by kernel_rfl) (fun x hx => by simp at hx; subst hx; exact gs_lok)) fun ⟨_, p, o, _⟩ ⟨⟨⟨xs, _⟩, _⟩, _⟩ r h hw1 hw2 => by
  obtain ⟨hc, rfl⟩ := pick_pre h
  exact grset_val xs p o (of_decide_eq_true hc)
end Go.Sim.XG
