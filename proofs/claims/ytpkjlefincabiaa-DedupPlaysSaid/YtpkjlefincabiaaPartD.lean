/-
  PlDed: tables of producers: the plain side. · SimCut: code in parts. · WkD1: walks of slices.BinarySearchFunc and slices.Insert. · WkD2: slices.Insert, in parts (states written by a tool). · WkD3: slices.Insert, in parts (states written by a tool). · WkD4: slices.Insert: what it leaves. · WkD5: contracts of slices.Insert and slices.BinarySearchFunc. · WkD6: walks of dedup's table. · WkD7: the law DedupTurns. · WkD8: Rows; the law DedupMany. · PlTy: the program's kinds of data: records, commands, segments. · PlSch: what searches in lists come to. · WkD9: the document's table, like rows; the law DedupApart. · WkDA: the document's Ask; the law DedupPlays.
-/
import Derived.Lib.Overlaps
import Derived.Test.YtpkjlefincabiaaPartC
namespace Go.Sim
set_option linter.unusedSimpArgs false
set_option linter.unusedVariables false
abbrev Row3 := Int × Int × Int
/-- Where a producer's row stands, or would. -/
def posL : List Row3 → Int → Nat
  | [], _ => 0
  | r :: l, p => bif decide (r.1 < p) then posL l p + 1 else 0
def atL (l : List Row3) (i : Nat) : Row3 := l.getD i (0, 0, 0)
def hasL (l : List Row3) (p : Int) : Bool := decide (posL l p < l.length) && (atL l (posL l p)).1 == p
def sortedL : List Row3 → Bool
  | [] => true
  | r :: l => l.all (fun s => decide (r.1 < s.1)) && sortedL l
def putAt (l : List Row3) (k t : Nat) (r : Row3) : List Row3 := l.take k ++ r :: l.drop t
/-- A table in which a row was set; what Set tells. -/
def setL (l : List Row3) (r : Row3) : List Row3 × Int :=
  bif hasL l r.1 then (putAt l (posL l r.1) (posL l r.1 + 1) r, 0) else bif decide ((l.length : Int) ≥ 100) then (l, 7) else (putAt l (posL l r.1) (posL l r.1) r, 0)
def askL (l : List Row3) (p s : Int) : Int × Int :=
  bif hasL l p then (bif (atL l (posL l p)).2.1 == s then (1, (atL l (posL l p)).2.2) else bif decide ((atL l (posL l p)).2.1 < s) && (atL l (posL l p)).2.1 == s - 1 then (0, 0) else (2, 0)) else bif s == 0 then (0, 0) else (2, 0)
theorem pos_le : ∀ (l : List Row3) (p : Int), posL l p ≤ l.length
  | [], _ => Nat.le_refl _
  | r :: l, p => by
    have := pos_le l p
    simp only [posL, List.length_cons]
    cases decide (r.1 < p) <;> simp only [cond_true, cond_false] <;> omega
theorem pos_below : ∀ {l : List Row3} {p : Int} {i : Nat}, i < posL l p → (atL l i).1 < p
  | r :: l, p, i, h => by
    simp only [posL] at h
    by_cases hr : r.1 < p
    · cases i with
      | zero => exact hr
      | succ i =>
        rw [cond_pos hr] at h
        have := pos_below (l := l) (p := p) (i := i) (by omega)
        simpa [atL] using this
    · rw [cond_neg hr] at h; omega
theorem pos_at : ∀ {l : List Row3} {p : Int}, posL l p < l.length → p ≤ (atL l (posL l p)).1
  | r :: l, p, h => by
    simp only [posL] at h ⊢
    by_cases hr : r.1 < p
    · rw [cond_pos hr] at h ⊢
      have := pos_at (l := l) (p := p) (by simpa using h)
      simpa [atL] using this
    · rw [cond_neg hr]
      show p ≤ r.1
      omega
theorem sorted_lt : ∀ {l : List Row3} {i j : Nat}, sortedL l = true → i < j → j < l.length → (atL l i).1 < (atL l j).1
  | r :: l, i, j, hs, hij, hj => by
    simp only [sortedL, Bool.and_eq_true, List.all_eq_true, decide_eq_true_eq] at hs
    cases j with
    | zero => omega
    | succ j =>
      have hj : j < l.length := by simpa using hj
      cases i with
      | zero =>
        have : (atL l j) ∈ l := by unfold atL; rw [List.getD_eq_getElem?_getD, List.getElem?_eq_getElem hj]; exact List.getElem_mem hj
        have := hs.1 _ this
        simpa [atL] using this
      | succ i =>
        have := sorted_lt (l := l) (i := i) (j := j) hs.2 (by omega) hj
        simpa [atL] using this
/-- A place with nothing less behind it and nothing else ahead is the row's. -/
theorem pos_eq {l : List Row3} {p : Int} {k : Nat} (hk : k ≤ l.length) (h1 : ∀ i, i < k → (atL l i).1 < p) (h2 : k < l.length → p ≤ (atL l k).1) : posL l p = k := by
  rcases Nat.lt_trichotomy (posL l p) k with h | h | h
  · have := pos_at (l := l) (p := p) (by omega)
    have := h1 _ h
    omega
  · exact h
  · have := pos_below h
    have := h2 (by have := pos_le l p; omega)
    omega
theorem sorted_put {l : List Row3} {r : Row3} {t : Nat} (hs : sortedL l = true) (h1 : posL l r.1 ≤ t) (h2 : ∀ i, t ≤ i → i < l.length → r.1 < (atL l i).1) : sortedL (putAt l (posL l r.1) t r) = true := by
  have key : ∀ (a b : List Row3), (∀ x ∈ a, x.1 < r.1) → (∀ x ∈ b, r.1 < x.1) → sortedL a = true → sortedL b = true → sortedL (a ++ r :: b) = true := by
    intro a b ha hb
    induction a with
    | nil =>
      intro _ sb
      simp only [List.nil_append, sortedL, Bool.and_eq_true, List.all_eq_true, decide_eq_true_eq]
      exact ⟨hb, sb⟩
    | cons x a ih =>
      intro sa sb
      simp only [sortedL, Bool.and_eq_true, List.all_eq_true, decide_eq_true_eq, List.cons_append] at sa ⊢
      refine ⟨?_, ih (fun y hy => ha y (List.mem_cons_of_mem _ hy)) sa.2 sb⟩
      intro y hy
      have hx := ha x (by simp)
      rcases List.mem_append.1 hy with h | h
      · exact sa.1 y h
      · rcases List.mem_cons.1 h with h | h
        · subst h; exact hx
        · have := hb y h; omega
  have take_s : ∀ (l : List Row3) (n : Nat), sortedL l = true → sortedL (l.take n) = true := by
    intro l
    induction l with
    | nil => intro n _; simp [sortedL]
    | cons x l ih =>
      intro n hs
      cases n with
      | zero => simp [sortedL]
      | succ n =>
        simp only [sortedL, Bool.and_eq_true, List.all_eq_true, decide_eq_true_eq, List.take_succ_cons] at hs ⊢
        exact ⟨fun y hy => hs.1 y (List.mem_of_mem_take hy), ih n hs.2⟩
  have drop_s : ∀ (l : List Row3) (n : Nat), sortedL l = true → sortedL (l.drop n) = true := by
    intro l
    induction l with
    | nil => intro n _; simp [sortedL]
    | cons x l ih =>
      intro n hs
      cases n with
      | zero => exact hs
      | succ n =>
        simp only [sortedL, Bool.and_eq_true, List.drop_succ_cons] at hs ⊢
        exact ih n hs.2
  unfold putAt
  refine key _ _ ?_ ?_ (take_s _ _ hs) (drop_s _ _ hs)
  · intro x hx
    obtain ⟨i, hi, rfl⟩ := List.mem_iff_getElem.1 hx
    have hi' : i < posL l r.1 ∧ i < l.length := by have := hi; simp at this; omega
    have := pos_below hi'.1
    unfold atL at this
    rw [List.getD_eq_getElem?_getD, List.getElem?_eq_getElem hi'.2] at this
    simpa using this
  · intro x hx
    obtain ⟨i, hi, rfl⟩ := List.mem_iff_getElem.1 hx
    have hi' : t + i < l.length := by have := hi; simp at this; omega
    have := h2 (t + i) (by omega) hi'
    unfold atL at this
    rw [List.getD_eq_getElem?_getD, List.getElem?_eq_getElem hi'] at this
    simpa using this
theorem set_sorted {l : List Row3} (r : Row3) (hs : sortedL l = true) : sortedL (setL l r).1 = true := by
  unfold setL
  cases hh : hasL l r.1 with
  | true =>
    simp only [cond_true]
    unfold hasL at hh
    simp only [Bool.and_eq_true, decide_eq_true_eq, beq_iff_eq] at hh
    exact sorted_put hs (by omega) (fun i h1 h2 => by have := sorted_lt hs (i := posL l r.1) (j := i) (by omega) h2; omega)
  | false =>
    simp only [cond_false]
    cases decide ((l.length : Int) ≥ 100) with
    | true => exact hs
    | false =>
      refine sorted_put hs (Nat.le_refl _) (fun i h1 h2 => ?_)
      have hk : posL l r.1 < l.length := by omega
      have ha := pos_at hk
      have hne : (atL l (posL l r.1)).1 ≠ r.1 := fun e => by
        unfold hasL at hh
        simp [hk, e] at hh
      rcases Nat.lt_or_ge (posL l r.1) i with h | h
      · have := sorted_lt hs h h2; omega
      · have : i = posL l r.1 := by omega
        subst this; omega
theorem putAt_len {l : List Row3} {k t : Nat} {r : Row3} (h : k ≤ t) (ht : t ≤ l.length) : (putAt l k t r).length = k + 1 + (l.length - t) := by
  unfold putAt
  simp only [List.length_append, List.length_take, List.length_cons, List.length_drop]
  omega
theorem set_len (l : List Row3) (r : Row3) (h : l.length ≤ 100) : (setL l r).1.length ≤ 100 := by
  unfold setL
  have hp := pos_le l r.1
  cases hh : hasL l r.1 with
  | true =>
    unfold hasL at hh
    simp only [Bool.and_eq_true, decide_eq_true_eq] at hh
    simp only [cond_true]
    rw [putAt_len (by omega) (by omega)]
    omega
  | false =>
    by_cases hl : (l.length : Int) ≥ 100
    · simp only [cond_false, hl, decide_true, cond_true]; exact h
    · simp only [cond_false, hl, decide_false]
      rw [putAt_len (by omega) (by omega)]
      omega
end Go.Sim
namespace Go.Sim
/-- What is left of code behind its first n parts. -/
def sufC : Nat → Code → Code
  | 0, c => c
  | n + 1, .seq _ b => sufC n b
  | _ + 1, _ => .skip
/-- The first n parts of code. -/
def preC : Nat → Code → Code
  | 0, _ => .skip
  | n + 1, .seq a b => .seq a (preC n b)
  | _ + 1, c => c
theorem cut_skip {E : Env} {H : Hint} {k0 : Nat} {R : Type} {LP : Loops R} (K : Ex → St → Option R) : (fun e s' => match e with
      | .normal => ev E H k0 LP .skip s' K
      | e => K e s') = K := by
  funext e s'
  cases e <;> rfl
theorem ev_cut {E : Env} {H : Hint} {k0 : Nat} (hj : H.jc = []) {R : Type} {LP : Loops R} : ∀ (n : Nat) (c : Code) (s : St) (K : Ex → St → Option R),
    ev E H k0 LP c s K = ev E H k0 LP (preC n c) s fun e s' => match e with
      | .normal => ev E H k0 LP (sufC n c) s' K
      | e => K e s' := by
  intro n
  induction n with
  | zero => intro c s K; rfl
  | succ n ih =>
    intro c s K
    cases c with
    | seq a b =>
      have hn : (cond (loopFree a) (lk? H.jc (firstRegion a)) none) = none := by rw [hj]; cases loopFree a <;> rfl
      simp only [preC, sufC, ev]
      rw [hn]
      simp only
      congr 1
      funext e s'
      cases e with
      | normal => exact ih b s' K
      | exit i => rfl
      | ret => rfl
    | _ => simp only [preC, sufC]; rw [cut_skip]
end Go.Sim
namespace Go.Sim
set_option linter.unusedSimpArgs false
set_option linter.unusedVariables false
set_option maxRecDepth 10000
theorem env_nil : ∀ x ∈ ([] : List (FuncId × Con)), HoldsC P0 x.1 x.2 := fun x h => by cases h
abbrev rowT : Ty := .pair (.int .i64) (.pair (.int .i64) (.int .i64))
theorem isnan_ev (a : Int) : evFn (env []) H.cmp_isNaN_int (LPof []) F.cmp_isNaN_int [.int .i64 a] [] (finT [.bool]) = some (a != a, ()) := by kernel_rfl

def caseIsnan : PCase := ⟨[.ty (.int .i64)], [.bool], fun x => (fun (a : Int) => [(true, (false, ()))]) x.1⟩
theorem isnan_val (a : Int) : evFn (env []) H.cmp_isNaN_int (LPof []) F.cmp_isNaN_int [.int .i64 a] [] (finT [.bool]) = some (false, ()) := by
  rw [isnan_ev]; simp
theorem isnan_ok : caseIsnan.ok P0 I.cmp_isNaN_int := case_ok2 (H := H.cmp_isNaN_int) (E := env []) (env_ok env_nil) glob0 mixed0 G.cmp_isNaN_int Bd.cmp_isNaN_int (by kernel_rfl) noLoops fun ⟨a, ()⟩ y h hw => by
  obtain ⟨hc, rfl⟩ := pick_pre h
  exact isnan_val a
noncomputable abbrev consA1 : List (FuncId × Con) := [(I.cmp_isNaN_int, .pure (pureOf [caseIsnan]))]
theorem consA1_ok : ∀ x ∈ consA1, HoldsC P0 x.1 x.2 := by
  intro x hx
  simp at hx
  subst hx
  exact ⟨pureOf_holds (by simp; exact isnan_ok), C.cmp_isNaN_int⟩
theorem cmp_ev (a b : Int) : evFn (env consA1) H.cmp_Compare_int (LPof []) F.cmp_Compare_int [.int .i64 a, .int .i64 b] [] (finT [.int .i64]) = bif decide (a < b) then some ((-1 : Int), ()) else bif decide (a > b) then some ((1 : Int), ()) else some ((0 : Int), ()) := by kernel_rfl

def cmpI (a b : Int) : Int := bif decide (a < b) then -1 else bif decide (a > b) then 1 else 0
def caseCmp : PCase := ⟨[.ty (.int .i64), .ty (.int .i64)], [.int .i64], fun x => (fun (a b : Int) => [(true, (cmpI a b, ()))]) x.1 x.2.1⟩
theorem cmp_val (a b : Int) : evFn (env consA1) H.cmp_Compare_int (LPof []) F.cmp_Compare_int [.int .i64 a, .int .i64 b] [] (finT [.int .i64]) = some (cmpI a b, ()) := by
  rw [cmp_ev]
  unfold cmpI
  cases decide (a < b) <;> cases decide (a > b) <;> rfl
theorem cmp_ok : caseCmp.ok P0 I.cmp_Compare_int := case_ok2 (H := H.cmp_Compare_int) (E := env consA1) (env_ok consA1_ok) glob0 mixed0 G.cmp_Compare_int Bd.cmp_Compare_int (by kernel_rfl) noLoops fun ⟨a, b, ()⟩ y h hw => by
  obtain ⟨hc, rfl⟩ := pick_pre h
  exact cmp_val a b
noncomputable abbrev consA2 : List (FuncId × Con) := [(I.cmp_Compare_int, .pure (pureOf [caseCmp]))]
theorem consA2_ok : ∀ x ∈ consA2, HoldsC P0 x.1 x.2 := by
  intro x hx
  simp at hx
  subst hx
  exact ⟨pureOf_holds (by simp; exact cmp_ok), C.cmp_Compare_int⟩
theorem find1_ev (r : Row3) (p : Int) : evFn (env consA2) H.dedup_Table_find_1 (LPof []) F.dedup_Table_find_1 [valOf rowT r, .int .i64 p] [] (finT [.int .i64]) = some (cmpI r.fst p, ()) := by kernel_rfl

def H.ins2 : Hint := { H.slices_Insert_dedup_Row_dedup_Row with vs := [51], hw := [83], nh := [(6, 65)] }
noncomputable abbrev consA3 : List (FuncId × Con) := [(28, .apart)]
def insObj (r : Row3) : AObj := .arr 3 .bool [] [[.int .i64 r.1, .int .i64 r.2.1, .int .i64 r.2.2]]
theorem ins1_ev {R : Type} (xs : List Row3) (i : Int) (r : Row3) (c : Nat) (K : Ex → St → Option R) : ev (env consA3) H.ins2 2 (LPof []) (preC 7 B.slices_Insert_dedup_Row_dedup_Row) (initSt [.hc 0 0 xs.length c, .int .i64 i, .hw 1] [.arr 3 rowT xs [], insObj r]) K = bif decide ((0 : Int) ≤ i) && decide (i ≤ (↑xs.length : Int)) then bif i == (↑xs.length : Int) then bif decide ((List.take xs.length xs ++ [r]).length * 24 ≤ 140737488355328) then K Ex.ret { slots := [(6, AV.hw 3), (25, AV.hw 3), (24, AV.hw 1), (23, AV.hc 0 0 xs.length c), (22, AV.bool (i == (↑xs.length : Int))), (21, AV.int IntKind.i64 (↑xs.length : Int)), (20, AV.int IntKind.i64 i), (8, AV.int IntKind.i64 (↑xs.length : Int)), (19, AV.int IntKind.i64 (↑xs.length : Int)), (18, AV.hc 0 0 xs.length c), (16, AV.bool false), (15, AV.int IntKind.i64 (1 : Int)), (7, AV.int IntKind.i64 (1 : Int)), (14, AV.int IntKind.i64 (1 : Int)), (13, AV.hw 1), (12, AV.hc 0 i.toNat (xs.length - i.toNat) (cutCap c (some i.toNat))), (11, AV.int IntKind.i64 i), (10, AV.hc 0 0 xs.length c), (6, AV.hw 2), (0, AV.hc 0 0 xs.length c), (1, AV.int IntKind.i64 i), (2, AV.hw 1)], objs := [(3, AObj.arr 3 ((Ty.int IntKind.i64).pair ((Ty.int IntKind.i64).pair (Ty.int IntKind.i64))) (List.take xs.length xs ++ [r]) []), (0, AObj.dead), (2, AObj.arr 3 ((Ty.int IntKind.i64).pair ((Ty.int IntKind.i64).pair (Ty.int IntKind.i64))) [] []), (0, AObj.arr 3 ((Ty.int IntKind.i64).pair ((Ty.int IntKind.i64).pair (Ty.int IntKind.i64))) xs []), (1, AObj.arr 3 Ty.bool [] [[AV.int IntKind.i64 r.fst, AV.int IntKind.i64 r.snd.fst, AV.int IntKind.i64 r.snd.snd]])], nx := 4 } else none else bif decide (IntKind.i64.wrap ((↑xs.length : Int) + (1 : Int)) > (↑c : Int)) then bif decide ((0 : Int) ≤ i) && decide (i ≤ (↑xs.length : Int)) then bif decide ((0 : Int) < IntKind.i64.wrap (IntKind.i64.wrap ((↑xs.length : Int) + (1 : Int)) - i)) && decide (c < i.toNat + (IntKind.i64.wrap (IntKind.i64.wrap ((↑xs.length : Int) + (1 : Int)) - i)).toNat) && decide (0 + i.toNat ≤ xs.length) && decide ((i.toNat + (IntKind.i64.wrap (IntKind.i64.wrap ((↑xs.length : Int) + (1 : Int)) - i)).toNat) * 24 ≤ 140737488355328) then bif decide ((0 : Int) ≤ i) && decide (i ≤ (↑(List.take i.toNat xs ++ List.replicate (IntKind.i64.wrap (IntKind.i64.wrap ((↑xs.length : Int) + (1 : Int)) - i)).toNat ((Ty.int IntKind.i64).pair ((Ty.int IntKind.i64).pair (Ty.int IntKind.i64))).zero).length : Int)) then bif decide (1 ≤ (List.take i.toNat xs ++ List.replicate (IntKind.i64.wrap (IntKind.i64.wrap ((↑xs.length : Int) + (1 : Int)) - i)).toNat ((Ty.int IntKind.i64).pair ((Ty.int IntKind.i64).pair (Ty.int IntKind.i64))).zero).length - i.toNat) && decide (i.toNat + 1 ≤ (List.take i.toNat xs ++ List.replicate (IntKind.i64.wrap (IntKind.i64.wrap ((↑xs.length : Int) + (1 : Int)) - i)).toNat ((Ty.int IntKind.i64).pair ((Ty.int IntKind.i64).pair (Ty.int IntKind.i64))).zero).length) then bif decide ((0 : Int) ≤ IntKind.i64.wrap (i + (1 : Int))) && decide (IntKind.i64.wrap (i + (1 : Int)) ≤ (↑(List.take i.toNat (List.take i.toNat xs ++ List.replicate (IntKind.i64.wrap (IntKind.i64.wrap ((↑xs.length : Int) + (1 : Int)) - i)).toNat ((Ty.int IntKind.i64).pair ((Ty.int IntKind.i64).pair (Ty.int IntKind.i64))).zero) ++ [r] ++ List.drop (i.toNat + 1) (List.take i.toNat xs ++ List.replicate (IntKind.i64.wrap (IntKind.i64.wrap ((↑xs.length : Int) + (1 : Int)) - i)).toNat ((Ty.int IntKind.i64).pair ((Ty.int IntKind.i64).pair (Ty.int IntKind.i64))).zero)).length : Int)) then bif decide (xs.length = xs.length) && decide (0 < c) then bif decide ((0 : Int) ≤ i) && decide (i ≤ (↑xs.length : Int)) then bif decide ((List.drop i.toNat xs).length ≤ (List.take i.toNat (List.take i.toNat xs ++ List.replicate (IntKind.i64.wrap (IntKind.i64.wrap ((↑xs.length : Int) + (1 : Int)) - i)).toNat ((Ty.int IntKind.i64).pair ((Ty.int IntKind.i64).pair (Ty.int IntKind.i64))).zero) ++ [r] ++ List.drop (i.toNat + 1) (List.take i.toNat xs ++ List.replicate (IntKind.i64.wrap (IntKind.i64.wrap ((↑xs.length : Int) + (1 : Int)) - i)).toNat ((Ty.int IntKind.i64).pair ((Ty.int IntKind.i64).pair (Ty.int IntKind.i64))).zero)).length - (IntKind.i64.wrap (i + (1 : Int))).toNat) && decide ((IntKind.i64.wrap (i + (1 : Int))).toNat + (List.drop i.toNat xs).length ≤ (List.take i.toNat (List.take i.toNat xs ++ List.replicate (IntKind.i64.wrap (IntKind.i64.wrap ((↑xs.length : Int) + (1 : Int)) - i)).toNat ((Ty.int IntKind.i64).pair ((Ty.int IntKind.i64).pair (Ty.int IntKind.i64))).zero) ++ [r] ++ List.drop (i.toNat + 1) (List.take i.toNat xs ++ List.replicate (IntKind.i64.wrap (IntKind.i64.wrap ((↑xs.length : Int) + (1 : Int)) - i)).toNat ((Ty.int IntKind.i64).pair ((Ty.int IntKind.i64).pair (Ty.int IntKind.i64))).zero)).length) then K Ex.ret { slots := [(6, AV.hw 3), (55, AV.hw 3), (54, AV.int IntKind.i64 (↑(List.drop i.toNat xs).length : Int)), (53, AV.vl ((Ty.int IntKind.i64).pair ((Ty.int IntKind.i64).pair (Ty.int IntKind.i64))) (List.drop i.toNat xs)), (52, AV.int IntKind.i64 i), (51, AV.vl ((Ty.int IntKind.i64).pair ((Ty.int IntKind.i64).pair (Ty.int IntKind.i64))) xs), (50, AV.hs 3 (IntKind.i64.wrap (i + (1 : Int))).toNat ((List.take i.toNat (List.take i.toNat xs ++ List.replicate (IntKind.i64.wrap (IntKind.i64.wrap ((↑xs.length : Int) + (1 : Int)) - i)).toNat ((Ty.int IntKind.i64).pair ((Ty.int IntKind.i64).pair (Ty.int IntKind.i64))).zero) ++ [r] ++ List.drop (i.toNat + 1) (List.take i.toNat xs ++ List.replicate (IntKind.i64.wrap (IntKind.i64.wrap ((↑xs.length : Int) + (1 : Int)) - i)).toNat ((Ty.int IntKind.i64).pair ((Ty.int IntKind.i64).pair (Ty.int IntKind.i64))).zero)).length - (IntKind.i64.wrap (i + (1 : Int))).toNat)), (49, AV.int IntKind.i64 (IntKind.i64.wrap (i + (1 : Int)))), (48, AV.int IntKind.i64 (1 : Int)), (47, AV.int IntKind.i64 i), (46, AV.hw 3), (45, AV.int IntKind.i64 (1 : Int)), (44, AV.hw 1), (43, AV.hs 3 i.toNat ((List.take i.toNat xs ++ List.replicate (IntKind.i64.wrap (IntKind.i64.wrap ((↑xs.length : Int) + (1 : Int)) - i)).toNat ((Ty.int IntKind.i64).pair ((Ty.int IntKind.i64).pair (Ty.int IntKind.i64))).zero).length - i.toNat)), (42, AV.int IntKind.i64 i), (41, AV.hw 3), (9, AV.hw 3), (40, AV.hw 3), (39, AV.int IntKind.i64 (IntKind.i64.wrap (IntKind.i64.wrap ((↑xs.length : Int) + (1 : Int)) - i))), (38, AV.int IntKind.i64 i), (37, AV.int IntKind.i64 (IntKind.i64.wrap ((↑xs.length : Int) + (1 : Int)))), (36, AV.int IntKind.i64 (1 : Int)), (35, AV.int IntKind.i64 (↑xs.length : Int)), (34, AV.hc 0 0 i.toNat c), (33, AV.int IntKind.i64 i), (32, AV.hc 0 0 xs.length c), (31, AV.bool (decide (IntKind.i64.wrap ((↑xs.length : Int) + (1 : Int)) > (↑c : Int)))), (30, AV.int IntKind.i64 (↑c : Int)), (29, AV.hc 0 0 xs.length c), (28, AV.int IntKind.i64 (IntKind.i64.wrap ((↑xs.length : Int) + (1 : Int)))), (27, AV.int IntKind.i64 (1 : Int)), (26, AV.int IntKind.i64 (↑xs.length : Int)), (22, AV.bool (i == (↑xs.length : Int))), (21, AV.int IntKind.i64 (↑xs.length : Int)), (20, AV.int IntKind.i64 i), (8, AV.int IntKind.i64 (↑xs.length : Int)), (19, AV.int IntKind.i64 (↑xs.length : Int)), (18, AV.hc 0 0 xs.length c), (16, AV.bool false), (15, AV.int IntKind.i64 (1 : Int)), (7, AV.int IntKind.i64 (1 : Int)), (14, AV.int IntKind.i64 (1 : Int)), (13, AV.hw 1), (12, AV.hc 0 i.toNat (xs.length - i.toNat) (cutCap c (some i.toNat))), (11, AV.int IntKind.i64 i), (10, AV.hc 0 0 xs.length c), (6, AV.hw 2), (0, AV.hc 0 0 xs.length c), (1, AV.int IntKind.i64 i), (2, AV.hw 1)], objs := [(3, AObj.arr 3 ((Ty.int IntKind.i64).pair ((Ty.int IntKind.i64).pair (Ty.int IntKind.i64))) (List.take (IntKind.i64.wrap (i + (1 : Int))).toNat (List.take i.toNat (List.take i.toNat xs ++ List.replicate (IntKind.i64.wrap (IntKind.i64.wrap ((↑xs.length : Int) + (1 : Int)) - i)).toNat ((Ty.int IntKind.i64).pair ((Ty.int IntKind.i64).pair (Ty.int IntKind.i64))).zero) ++ [r] ++ List.drop (i.toNat + 1) (List.take i.toNat xs ++ List.replicate (IntKind.i64.wrap (IntKind.i64.wrap ((↑xs.length : Int) + (1 : Int)) - i)).toNat ((Ty.int IntKind.i64).pair ((Ty.int IntKind.i64).pair (Ty.int IntKind.i64))).zero)) ++ List.drop i.toNat xs ++ List.drop ((IntKind.i64.wrap (i + (1 : Int))).toNat + (List.drop i.toNat xs).length) (List.take i.toNat (List.take i.toNat xs ++ List.replicate (IntKind.i64.wrap (IntKind.i64.wrap ((↑xs.length : Int) + (1 : Int)) - i)).toNat ((Ty.int IntKind.i64).pair ((Ty.int IntKind.i64).pair (Ty.int IntKind.i64))).zero) ++ [r] ++ List.drop (i.toNat + 1) (List.take i.toNat xs ++ List.replicate (IntKind.i64.wrap (IntKind.i64.wrap ((↑xs.length : Int) + (1 : Int)) - i)).toNat ((Ty.int IntKind.i64).pair ((Ty.int IntKind.i64).pair (Ty.int IntKind.i64))).zero))) []), (0, AObj.dead), (3, AObj.arr 3 ((Ty.int IntKind.i64).pair ((Ty.int IntKind.i64).pair (Ty.int IntKind.i64))) (List.take i.toNat (List.take i.toNat xs ++ List.replicate (IntKind.i64.wrap (IntKind.i64.wrap ((↑xs.length : Int) + (1 : Int)) - i)).toNat ((Ty.int IntKind.i64).pair ((Ty.int IntKind.i64).pair (Ty.int IntKind.i64))).zero) ++ [r] ++ List.drop (i.toNat + 1) (List.take i.toNat xs ++ List.replicate (IntKind.i64.wrap (IntKind.i64.wrap ((↑xs.length : Int) + (1 : Int)) - i)).toNat ((Ty.int IntKind.i64).pair ((Ty.int IntKind.i64).pair (Ty.int IntKind.i64))).zero)) []), (3, AObj.arr 3 ((Ty.int IntKind.i64).pair ((Ty.int IntKind.i64).pair (Ty.int IntKind.i64))) (List.take i.toNat xs ++ List.replicate (IntKind.i64.wrap (IntKind.i64.wrap ((↑xs.length : Int) + (1 : Int)) - i)).toNat ((Ty.int IntKind.i64).pair ((Ty.int IntKind.i64).pair (Ty.int IntKind.i64))).zero) []), (2, AObj.arr 3 ((Ty.int IntKind.i64).pair ((Ty.int IntKind.i64).pair (Ty.int IntKind.i64))) [] []), (0, AObj.arr 3 ((Ty.int IntKind.i64).pair ((Ty.int IntKind.i64).pair (Ty.int IntKind.i64))) xs []), (1, AObj.arr 3 Ty.bool [] [[AV.int IntKind.i64 r.fst, AV.int IntKind.i64 r.snd.fst, AV.int IntKind.i64 r.snd.snd]])], nx := 4 } else none else none else none else none else none else none else none else bif decide (i = (↑xs.length : Int) + (1 : Int)) && decide (xs.length + 1 ≤ c) && decide (0 + xs.length = xs.length) && decide (xs.length < 9223372036854775807) && true then none else none else K Ex.normal { slots := [(31, AV.bool (decide (IntKind.i64.wrap ((↑xs.length : Int) + (1 : Int)) > (↑c : Int)))), (30, AV.int IntKind.i64 (↑c : Int)), (29, AV.hc 0 0 xs.length c), (28, AV.int IntKind.i64 (IntKind.i64.wrap ((↑xs.length : Int) + (1 : Int)))), (27, AV.int IntKind.i64 (1 : Int)), (26, AV.int IntKind.i64 (↑xs.length : Int)), (22, AV.bool (i == (↑xs.length : Int))), (21, AV.int IntKind.i64 (↑xs.length : Int)), (20, AV.int IntKind.i64 i), (8, AV.int IntKind.i64 (↑xs.length : Int)), (19, AV.int IntKind.i64 (↑xs.length : Int)), (18, AV.hc 0 0 xs.length c), (16, AV.bool false), (15, AV.int IntKind.i64 (1 : Int)), (7, AV.int IntKind.i64 (1 : Int)), (14, AV.int IntKind.i64 (1 : Int)), (13, AV.hw 1), (12, AV.hc 0 i.toNat (xs.length - i.toNat) (cutCap c (some i.toNat))), (11, AV.int IntKind.i64 i), (10, AV.hc 0 0 xs.length c), (6, AV.hw 2), (0, AV.hc 0 0 xs.length c), (1, AV.int IntKind.i64 i), (2, AV.hw 1)], objs := [(2, AObj.arr 3 ((Ty.int IntKind.i64).pair ((Ty.int IntKind.i64).pair (Ty.int IntKind.i64))) [] []), (0, AObj.arr 3 ((Ty.int IntKind.i64).pair ((Ty.int IntKind.i64).pair (Ty.int IntKind.i64))) xs []), (1, AObj.arr 3 Ty.bool [] [[AV.int IntKind.i64 r.fst, AV.int IntKind.i64 r.snd.fst, AV.int IntKind.i64 r.snd.snd]])], nx := 3 } else none := by kernel_rfl

end Go.Sim
namespace Go.Sim
set_option linter.unusedSimpArgs false
set_option linter.unusedVariables false
set_option maxRecDepth 10000
def insR1 (xs : List Row3) (i : Int) (r : Row3) (c : Nat) : St := { slots := [(6, AV.hw 3), (25, AV.hw 3), (24, AV.hw 1), (23, AV.hc 0 0 xs.length c), (22, AV.bool (i == (↑xs.length : Int))), (21, AV.int IntKind.i64 (↑xs.length : Int)), (20, AV.int IntKind.i64 i), (8, AV.int IntKind.i64 (↑xs.length : Int)), (19, AV.int IntKind.i64 (↑xs.length : Int)), (18, AV.hc 0 0 xs.length c), (16, AV.bool false), (15, AV.int IntKind.i64 (1 : Int)), (7, AV.int IntKind.i64 (1 : Int)), (14, AV.int IntKind.i64 (1 : Int)), (13, AV.hw 1), (12, AV.hc 0 i.toNat (xs.length - i.toNat) (cutCap c (some i.toNat))), (11, AV.int IntKind.i64 i), (10, AV.hc 0 0 xs.length c), (6, AV.hw 2), (0, AV.hc 0 0 xs.length c), (1, AV.int IntKind.i64 i), (2, AV.hw 1)], objs := [(3, AObj.arr 3 ((Ty.int IntKind.i64).pair ((Ty.int IntKind.i64).pair (Ty.int IntKind.i64))) (List.take xs.length xs ++ [r]) []), (0, AObj.dead), (2, AObj.arr 3 ((Ty.int IntKind.i64).pair ((Ty.int IntKind.i64).pair (Ty.int IntKind.i64))) [] []), (0, AObj.arr 3 ((Ty.int IntKind.i64).pair ((Ty.int IntKind.i64).pair (Ty.int IntKind.i64))) xs []), (1, AObj.arr 3 Ty.bool [] [[AV.int IntKind.i64 r.fst, AV.int IntKind.i64 r.snd.fst, AV.int IntKind.i64 r.snd.snd]])], nx := 4 }
def insR2 (xs : List Row3) (i : Int) (r : Row3) (c : Nat) : St := { slots := [(6, AV.hw 3), (55, AV.hw 3), (54, AV.int IntKind.i64 (↑(List.drop i.toNat xs).length : Int)), (53, AV.vl ((Ty.int IntKind.i64).pair ((Ty.int IntKind.i64).pair (Ty.int IntKind.i64))) (List.drop i.toNat xs)), (52, AV.int IntKind.i64 i), (51, AV.vl ((Ty.int IntKind.i64).pair ((Ty.int IntKind.i64).pair (Ty.int IntKind.i64))) xs), (50, AV.hs 3 (IntKind.i64.wrap (i + (1 : Int))).toNat ((List.take i.toNat (List.take i.toNat xs ++ List.replicate (IntKind.i64.wrap (IntKind.i64.wrap ((↑xs.length : Int) + (1 : Int)) - i)).toNat ((Ty.int IntKind.i64).pair ((Ty.int IntKind.i64).pair (Ty.int IntKind.i64))).zero) ++ [r] ++ List.drop (i.toNat + 1) (List.take i.toNat xs ++ List.replicate (IntKind.i64.wrap (IntKind.i64.wrap ((↑xs.length : Int) + (1 : Int)) - i)).toNat ((Ty.int IntKind.i64).pair ((Ty.int IntKind.i64).pair (Ty.int IntKind.i64))).zero)).length - (IntKind.i64.wrap (i + (1 : Int))).toNat)), (49, AV.int IntKind.i64 (IntKind.i64.wrap (i + (1 : Int)))), (48, AV.int IntKind.i64 (1 : Int)), (47, AV.int IntKind.i64 i), (46, AV.hw 3), (45, AV.int IntKind.i64 (1 : Int)), (44, AV.hw 1), (43, AV.hs 3 i.toNat ((List.take i.toNat xs ++ List.replicate (IntKind.i64.wrap (IntKind.i64.wrap ((↑xs.length : Int) + (1 : Int)) - i)).toNat ((Ty.int IntKind.i64).pair ((Ty.int IntKind.i64).pair (Ty.int IntKind.i64))).zero).length - i.toNat)), (42, AV.int IntKind.i64 i), (41, AV.hw 3), (9, AV.hw 3), (40, AV.hw 3), (39, AV.int IntKind.i64 (IntKind.i64.wrap (IntKind.i64.wrap ((↑xs.length : Int) + (1 : Int)) - i))), (38, AV.int IntKind.i64 i), (37, AV.int IntKind.i64 (IntKind.i64.wrap ((↑xs.length : Int) + (1 : Int)))), (36, AV.int IntKind.i64 (1 : Int)), (35, AV.int IntKind.i64 (↑xs.length : Int)), (34, AV.hc 0 0 i.toNat c), (33, AV.int IntKind.i64 i), (32, AV.hc 0 0 xs.length c), (31, AV.bool (decide (IntKind.i64.wrap ((↑xs.length : Int) + (1 : Int)) > (↑c : Int)))), (30, AV.int IntKind.i64 (↑c : Int)), (29, AV.hc 0 0 xs.length c), (28, AV.int IntKind.i64 (IntKind.i64.wrap ((↑xs.length : Int) + (1 : Int)))), (27, AV.int IntKind.i64 (1 : Int)), (26, AV.int IntKind.i64 (↑xs.length : Int)), (22, AV.bool (i == (↑xs.length : Int))), (21, AV.int IntKind.i64 (↑xs.length : Int)), (20, AV.int IntKind.i64 i), (8, AV.int IntKind.i64 (↑xs.length : Int)), (19, AV.int IntKind.i64 (↑xs.length : Int)), (18, AV.hc 0 0 xs.length c), (16, AV.bool false), (15, AV.int IntKind.i64 (1 : Int)), (7, AV.int IntKind.i64 (1 : Int)), (14, AV.int IntKind.i64 (1 : Int)), (13, AV.hw 1), (12, AV.hc 0 i.toNat (xs.length - i.toNat) (cutCap c (some i.toNat))), (11, AV.int IntKind.i64 i), (10, AV.hc 0 0 xs.length c), (6, AV.hw 2), (0, AV.hc 0 0 xs.length c), (1, AV.int IntKind.i64 i), (2, AV.hw 1)], objs := [(3, AObj.arr 3 ((Ty.int IntKind.i64).pair ((Ty.int IntKind.i64).pair (Ty.int IntKind.i64))) (List.take (IntKind.i64.wrap (i + (1 : Int))).toNat (List.take i.toNat (List.take i.toNat xs ++ List.replicate (IntKind.i64.wrap (IntKind.i64.wrap ((↑xs.length : Int) + (1 : Int)) - i)).toNat ((Ty.int IntKind.i64).pair ((Ty.int IntKind.i64).pair (Ty.int IntKind.i64))).zero) ++ [r] ++ List.drop (i.toNat + 1) (List.take i.toNat xs ++ List.replicate (IntKind.i64.wrap (IntKind.i64.wrap ((↑xs.length : Int) + (1 : Int)) - i)).toNat ((Ty.int IntKind.i64).pair ((Ty.int IntKind.i64).pair (Ty.int IntKind.i64))).zero)) ++ List.drop i.toNat xs ++ List.drop ((IntKind.i64.wrap (i + (1 : Int))).toNat + (List.drop i.toNat xs).length) (List.take i.toNat (List.take i.toNat xs ++ List.replicate (IntKind.i64.wrap (IntKind.i64.wrap ((↑xs.length : Int) + (1 : Int)) - i)).toNat ((Ty.int IntKind.i64).pair ((Ty.int IntKind.i64).pair (Ty.int IntKind.i64))).zero) ++ [r] ++ List.drop (i.toNat + 1) (List.take i.toNat xs ++ List.replicate (IntKind.i64.wrap (IntKind.i64.wrap ((↑xs.length : Int) + (1 : Int)) - i)).toNat ((Ty.int IntKind.i64).pair ((Ty.int IntKind.i64).pair (Ty.int IntKind.i64))).zero))) []), (0, AObj.dead), (3, AObj.arr 3 ((Ty.int IntKind.i64).pair ((Ty.int IntKind.i64).pair (Ty.int IntKind.i64))) (List.take i.toNat (List.take i.toNat xs ++ List.replicate (IntKind.i64.wrap (IntKind.i64.wrap ((↑xs.length : Int) + (1 : Int)) - i)).toNat ((Ty.int IntKind.i64).pair ((Ty.int IntKind.i64).pair (Ty.int IntKind.i64))).zero) ++ [r] ++ List.drop (i.toNat + 1) (List.take i.toNat xs ++ List.replicate (IntKind.i64.wrap (IntKind.i64.wrap ((↑xs.length : Int) + (1 : Int)) - i)).toNat ((Ty.int IntKind.i64).pair ((Ty.int IntKind.i64).pair (Ty.int IntKind.i64))).zero)) []), (3, AObj.arr 3 ((Ty.int IntKind.i64).pair ((Ty.int IntKind.i64).pair (Ty.int IntKind.i64))) (List.take i.toNat xs ++ List.replicate (IntKind.i64.wrap (IntKind.i64.wrap ((↑xs.length : Int) + (1 : Int)) - i)).toNat ((Ty.int IntKind.i64).pair ((Ty.int IntKind.i64).pair (Ty.int IntKind.i64))).zero) []), (2, AObj.arr 3 ((Ty.int IntKind.i64).pair ((Ty.int IntKind.i64).pair (Ty.int IntKind.i64))) [] []), (0, AObj.arr 3 ((Ty.int IntKind.i64).pair ((Ty.int IntKind.i64).pair (Ty.int IntKind.i64))) xs []), (1, AObj.arr 3 Ty.bool [] [[AV.int IntKind.i64 r.fst, AV.int IntKind.i64 r.snd.fst, AV.int IntKind.i64 r.snd.snd]])], nx := 4 }
def insN (xs : List Row3) (i : Int) (r : Row3) (c : Nat) : St := { slots := [(31, AV.bool (decide (IntKind.i64.wrap ((↑xs.length : Int) + (1 : Int)) > (↑c : Int)))), (30, AV.int IntKind.i64 (↑c : Int)), (29, AV.hc 0 0 xs.length c), (28, AV.int IntKind.i64 (IntKind.i64.wrap ((↑xs.length : Int) + (1 : Int)))), (27, AV.int IntKind.i64 (1 : Int)), (26, AV.int IntKind.i64 (↑xs.length : Int)), (22, AV.bool (i == (↑xs.length : Int))), (21, AV.int IntKind.i64 (↑xs.length : Int)), (20, AV.int IntKind.i64 i), (8, AV.int IntKind.i64 (↑xs.length : Int)), (19, AV.int IntKind.i64 (↑xs.length : Int)), (18, AV.hc 0 0 xs.length c), (16, AV.bool false), (15, AV.int IntKind.i64 (1 : Int)), (7, AV.int IntKind.i64 (1 : Int)), (14, AV.int IntKind.i64 (1 : Int)), (13, AV.hw 1), (12, AV.hc 0 i.toNat (xs.length - i.toNat) (cutCap c (some i.toNat))), (11, AV.int IntKind.i64 i), (10, AV.hc 0 0 xs.length c), (6, AV.hw 2), (0, AV.hc 0 0 xs.length c), (1, AV.int IntKind.i64 i), (2, AV.hw 1)], objs := [(2, AObj.arr 3 ((Ty.int IntKind.i64).pair ((Ty.int IntKind.i64).pair (Ty.int IntKind.i64))) [] []), (0, AObj.arr 3 ((Ty.int IntKind.i64).pair ((Ty.int IntKind.i64).pair (Ty.int IntKind.i64))) xs []), (1, AObj.arr 3 Ty.bool [] [[AV.int IntKind.i64 r.fst, AV.int IntKind.i64 r.snd.fst, AV.int IntKind.i64 r.snd.snd]])], nx := 3 }
theorem ins2_ev {R : Type} (xs : List Row3) (i : Int) (r : Row3) (c : Nat) (K : Ex → St → Option R) : ev (env consA3) H.ins2 2 (LPof []) (preC 1 (sufC 7 B.slices_Insert_dedup_Row_dedup_Row)) (insN xs i r c) K = bif decide ((0 : Int) ≤ IntKind.i64.wrap ((↑xs.length : Int) + (1 : Int))) && decide (IntKind.i64.wrap ((↑xs.length : Int) + (1 : Int)) ≤ (↑xs.length : Int)) then K Ex.normal { slots := [(0, AV.hc 0 0 (IntKind.i64.wrap ((↑xs.length : Int) + (1 : Int))).toNat c), (60, AV.hc 0 0 (IntKind.i64.wrap ((↑xs.length : Int) + (1 : Int))).toNat c), (59, AV.int IntKind.i64 (IntKind.i64.wrap ((↑xs.length : Int) + (1 : Int)))), (58, AV.int IntKind.i64 (1 : Int)), (57, AV.int IntKind.i64 (↑xs.length : Int)), (56, AV.hc 0 0 xs.length c), (31, AV.bool (decide (IntKind.i64.wrap ((↑xs.length : Int) + (1 : Int)) > (↑c : Int)))), (30, AV.int IntKind.i64 (↑c : Int)), (29, AV.hc 0 0 xs.length c), (28, AV.int IntKind.i64 (IntKind.i64.wrap ((↑xs.length : Int) + (1 : Int)))), (27, AV.int IntKind.i64 (1 : Int)), (26, AV.int IntKind.i64 (↑xs.length : Int)), (22, AV.bool (i == (↑xs.length : Int))), (21, AV.int IntKind.i64 (↑xs.length : Int)), (20, AV.int IntKind.i64 i), (8, AV.int IntKind.i64 (↑xs.length : Int)), (19, AV.int IntKind.i64 (↑xs.length : Int)), (18, AV.hc 0 0 xs.length c), (16, AV.bool false), (15, AV.int IntKind.i64 (1 : Int)), (7, AV.int IntKind.i64 (1 : Int)), (14, AV.int IntKind.i64 (1 : Int)), (13, AV.hw 1), (12, AV.hc 0 i.toNat (xs.length - i.toNat) (cutCap c (some i.toNat))), (11, AV.int IntKind.i64 i), (10, AV.hc 0 0 xs.length c), (6, AV.hw 2), (0, AV.hc 0 0 xs.length c), (1, AV.int IntKind.i64 i), (2, AV.hw 1)], objs := [(2, AObj.arr 3 ((Ty.int IntKind.i64).pair ((Ty.int IntKind.i64).pair (Ty.int IntKind.i64))) [] []), (0, AObj.arr 3 ((Ty.int IntKind.i64).pair ((Ty.int IntKind.i64).pair (Ty.int IntKind.i64))) xs []), (1, AObj.arr 3 Ty.bool [] [[AV.int IntKind.i64 r.fst, AV.int IntKind.i64 r.snd.fst, AV.int IntKind.i64 r.snd.snd]])], nx := 3 } else bif decide (IntKind.i64.wrap ((↑xs.length : Int) + (1 : Int)) = (↑xs.length : Int) + (1 : Int)) && decide (xs.length + 1 ≤ c) && decide (0 + xs.length = xs.length) && decide (xs.length < 9223372036854775807) && true then K Ex.normal { slots := [(0, AV.hc 3 0 (xs.length + 1) c), (60, AV.hc 3 0 (xs.length + 1) c), (59, AV.int IntKind.i64 (IntKind.i64.wrap ((↑xs.length : Int) + (1 : Int)))), (58, AV.int IntKind.i64 (1 : Int)), (57, AV.int IntKind.i64 (↑xs.length : Int)), (56, AV.hc 0 0 xs.length c), (31, AV.bool (decide (IntKind.i64.wrap ((↑xs.length : Int) + (1 : Int)) > (↑c : Int)))), (30, AV.int IntKind.i64 (↑c : Int)), (29, AV.hc 0 0 xs.length c), (28, AV.int IntKind.i64 (IntKind.i64.wrap ((↑xs.length : Int) + (1 : Int)))), (27, AV.int IntKind.i64 (1 : Int)), (26, AV.int IntKind.i64 (↑xs.length : Int)), (22, AV.bool (i == (↑xs.length : Int))), (21, AV.int IntKind.i64 (↑xs.length : Int)), (20, AV.int IntKind.i64 i), (8, AV.int IntKind.i64 (↑xs.length : Int)), (19, AV.int IntKind.i64 (↑xs.length : Int)), (18, AV.hc 0 0 xs.length c), (16, AV.bool false), (15, AV.int IntKind.i64 (1 : Int)), (7, AV.int IntKind.i64 (1 : Int)), (14, AV.int IntKind.i64 (1 : Int)), (13, AV.hw 1), (12, AV.hc 0 i.toNat (xs.length - i.toNat) (cutCap c (some i.toNat))), (11, AV.int IntKind.i64 i), (10, AV.hc 0 0 xs.length c), (6, AV.hw 2), (0, AV.hc 0 0 xs.length c), (1, AV.int IntKind.i64 i), (2, AV.hw 1)], objs := [(3, AObj.arr 3 ((Ty.int IntKind.i64).pair ((Ty.int IntKind.i64).pair (Ty.int IntKind.i64))) xs [[AV.undef, AV.undef, AV.undef]]), (0, AObj.dead), (2, AObj.arr 3 ((Ty.int IntKind.i64).pair ((Ty.int IntKind.i64).pair (Ty.int IntKind.i64))) [] []), (0, AObj.arr 3 ((Ty.int IntKind.i64).pair ((Ty.int IntKind.i64).pair (Ty.int IntKind.i64))) xs []), (1, AObj.arr 3 Ty.bool [] [[AV.int IntKind.i64 r.fst, AV.int IntKind.i64 r.snd.fst, AV.int IntKind.i64 r.snd.snd]])], nx := 4 } else none := by kernel_rfl

end Go.Sim
namespace Go.Sim
set_option linter.unusedSimpArgs false
set_option linter.unusedVariables false
set_option maxRecDepth 10000
def insM (xs : List Row3) (i : Int) (r : Row3) (c : Nat) : St := { slots := [(0, AV.hc 3 0 (xs.length + 1) c), (60, AV.hc 3 0 (xs.length + 1) c), (59, AV.int IntKind.i64 (IntKind.i64.wrap ((↑xs.length : Int) + (1 : Int)))), (58, AV.int IntKind.i64 (1 : Int)), (57, AV.int IntKind.i64 (↑xs.length : Int)), (56, AV.hc 0 0 xs.length c), (31, AV.bool (decide (IntKind.i64.wrap ((↑xs.length : Int) + (1 : Int)) > (↑c : Int)))), (30, AV.int IntKind.i64 (↑c : Int)), (29, AV.hc 0 0 xs.length c), (28, AV.int IntKind.i64 (IntKind.i64.wrap ((↑xs.length : Int) + (1 : Int)))), (27, AV.int IntKind.i64 (1 : Int)), (26, AV.int IntKind.i64 (↑xs.length : Int)), (22, AV.bool (i == (↑xs.length : Int))), (21, AV.int IntKind.i64 (↑xs.length : Int)), (20, AV.int IntKind.i64 i), (8, AV.int IntKind.i64 (↑xs.length : Int)), (19, AV.int IntKind.i64 (↑xs.length : Int)), (18, AV.hc 0 0 xs.length c), (16, AV.bool false), (15, AV.int IntKind.i64 (1 : Int)), (7, AV.int IntKind.i64 (1 : Int)), (14, AV.int IntKind.i64 (1 : Int)), (13, AV.hw 1), (12, AV.hc 0 i.toNat (xs.length - i.toNat) (cutCap c (some i.toNat))), (11, AV.int IntKind.i64 i), (10, AV.hc 0 0 xs.length c), (6, AV.hw 2), (0, AV.hc 0 0 xs.length c), (1, AV.int IntKind.i64 i), (2, AV.hw 1)], objs := [(3, AObj.arr 3 ((Ty.int IntKind.i64).pair ((Ty.int IntKind.i64).pair (Ty.int IntKind.i64))) xs [[AV.undef, AV.undef, AV.undef]]), (0, AObj.dead), (2, AObj.arr 3 ((Ty.int IntKind.i64).pair ((Ty.int IntKind.i64).pair (Ty.int IntKind.i64))) [] []), (0, AObj.arr 3 ((Ty.int IntKind.i64).pair ((Ty.int IntKind.i64).pair (Ty.int IntKind.i64))) xs []), (1, AObj.arr 3 Ty.bool [] [[AV.int IntKind.i64 r.fst, AV.int IntKind.i64 r.snd.fst, AV.int IntKind.i64 r.snd.snd]])], nx := 4 }
theorem ins3_ev {R : Type} (xs : List Row3) (i : Int) (r : Row3) (c : Nat) (K : Ex → St → Option R) : ev (env consA3) H.ins2 2 (LPof []) (sufC 8 B.slices_Insert_dedup_Row_dedup_Row) (insM xs i r c) K =
  bif decide ((0 : Int) ≤ IntKind.i64.wrap (i + (1 : Int))) && decide (IntKind.i64.wrap (i + (1 : Int)) ≤ (↑(xs.length + 1) : Int)) then
    bif decide (0 < cutCap c (some (IntKind.i64.wrap (i + (1 : Int))).toNat)) then
      bif decide ((0 : Int) ≤ IntKind.i64.wrap (i + (1 : Int))) && decide (IntKind.i64.wrap (i + (1 : Int)) ≤ (↑(xs.length + 1) : Int)) then
        bif decide ((0 : Int) ≤ i) && decide (i ≤ (↑(xs.length + 1) : Int)) then
          bif
              decide
                      ((IntKind.i64.wrap (i + (1 : Int))).toNat + (xs.length + 1 - (IntKind.i64.wrap (i + (1 : Int))).toNat) =
                        xs.length + 1) &&
                    decide ((IntKind.i64.wrap (i + (1 : Int))).toNat ≤ xs.length) &&
                  decide (i.toNat + (xs.length + 1 - (IntKind.i64.wrap (i + (1 : Int))).toNat) ≤ xs.length) &&
                decide (xs.length + 1 - (IntKind.i64.wrap (i + (1 : Int))).toNat ≤ xs.length + 1 - i.toNat) then
            bif decide ((0 : Int) ≤ i) && decide (i ≤ (↑(xs.length + 1) : Int)) then
              bif
                  decide (1 ≤ xs.length + 1 - i.toNat) &&
                    decide
                      (i.toNat + 1 ≤
                        (List.take xs.length
                            (List.take (IntKind.i64.wrap (i + (1 : Int))).toNat xs ++
                              List.take (xs.length + 1 - (IntKind.i64.wrap (i + (1 : Int))).toNat) (List.drop i.toNat xs))).length) then
                bif
                    decide
                        (xs.length + 1 =
                          match
                            List.take i.toNat
                                  (List.take xs.length
                                    (List.take (IntKind.i64.wrap (i + (1 : Int))).toNat xs ++
                                      List.take (xs.length + 1 - (IntKind.i64.wrap (i + (1 : Int))).toNat) (List.drop i.toNat xs))) ++
                                [r] ++
                              List.drop (i.toNat + 1)
                                (List.take xs.length
                                  (List.take (IntKind.i64.wrap (i + (1 : Int))).toNat xs ++
                                    List.take (xs.length + 1 - (IntKind.i64.wrap (i + (1 : Int))).toNat) (List.drop i.toNat xs))) with
                          | [] =>
                            [enc ((Ty.int IntKind.i64).pair ((Ty.int IntKind.i64).pair (Ty.int IntKind.i64)))
                                  ((List.take (IntKind.i64.wrap (i + (1 : Int))).toNat xs ++
                                        List.take (xs.length + 1 - (IntKind.i64.wrap (i + (1 : Int))).toNat) (List.drop i.toNat xs)).getD
                                    xs.length ((Ty.int IntKind.i64).pair ((Ty.int IntKind.i64).pair (Ty.int IntKind.i64))).zero)].length
                          | x =>
                            (List.take i.toNat
                                      (List.take xs.length
                                        (List.take (IntKind.i64.wrap (i + (1 : Int))).toNat xs ++
                                          List.take (xs.length + 1 - (IntKind.i64.wrap (i + (1 : Int))).toNat) (List.drop i.toNat xs))) ++
                                    [r] ++
                                  List.drop (i.toNat + 1)
                                    (List.take xs.length
                                      (List.take (IntKind.i64.wrap (i + (1 : Int))).toNat xs ++
                                        List.take (xs.length + 1 - (IntKind.i64.wrap (i + (1 : Int))).toNat) (List.drop i.toNat xs)))).length +
                              [enc ((Ty.int IntKind.i64).pair ((Ty.int IntKind.i64).pair (Ty.int IntKind.i64)))
                                    ((List.take (IntKind.i64.wrap (i + (1 : Int))).toNat xs ++
                                          List.take (xs.length + 1 - (IntKind.i64.wrap (i + (1 : Int))).toNat) (List.drop i.toNat xs)).getD
                                      xs.length ((Ty.int IntKind.i64).pair ((Ty.int IntKind.i64).pair (Ty.int IntKind.i64))).zero)].length) &&
                      decide (0 < c) then
                  K Ex.ret
                    {
                      slots :=
                        [(6, AV.hw 4), (83, AV.hw 3), (82, AV.int IntKind.i64 (1 : Int)),
                          (81, AV.hw 1),
                          (80, AV.hc 3 i.toNat (xs.length + 1 - i.toNat) (cutCap c (some i.toNat))),
                          (79, AV.int IntKind.i64 i), (78, AV.hc 3 0 (xs.length + 1) c),
                          (77, AV.int IntKind.i64 (↑(xs.length + 1 - (IntKind.i64.wrap (i + (1 : Int))).toNat) : Int)),
                          (76, AV.hc 3 i.toNat (xs.length + 1 - i.toNat) (cutCap c (some i.toNat))),
                          (75, AV.int IntKind.i64 i), (74, AV.hc 3 0 (xs.length + 1) c),
                          (73,
                            AV.hc 3 (IntKind.i64.wrap (i + (1 : Int))).toNat (xs.length + 1 - (IntKind.i64.wrap (i + (1 : Int))).toNat)
                              (cutCap c (some (IntKind.i64.wrap (i + (1 : Int))).toNat))),
                          (72, AV.int IntKind.i64 (IntKind.i64.wrap (i + (1 : Int)))), (71, AV.int IntKind.i64 (1 : Int)),
                          (70, AV.int IntKind.i64 i), (69, AV.hc 3 0 (xs.length + 1) c),
                          (68, AV.bool true), (67, AV.bool false),
                          (66,
                            AV.hc 3 (IntKind.i64.wrap (i + (1 : Int))).toNat (xs.length + 1 - (IntKind.i64.wrap (i + (1 : Int))).toNat)
                              (cutCap c (some (IntKind.i64.wrap (i + (1 : Int))).toNat))),
                          (65, AV.int IntKind.i64 (IntKind.i64.wrap (i + (1 : Int)))), (64, AV.int IntKind.i64 (1 : Int)),
                          (63, AV.int IntKind.i64 i), (62, AV.hc 3 0 (xs.length + 1) c),
                          (61, AV.hw 1), (0, AV.hc 3 0 (xs.length + 1) c),
                          (60, AV.hc 3 0 (xs.length + 1) c),
                          (59, AV.int IntKind.i64 (IntKind.i64.wrap ((↑xs.length : Int) + (1 : Int)))),
                          (58, AV.int IntKind.i64 (1 : Int)), (57, AV.int IntKind.i64 (↑xs.length : Int)),
                          (56, AV.hc 0 0 xs.length c),
                          (31, AV.bool (decide (IntKind.i64.wrap ((↑xs.length : Int) + (1 : Int)) > (↑c : Int)))),
                          (30, AV.int IntKind.i64 (↑c : Int)), (29, AV.hc 0 0 xs.length c),
                          (28, AV.int IntKind.i64 (IntKind.i64.wrap ((↑xs.length : Int) + (1 : Int)))),
                          (27, AV.int IntKind.i64 (1 : Int)), (26, AV.int IntKind.i64 (↑xs.length : Int)),
                          (22, AV.bool (i == (↑xs.length : Int))), (21, AV.int IntKind.i64 (↑xs.length : Int)),
                          (20, AV.int IntKind.i64 i), (8, AV.int IntKind.i64 (↑xs.length : Int)),
                          (19, AV.int IntKind.i64 (↑xs.length : Int)), (18, AV.hc 0 0 xs.length c),
                          (16, AV.bool false), (15, AV.int IntKind.i64 (1 : Int)), (7, AV.int IntKind.i64 (1 : Int)),
                          (14, AV.int IntKind.i64 (1 : Int)), (13, AV.hw 1),
                          (12, AV.hc 0 i.toNat (xs.length - i.toNat) (cutCap c (some i.toNat))), (11, AV.int IntKind.i64 i),
                          (10, AV.hc 0 0 xs.length c), (6, AV.hw 2),
                          (0, AV.hc 0 0 xs.length c), (1, AV.int IntKind.i64 i), (2, AV.hw 1)],
                      objs :=
                        [(4,
                            AObj.arr 3 ((Ty.int IntKind.i64).pair ((Ty.int IntKind.i64).pair (Ty.int IntKind.i64)))
                              (List.take i.toNat
                                      (List.take xs.length
                                        (List.take (IntKind.i64.wrap (i + (1 : Int))).toNat xs ++
                                          List.take (xs.length + 1 - (IntKind.i64.wrap (i + (1 : Int))).toNat) (List.drop i.toNat xs))) ++
                                    [r] ++
                                  List.drop (i.toNat + 1)
                                    (List.take xs.length
                                      (List.take (IntKind.i64.wrap (i + (1 : Int))).toNat xs ++
                                        List.take (xs.length + 1 - (IntKind.i64.wrap (i + (1 : Int))).toNat) (List.drop i.toNat xs))) ++
                                [(List.take (IntKind.i64.wrap (i + (1 : Int))).toNat xs ++
                                        List.take (xs.length + 1 - (IntKind.i64.wrap (i + (1 : Int))).toNat) (List.drop i.toNat xs)).getD
                                    xs.length ((Ty.int IntKind.i64).pair ((Ty.int IntKind.i64).pair (Ty.int IntKind.i64))).zero])
                              []),
                          (3, AObj.dead),
                          (3,
                            AObj.arr 3 ((Ty.int IntKind.i64).pair ((Ty.int IntKind.i64).pair (Ty.int IntKind.i64)))
                              (List.take i.toNat
                                    (List.take xs.length
                                      (List.take (IntKind.i64.wrap (i + (1 : Int))).toNat xs ++
                                        List.take (xs.length + 1 - (IntKind.i64.wrap (i + (1 : Int))).toNat) (List.drop i.toNat xs))) ++
                                  [r] ++
                                List.drop (i.toNat + 1)
                                  (List.take xs.length
                                    (List.take (IntKind.i64.wrap (i + (1 : Int))).toNat xs ++
                                      List.take (xs.length + 1 - (IntKind.i64.wrap (i + (1 : Int))).toNat) (List.drop i.toNat xs))))
                              [[AV.int IntKind.i64
                                    ((List.take (IntKind.i64.wrap (i + (1 : Int))).toNat xs ++
                                            List.take (xs.length + 1 - (IntKind.i64.wrap (i + (1 : Int))).toNat) (List.drop i.toNat xs)).getD
                                        xs.length ((Ty.int IntKind.i64).pair ((Ty.int IntKind.i64).pair (Ty.int IntKind.i64))).zero).fst,
                                  AV.int IntKind.i64
                                    ((List.take (IntKind.i64.wrap (i + (1 : Int))).toNat xs ++
                                              List.take (xs.length + 1 - (IntKind.i64.wrap (i + (1 : Int))).toNat) (List.drop i.toNat xs)).getD
                                          xs.length ((Ty.int IntKind.i64).pair ((Ty.int IntKind.i64).pair (Ty.int IntKind.i64))).zero).snd.fst,
                                  AV.int IntKind.i64
                                    ((List.take (IntKind.i64.wrap (i + (1 : Int))).toNat xs ++
                                              List.take (xs.length + 1 - (IntKind.i64.wrap (i + (1 : Int))).toNat) (List.drop i.toNat xs)).getD
                                          xs.length ((Ty.int IntKind.i64).pair ((Ty.int IntKind.i64).pair (Ty.int IntKind.i64))).zero).snd.snd]]),
                          (3,
                            AObj.arr 3 ((Ty.int IntKind.i64).pair ((Ty.int IntKind.i64).pair (Ty.int IntKind.i64)))
                              (List.take xs.length
                                (List.take (IntKind.i64.wrap (i + (1 : Int))).toNat xs ++
                                  List.take (xs.length + 1 - (IntKind.i64.wrap (i + (1 : Int))).toNat) (List.drop i.toNat xs)))
                              [[AV.int IntKind.i64
                                    ((List.take (IntKind.i64.wrap (i + (1 : Int))).toNat xs ++
                                            List.take (xs.length + 1 - (IntKind.i64.wrap (i + (1 : Int))).toNat) (List.drop i.toNat xs)).getD
                                        xs.length ((Ty.int IntKind.i64).pair ((Ty.int IntKind.i64).pair (Ty.int IntKind.i64))).zero).fst,
                                  AV.int IntKind.i64
                                    ((List.take (IntKind.i64.wrap (i + (1 : Int))).toNat xs ++
                                              List.take (xs.length + 1 - (IntKind.i64.wrap (i + (1 : Int))).toNat) (List.drop i.toNat xs)).getD
                                          xs.length ((Ty.int IntKind.i64).pair ((Ty.int IntKind.i64).pair (Ty.int IntKind.i64))).zero).snd.fst,
                                  AV.int IntKind.i64
                                    ((List.take (IntKind.i64.wrap (i + (1 : Int))).toNat xs ++
                                              List.take (xs.length + 1 - (IntKind.i64.wrap (i + (1 : Int))).toNat) (List.drop i.toNat xs)).getD
                                          xs.length ((Ty.int IntKind.i64).pair ((Ty.int IntKind.i64).pair (Ty.int IntKind.i64))).zero).snd.snd]]),
                          (3,
                            AObj.arr 3 ((Ty.int IntKind.i64).pair ((Ty.int IntKind.i64).pair (Ty.int IntKind.i64))) xs
                              [[AV.undef, AV.undef, AV.undef]]),
                          (0, AObj.dead),
                          (2, AObj.arr 3 ((Ty.int IntKind.i64).pair ((Ty.int IntKind.i64).pair (Ty.int IntKind.i64))) [] []),
                          (0, AObj.arr 3 ((Ty.int IntKind.i64).pair ((Ty.int IntKind.i64).pair (Ty.int IntKind.i64))) xs []),
                          (1,
                            AObj.arr 3 Ty.bool [] [[AV.int IntKind.i64 r.fst, AV.int IntKind.i64 r.snd.fst, AV.int IntKind.i64 r.snd.snd]])],
                      nx := 5 }
                else none
              else none
            else none
          else none
        else none
      else none
    else none
  else none := by kernel_rfl

end Go.Sim
namespace Go.Sim
set_option linter.unusedSimpArgs false
set_option linter.unusedVariables false
set_option maxRecDepth 10000
def insR3 (xs : List Row3) (i : Int) (r : Row3) (c : Nat) : St := { slots := [(6, AV.hw 4), (83, AV.hw 3), (82, AV.int IntKind.i64 (1 : Int)), (81, AV.hw 1), (80, AV.hc 3 i.toNat (xs.length + 1 - i.toNat) (cutCap c (some i.toNat))), (79, AV.int IntKind.i64 i), (78, AV.hc 3 0 (xs.length + 1) c), (77, AV.int IntKind.i64 (↑(xs.length + 1 - (IntKind.i64.wrap (i + (1 : Int))).toNat) : Int)), (76, AV.hc 3 i.toNat (xs.length + 1 - i.toNat) (cutCap c (some i.toNat))), (75, AV.int IntKind.i64 i), (74, AV.hc 3 0 (xs.length + 1) c), (73, AV.hc 3 (IntKind.i64.wrap (i + (1 : Int))).toNat (xs.length + 1 - (IntKind.i64.wrap (i + (1 : Int))).toNat) (cutCap c (some (IntKind.i64.wrap (i + (1 : Int))).toNat))), (72, AV.int IntKind.i64 (IntKind.i64.wrap (i + (1 : Int)))), (71, AV.int IntKind.i64 (1 : Int)), (70, AV.int IntKind.i64 i), (69, AV.hc 3 0 (xs.length + 1) c), (68, AV.bool true), (67, AV.bool false), (66, AV.hc 3 (IntKind.i64.wrap (i + (1 : Int))).toNat (xs.length + 1 - (IntKind.i64.wrap (i + (1 : Int))).toNat) (cutCap c (some (IntKind.i64.wrap (i + (1 : Int))).toNat))), (65, AV.int IntKind.i64 (IntKind.i64.wrap (i + (1 : Int)))), (64, AV.int IntKind.i64 (1 : Int)), (63, AV.int IntKind.i64 i), (62, AV.hc 3 0 (xs.length + 1) c), (61, AV.hw 1), (0, AV.hc 3 0 (xs.length + 1) c), (60, AV.hc 3 0 (xs.length + 1) c), (59, AV.int IntKind.i64 (IntKind.i64.wrap ((↑xs.length : Int) + (1 : Int)))), (58, AV.int IntKind.i64 (1 : Int)), (57, AV.int IntKind.i64 (↑xs.length : Int)), (56, AV.hc 0 0 xs.length c), (31, AV.bool (decide (IntKind.i64.wrap ((↑xs.length : Int) + (1 : Int)) > (↑c : Int)))), (30, AV.int IntKind.i64 (↑c : Int)), (29, AV.hc 0 0 xs.length c), (28, AV.int IntKind.i64 (IntKind.i64.wrap ((↑xs.length : Int) + (1 : Int)))), (27, AV.int IntKind.i64 (1 : Int)), (26, AV.int IntKind.i64 (↑xs.length : Int)), (22, AV.bool (i == (↑xs.length : Int))), (21, AV.int IntKind.i64 (↑xs.length : Int)), (20, AV.int IntKind.i64 i), (8, AV.int IntKind.i64 (↑xs.length : Int)), (19, AV.int IntKind.i64 (↑xs.length : Int)), (18, AV.hc 0 0 xs.length c), (16, AV.bool false), (15, AV.int IntKind.i64 (1 : Int)), (7, AV.int IntKind.i64 (1 : Int)), (14, AV.int IntKind.i64 (1 : Int)), (13, AV.hw 1), (12, AV.hc 0 i.toNat (xs.length - i.toNat) (cutCap c (some i.toNat))), (11, AV.int IntKind.i64 i), (10, AV.hc 0 0 xs.length c), (6, AV.hw 2), (0, AV.hc 0 0 xs.length c), (1, AV.int IntKind.i64 i), (2, AV.hw 1)], objs := [(4, AObj.arr 3 ((Ty.int IntKind.i64).pair ((Ty.int IntKind.i64).pair (Ty.int IntKind.i64))) (List.take i.toNat (List.take xs.length (List.take (IntKind.i64.wrap (i + (1 : Int))).toNat xs ++ List.take (xs.length + 1 - (IntKind.i64.wrap (i + (1 : Int))).toNat) (List.drop i.toNat xs))) ++ [r] ++ List.drop (i.toNat + 1) (List.take xs.length (List.take (IntKind.i64.wrap (i + (1 : Int))).toNat xs ++ List.take (xs.length + 1 - (IntKind.i64.wrap (i + (1 : Int))).toNat) (List.drop i.toNat xs))) ++ [(List.take (IntKind.i64.wrap (i + (1 : Int))).toNat xs ++ List.take (xs.length + 1 - (IntKind.i64.wrap (i + (1 : Int))).toNat) (List.drop i.toNat xs)).getD xs.length ((Ty.int IntKind.i64).pair ((Ty.int IntKind.i64).pair (Ty.int IntKind.i64))).zero]) []), (3, AObj.dead), (3, AObj.arr 3 ((Ty.int IntKind.i64).pair ((Ty.int IntKind.i64).pair (Ty.int IntKind.i64))) (List.take i.toNat (List.take xs.length (List.take (IntKind.i64.wrap (i + (1 : Int))).toNat xs ++ List.take (xs.length + 1 - (IntKind.i64.wrap (i + (1 : Int))).toNat) (List.drop i.toNat xs))) ++ [r] ++ List.drop (i.toNat + 1) (List.take xs.length (List.take (IntKind.i64.wrap (i + (1 : Int))).toNat xs ++ List.take (xs.length + 1 - (IntKind.i64.wrap (i + (1 : Int))).toNat) (List.drop i.toNat xs)))) [[AV.int IntKind.i64 ((List.take (IntKind.i64.wrap (i + (1 : Int))).toNat xs ++ List.take (xs.length + 1 - (IntKind.i64.wrap (i + (1 : Int))).toNat) (List.drop i.toNat xs)).getD xs.length ((Ty.int IntKind.i64).pair ((Ty.int IntKind.i64).pair (Ty.int IntKind.i64))).zero).fst, AV.int IntKind.i64 ((List.take (IntKind.i64.wrap (i + (1 : Int))).toNat xs ++ List.take (xs.length + 1 - (IntKind.i64.wrap (i + (1 : Int))).toNat) (List.drop i.toNat xs)).getD xs.length ((Ty.int IntKind.i64).pair ((Ty.int IntKind.i64).pair (Ty.int IntKind.i64))).zero).snd.fst, AV.int IntKind.i64 ((List.take (IntKind.i64.wrap (i + (1 : Int))).toNat xs ++ List.take (xs.length + 1 - (IntKind.i64.wrap (i + (1 : Int))).toNat) (List.drop i.toNat xs)).getD xs.length ((Ty.int IntKind.i64).pair ((Ty.int IntKind.i64).pair (Ty.int IntKind.i64))).zero).snd.snd]]), (3, AObj.arr 3 ((Ty.int IntKind.i64).pair ((Ty.int IntKind.i64).pair (Ty.int IntKind.i64))) (List.take xs.length (List.take (IntKind.i64.wrap (i + (1 : Int))).toNat xs ++ List.take (xs.length + 1 - (IntKind.i64.wrap (i + (1 : Int))).toNat) (List.drop i.toNat xs))) [[AV.int IntKind.i64 ((List.take (IntKind.i64.wrap (i + (1 : Int))).toNat xs ++ List.take (xs.length + 1 - (IntKind.i64.wrap (i + (1 : Int))).toNat) (List.drop i.toNat xs)).getD xs.length ((Ty.int IntKind.i64).pair ((Ty.int IntKind.i64).pair (Ty.int IntKind.i64))).zero).fst, AV.int IntKind.i64 ((List.take (IntKind.i64.wrap (i + (1 : Int))).toNat xs ++ List.take (xs.length + 1 - (IntKind.i64.wrap (i + (1 : Int))).toNat) (List.drop i.toNat xs)).getD xs.length ((Ty.int IntKind.i64).pair ((Ty.int IntKind.i64).pair (Ty.int IntKind.i64))).zero).snd.fst, AV.int IntKind.i64 ((List.take (IntKind.i64.wrap (i + (1 : Int))).toNat xs ++ List.take (xs.length + 1 - (IntKind.i64.wrap (i + (1 : Int))).toNat) (List.drop i.toNat xs)).getD xs.length ((Ty.int IntKind.i64).pair ((Ty.int IntKind.i64).pair (Ty.int IntKind.i64))).zero).snd.snd]]), (3, AObj.arr 3 ((Ty.int IntKind.i64).pair ((Ty.int IntKind.i64).pair (Ty.int IntKind.i64))) xs [[AV.undef, AV.undef, AV.undef]]), (0, AObj.dead), (2, AObj.arr 3 ((Ty.int IntKind.i64).pair ((Ty.int IntKind.i64).pair (Ty.int IntKind.i64))) [] []), (0, AObj.arr 3 ((Ty.int IntKind.i64).pair ((Ty.int IntKind.i64).pair (Ty.int IntKind.i64))) xs []), (1, AObj.arr 3 Ty.bool [] [[AV.int IntKind.i64 r.fst, AV.int IntKind.i64 r.snd.fst, AV.int IntKind.i64 r.snd.snd]])], nx := 5 }
abbrev insOut : List OPat := [.dead, .box 3 [[.int .i64, .int .i64, .int .i64]], .arr 3 rowT []]
noncomputable def insFin (e : Ex) (s : St) : Option ((Pat.lit (.hw 2)).den × opatsDen insOut) := match e with
  | .exit _ => none
  | _ => (resultsOf (env consA3) s F.slices_Insert_dedup_Row_dedup_Row.results.toList).bind fun vs => finV (.lit (.hw 2)) insOut 2 (oneOr vs) s
theorem fin1_ev (xs : List Row3) (i : Int) (r : Row3) (c : Nat) : insFin .ret (insR1 xs i r c) = some ((), (), ((r.fst, r.snd.fst, r.snd.snd, ()), ()), (List.take xs.length xs ++ [r], ()), ()) := by kernel_rfl

theorem fin2_ev (xs : List Row3) (i : Int) (r : Row3) (c : Nat) : insFin .ret (insR2 xs i r c) = some ((), (), ((r.fst, r.snd.fst, r.snd.snd, ()), ()), (List.take (IntKind.i64.wrap (i + (1 : Int))).toNat (List.take i.toNat (List.take i.toNat xs ++ List.replicate (IntKind.i64.wrap (IntKind.i64.wrap ((↑xs.length : Int) + (1 : Int)) - i)).toNat ((Ty.int IntKind.i64).pair ((Ty.int IntKind.i64).pair (Ty.int IntKind.i64))).zero) ++ [r] ++ List.drop (i.toNat + 1) (List.take i.toNat xs ++ List.replicate (IntKind.i64.wrap (IntKind.i64.wrap ((↑xs.length : Int) + (1 : Int)) - i)).toNat ((Ty.int IntKind.i64).pair ((Ty.int IntKind.i64).pair (Ty.int IntKind.i64))).zero)) ++ List.drop i.toNat xs ++ List.drop ((IntKind.i64.wrap (i + (1 : Int))).toNat + (List.drop i.toNat xs).length) (List.take i.toNat (List.take i.toNat xs ++ List.replicate (IntKind.i64.wrap (IntKind.i64.wrap ((↑xs.length : Int) + (1 : Int)) - i)).toNat ((Ty.int IntKind.i64).pair ((Ty.int IntKind.i64).pair (Ty.int IntKind.i64))).zero) ++ [r] ++ List.drop (i.toNat + 1) (List.take i.toNat xs ++ List.replicate (IntKind.i64.wrap (IntKind.i64.wrap ((↑xs.length : Int) + (1 : Int)) - i)).toNat ((Ty.int IntKind.i64).pair ((Ty.int IntKind.i64).pair (Ty.int IntKind.i64))).zero)), ()), ()) := by kernel_rfl

theorem fin3_ev (xs : List Row3) (i : Int) (r : Row3) (c : Nat) : insFin .ret (insR3 xs i r c) = some ((), (), ((r.fst, r.snd.fst, r.snd.snd, ()), ()), (List.take i.toNat (List.take xs.length (List.take (IntKind.i64.wrap (i + (1 : Int))).toNat xs ++ List.take (xs.length + 1 - (IntKind.i64.wrap (i + (1 : Int))).toNat) (List.drop i.toNat xs))) ++ [r] ++ List.drop (i.toNat + 1) (List.take xs.length (List.take (IntKind.i64.wrap (i + (1 : Int))).toNat xs ++ List.take (xs.length + 1 - (IntKind.i64.wrap (i + (1 : Int))).toNat) (List.drop i.toNat xs))) ++ [(List.take (IntKind.i64.wrap (i + (1 : Int))).toNat xs ++ List.take (xs.length + 1 - (IntKind.i64.wrap (i + (1 : Int))).toNat) (List.drop i.toNat xs)).getD xs.length ((Ty.int IntKind.i64).pair ((Ty.int IntKind.i64).pair (Ty.int IntKind.i64))).zero], ()), ()) := by kernel_rfl

theorem cond_t {α : Type _} {b : Bool} {x y : α} (h : b = true) : cond b x y = x := by rw [h]; rfl
theorem cond_f {α : Type _} {b : Bool} {x y : α} (h : b = false) : cond b x y = y := by rw [h]; rfl
theorem suf_skip : ∀ m, sufC m .skip = .skip
  | 0 => rfl
  | _ + 1 => rfl
theorem suf_suf : ∀ (n m : Nat) (c : Code), sufC m (sufC n c) = sufC (n + m) c
  | 0, m, c => by rw [Nat.zero_add]; rfl
  | n + 1, m, c => by
    rw [show n + 1 + m = (n + m) + 1 by omega]
    cases c <;> first | exact suf_suf n m _ | exact suf_skip m
theorem ins_grow (xs : List Row3) (z r : Row3) (k : Nat) (hk : k ≤ xs.length) : List.take (k + 1) (List.take k (List.take k xs ++ List.replicate (xs.length + 1 - k) z) ++ [r] ++ List.drop (k + 1) (List.take k xs ++ List.replicate (xs.length + 1 - k) z)) ++ List.drop k xs ++
    List.drop (k + 1 + (List.drop k xs).length) (List.take k (List.take k xs ++ List.replicate (xs.length + 1 - k) z) ++ [r] ++ List.drop (k + 1) (List.take k xs ++ List.replicate (xs.length + 1 - k) z)) = putAt xs k k r := by
  have hl : (List.take k xs).length = k := by simp; omega
  have e1 : List.take k (List.take k xs ++ List.replicate (xs.length + 1 - k) z) = List.take k xs := by
    rw [List.take_append_of_le_length (by omega), List.take_take, Nat.min_self]
  have e2 : List.drop (k + 1) (List.take k xs ++ List.replicate (xs.length + 1 - k) z) = List.replicate (xs.length - k) z := by
    rw [List.drop_append, List.drop_of_length_le (by omega), hl, Nat.add_sub_cancel_left, List.drop_replicate, List.nil_append]
    congr 1
    omega
  rw [e1, e2]
  have hl1 : (List.take k xs ++ [r]).length = k + 1 := by rw [List.length_append, hl]; rfl
  have e3 : List.take (k + 1) (List.take k xs ++ [r] ++ List.replicate (xs.length - k) z) = List.take k xs ++ [r] := by
    rw [List.take_append_of_le_length (by omega), List.take_of_length_le (by omega)]
  have e4 : List.drop (k + 1 + (List.drop k xs).length) (List.take k xs ++ [r] ++ List.replicate (xs.length - k) z) = [] :=
    List.drop_of_length_le (by rw [List.length_append, hl1, List.length_replicate, List.length_drop]; omega)
  rw [e3, e4]
  unfold putAt
  simp
theorem ins_move (xs : List Row3) (z r : Row3) (k : Nat) (hk : k < xs.length) : List.take k (List.take xs.length (List.take (k + 1) xs ++ List.take (xs.length + 1 - (k + 1)) (List.drop k xs))) ++ [r] ++
    List.drop (k + 1) (List.take xs.length (List.take (k + 1) xs ++ List.take (xs.length + 1 - (k + 1)) (List.drop k xs))) ++ [(List.take (k + 1) xs ++ List.take (xs.length + 1 - (k + 1)) (List.drop k xs)).getD xs.length z] = putAt xs k k r := by
  have eA : List.take (xs.length + 1 - (k + 1)) (List.drop k xs) = List.drop k xs := List.take_of_length_le (by simp only [List.length_drop]; omega)
  rw [eA]
  have hl : (List.take (k + 1) xs).length = k + 1 := by simp; omega
  obtain ⟨A, hA⟩ : ∃ A, A = List.take (k + 1) xs ++ List.drop k xs := ⟨_, rfl⟩
  have hAl : A.length = xs.length + 1 := by rw [hA, List.length_append, hl, List.length_drop]; omega
  rw [← hA]
  have h1 : List.take k (List.take xs.length A) = List.take k xs := by
    rw [List.take_take, Nat.min_eq_left (by omega), hA, List.take_append_of_le_length (by omega), List.take_take, Nat.min_eq_left (by omega)]
  have h2 : List.take xs.length A ++ [A.getD xs.length z] = A := by
    have hget : A.getD xs.length z = A[xs.length]'(by omega) := by rw [List.getD_eq_getElem?_getD, List.getElem?_eq_getElem (by omega)]; rfl
    rw [hget, List.take_append_getElem, List.take_of_length_le (by omega)]
  have h3 : List.drop (k + 1) (List.take xs.length A) ++ [A.getD xs.length z] = List.drop k xs := by
    have : List.drop (k + 1) (List.take xs.length A ++ [A.getD xs.length z]) = List.drop (k + 1) (List.take xs.length A) ++ [A.getD xs.length z] := List.drop_append_of_le_length (by rw [List.length_take, hAl]; omega)
    rw [← this, h2, hA, List.drop_append, hl, Nat.sub_self, List.drop_of_length_le (by omega)]
    simp
  rw [h1, List.append_assoc, List.append_assoc, h3]
  unfold putAt
  simp
theorem mv_len (A : List Row3) (r : Row3) (n k : Nat) (hA : A.length = n + 1) (hk : k < n) : (List.take k (List.take n A) ++ [r] ++ List.drop (k + 1) (List.take n A)).length = n := by
  simp only [List.length_append, List.length_take, List.length_drop, List.length_cons, List.length_nil, hA]
  omega
theorem ins_val (xs : List Row3) (r : Row3) (c k : Nat) (hk : k ≤ xs.length) (hn : xs.length ≤ 1000000) (hc : xs.length ≤ c) (hM : c ≤ maxL) :
    evFn (env consA3) H.ins2 (LPof []) F.slices_Insert_dedup_Row_dedup_Row [.hc 0 0 xs.length c, .int .i64 (k : Int), .hw 1] [.arr 3 rowT xs [], insObj r] (finV (.lit (.hw 2)) insOut 2) = some ((), (), ((r.1, r.2.1, r.2.2, ()), ()), (putAt xs k k r, ()), ()) := by
  have h0 : evFn (env consA3) H.ins2 (LPof []) F.slices_Insert_dedup_Row_dedup_Row [.hc 0 0 xs.length c, .int .i64 (k : Int), .hw 1] [.arr 3 rowT xs [], insObj r] (finV (.lit (.hw 2)) insOut 2) =
    ev (env consA3) H.ins2 2 (LPof []) B.slices_Insert_dedup_Row_dedup_Row (initSt [.hc 0 0 xs.length c, .int .i64 (k : Int), .hw 1] [.arr 3 rowT xs [], insObj r]) insFin := by
    unfold evFn
    rw [Bd.slices_Insert_dedup_Row_dedup_Row]
    rfl
  have w1 : IntKind.i64.wrap ((xs.length : Int) + 1) = (xs.length : Int) + 1 := wrap64 (by omega) (by omega)
  have w2 : IntKind.i64.wrap ((xs.length : Int) + 1 - (k : Int)) = (xs.length : Int) + 1 - (k : Int) := wrap64 (by omega) (by omega)
  have w3 : IntKind.i64.wrap ((k : Int) + 1) = (k : Int) + 1 := wrap64 (by omega) (by omega)
  have t1 : ((xs.length : Int) + 1 - (k : Int)).toNat = xs.length + 1 - k := by omega
  have t2 : ((k : Int) + 1).toNat = k + 1 := by omega
  rw [h0, ev_cut (by rfl) 7, ins1_ev]
  rw [cond_pos2 (by omega) (by omega)]
  by_cases he : k = xs.length
  · subst he
    rw [show (((xs.length : Int) == (xs.length : Int))) = true by simp, cond_true, cond_pos (by simp; omega)]
    refine (fin1_ev xs (xs.length : Int) r c).trans ?_
    congr 1
    unfold putAt
    simp
  · have hne : ((k : Int) == (xs.length : Int)) = false := by simp; omega
    rw [cond_f hne]
    by_cases hg : xs.length + 1 > c
    · have hl0 : (List.take k xs ++ List.replicate (xs.length + 1 - k) rowT.zero).length = xs.length + 1 := by simp only [List.length_append, List.length_take, List.length_replicate]; omega
      have hd : (List.drop k xs).length = xs.length - k := List.length_drop
      have hl1 : (List.take k (List.take k xs ++ List.replicate (xs.length + 1 - k) rowT.zero) ++ [r] ++ List.drop (k + 1) (List.take k xs ++ List.replicate (xs.length + 1 - k) rowT.zero)).length = xs.length + 1 := by
        rw [List.length_append, List.length_append, List.length_take, List.length_drop, hl0]
        simp only [List.length_cons, List.length_nil]
        omega
      rw [cond_t (by first | (simp only [w1, w2, w3, t1, t2, Int.toNat_natCast, hl0, hl1, hd, decide_true, Bool.and_true, Bool.true_and, Bool.and_eq_true, decide_eq_true_eq]; done) | (simp only [w1, w2, w3, t1, t2, Int.toNat_natCast, hl0, hl1, hd, decide_true, Bool.and_true, Bool.true_and, Bool.and_eq_true, decide_eq_true_eq]; omega)), cond_t (by first | (simp only [w1, w2, w3, t1, t2, Int.toNat_natCast, hl0, hl1, hd, decide_true, Bool.and_true, Bool.true_and, Bool.and_eq_true, decide_eq_true_eq]; done) | (simp only [w1, w2, w3, t1, t2, Int.toNat_natCast, hl0, hl1, hd, decide_true, Bool.and_true, Bool.true_and, Bool.and_eq_true, decide_eq_true_eq]; omega)), cond_t (by first | (simp only [w1, w2, w3, t1, t2, Int.toNat_natCast, hl0, hl1, hd, decide_true, Bool.and_true, Bool.true_and, Bool.and_eq_true, decide_eq_true_eq]; done) | (simp only [w1, w2, w3, t1, t2, Int.toNat_natCast, hl0, hl1, hd, decide_true, Bool.and_true, Bool.true_and, Bool.and_eq_true, decide_eq_true_eq]; omega)), cond_t (by first | (simp only [w1, w2, w3, t1, t2, Int.toNat_natCast, hl0, hl1, hd, decide_true, Bool.and_true, Bool.true_and, Bool.and_eq_true, decide_eq_true_eq]; done) | (simp only [w1, w2, w3, t1, t2, Int.toNat_natCast, hl0, hl1, hd, decide_true, Bool.and_true, Bool.true_and, Bool.and_eq_true, decide_eq_true_eq]; omega)), cond_t (by first | (simp only [w1, w2, w3, t1, t2, Int.toNat_natCast, hl0, hl1, hd, decide_true, Bool.and_true, Bool.true_and, Bool.and_eq_true, decide_eq_true_eq]; done) | (simp only [w1, w2, w3, t1, t2, Int.toNat_natCast, hl0, hl1, hd, decide_true, Bool.and_true, Bool.true_and, Bool.and_eq_true, decide_eq_true_eq]; omega)), cond_t (by first | (simp only [w1, w2, w3, t1, t2, Int.toNat_natCast, hl0, hl1, hd, decide_true, Bool.and_true, Bool.true_and, Bool.and_eq_true, decide_eq_true_eq]; done) | (simp only [w1, w2, w3, t1, t2, Int.toNat_natCast, hl0, hl1, hd, decide_true, Bool.and_true, Bool.true_and, Bool.and_eq_true, decide_eq_true_eq]; omega)), cond_t (by first | (simp only [w1, w2, w3, t1, t2, Int.toNat_natCast, hl0, hl1, hd, decide_true, Bool.and_true, Bool.true_and, Bool.and_eq_true, decide_eq_true_eq]; done) | (simp only [w1, w2, w3, t1, t2, Int.toNat_natCast, hl0, hl1, hd, decide_true, Bool.and_true, Bool.true_and, Bool.and_eq_true, decide_eq_true_eq]; omega)), cond_t (by first | (simp only [w1, w2, w3, t1, t2, Int.toNat_natCast, hl0, hl1, hd, decide_true, Bool.and_true, Bool.true_and, Bool.and_eq_true, decide_eq_true_eq]; done) | (simp only [w1, w2, w3, t1, t2, Int.toNat_natCast, hl0, hl1, hd, decide_true, Bool.and_true, Bool.true_and, Bool.and_eq_true, decide_eq_true_eq]; omega)), cond_t (by first | (simp only [w1, w2, w3, t1, t2, Int.toNat_natCast, hl0, hl1, hd, decide_true, Bool.and_true, Bool.true_and, Bool.and_eq_true, decide_eq_true_eq]; done) | (simp only [w1, w2, w3, t1, t2, Int.toNat_natCast, hl0, hl1, hd, decide_true, Bool.and_true, Bool.true_and, Bool.and_eq_true, decide_eq_true_eq]; omega))]
      refine (fin2_ev xs (k : Int) r c).trans ?_
      simp only [w1, w2, w3, t1, t2, Int.toNat_natCast]
      rw [ins_grow xs _ r k hk]
    · have hA : List.take (xs.length + 1 - (k + 1)) (List.drop k xs) = List.drop k xs := List.take_of_length_le (by simp only [List.length_drop]; omega)
      have hA2 : (List.take xs.length (List.take (k + 1) xs ++ List.drop k xs)).length = xs.length := by simp only [List.length_take, List.length_append, List.length_drop]; omega
      have hA3 : True := trivial
      rw [cond_f (by simp only [w1, decide_eq_false_iff_not]; omega)]
      show ev (env consA3) H.ins2 2 (LPof []) (sufC 7 B.slices_Insert_dedup_Row_dedup_Row) (insN xs (k : Int) r c) insFin = _
      rw [ev_cut (by rfl) 1, ins2_ev, cond_f (by simp only [w1, Bool.and_eq_false_iff, decide_eq_false_iff_not]; omega), cond_t (by first | (simp only [w1, w3, t2, Int.toNat_natCast, hA, hA2, hA3, cutCap, decide_true, Bool.and_true, Bool.true_and, Bool.and_eq_true, decide_eq_true_eq]; done) | (simp only [w1, w3, t2, Int.toNat_natCast, hA, hA2, hA3, cutCap, decide_true, Bool.and_true, Bool.true_and, Bool.and_eq_true, decide_eq_true_eq]; omega))]
      rw [suf_suf]
      show ev (env consA3) H.ins2 2 (LPof []) (sufC 8 B.slices_Insert_dedup_Row_dedup_Row) (insM xs (k : Int) r c) insFin = _
      rw [ins3_ev, cond_t (by first | (simp only [w1, w3, t2, Int.toNat_natCast, hA, hA2, hA3, cutCap, decide_true, Bool.and_true, Bool.true_and, Bool.and_eq_true, decide_eq_true_eq]; done) | (simp only [w1, w3, t2, Int.toNat_natCast, hA, hA2, hA3, cutCap, decide_true, Bool.and_true, Bool.true_and, Bool.and_eq_true, decide_eq_true_eq]; omega)), cond_t (by first | (simp only [w1, w3, t2, Int.toNat_natCast, hA, hA2, hA3, cutCap, decide_true, Bool.and_true, Bool.true_and, Bool.and_eq_true, decide_eq_true_eq]; done) | (simp only [w1, w3, t2, Int.toNat_natCast, hA, hA2, hA3, cutCap, decide_true, Bool.and_true, Bool.true_and, Bool.and_eq_true, decide_eq_true_eq]; omega)), cond_t (by first | (simp only [w1, w3, t2, Int.toNat_natCast, hA, hA2, hA3, cutCap, decide_true, Bool.and_true, Bool.true_and, Bool.and_eq_true, decide_eq_true_eq]; done) | (simp only [w1, w3, t2, Int.toNat_natCast, hA, hA2, hA3, cutCap, decide_true, Bool.and_true, Bool.true_and, Bool.and_eq_true, decide_eq_true_eq]; omega)), cond_t (by first | (simp only [w1, w3, t2, Int.toNat_natCast, hA, hA2, hA3, cutCap, decide_true, Bool.and_true, Bool.true_and, Bool.and_eq_true, decide_eq_true_eq]; done) | (simp only [w1, w3, t2, Int.toNat_natCast, hA, hA2, hA3, cutCap, decide_true, Bool.and_true, Bool.true_and, Bool.and_eq_true, decide_eq_true_eq]; omega)), cond_t (by first | (simp only [w1, w3, t2, Int.toNat_natCast, hA, hA2, hA3, cutCap, decide_true, Bool.and_true, Bool.true_and, Bool.and_eq_true, decide_eq_true_eq]; done) | (simp only [w1, w3, t2, Int.toNat_natCast, hA, hA2, hA3, cutCap, decide_true, Bool.and_true, Bool.true_and, Bool.and_eq_true, decide_eq_true_eq]; omega)), cond_t (by first | (simp only [w1, w3, t2, Int.toNat_natCast, hA, hA2, hA3, cutCap, decide_true, Bool.and_true, Bool.true_and, Bool.and_eq_true, decide_eq_true_eq]; done) | (simp only [w1, w3, t2, Int.toNat_natCast, hA, hA2, hA3, cutCap, decide_true, Bool.and_true, Bool.true_and, Bool.and_eq_true, decide_eq_true_eq]; omega)), cond_t (by first | (simp only [w1, w3, t2, Int.toNat_natCast, hA, hA2, hA3, cutCap, decide_true, Bool.and_true, Bool.true_and, Bool.and_eq_true, decide_eq_true_eq]; done) | (simp only [w1, w3, t2, Int.toNat_natCast, hA, hA2, hA3, cutCap, decide_true, Bool.and_true, Bool.true_and, Bool.and_eq_true, decide_eq_true_eq]; omega))]
      rw [cond_t (by
        rw [Bool.and_eq_true]
        refine ⟨?_, decide_eq_true (by omega)⟩
        rw [decide_eq_true_eq]
        have hml := mv_len (List.take (k + 1) xs ++ List.drop k xs) r xs.length k (by simp only [List.length_append, List.length_take, List.length_drop]; omega) (by omega)
        rw [w3, t2, Int.toNat_natCast, hA]
        split
        · rename_i h
          rw [h] at hml
          simp only [List.length_nil] at hml
          omega
        · rw [hml]; rfl)]
      refine (fin3_ev xs (k : Int) r c).trans ?_
      simp only [w3, t2, Int.toNat_natCast]
      rw [ins_move xs _ r k (by omega)]
end Go.Sim
namespace Go.Sim
set_option linter.unusedSimpArgs false
set_option linter.unusedVariables false
set_option maxRecDepth 10000
theorem row36 : P0.underlying 36 = some (.slice 65) := by kernel_rfl
theorem size65 (w : World) : (Go.sizeOf 65).run P0 w = .ok 3 w := by
  have h : (P0.info? 65).map (fun x => x.size) = some 3 := by kernel_rfl
  obtain ⟨i0, hi0, h1⟩ := Option.map_eq_some_iff.1 h
  simp [sizeOf, typeInfo, hi0, h1]
theorem apart28 : ApartOK P0 28 := fun w a b la ca lb cb tA tB kA kB h1 h2 h3 h4 h5 h6 => by
  rw [run_callFunc_extern (P := P0) (f := 28) (fn := Proofs.Try.f28) Proofs.Try.func28 (by kernel_rfl) (by kernel_rfl) (by kernel_rfl) (e := Extern.SlicesOverlaps.overlaps #[36, 36] #[4]) (by kernel_rfl),
    Lib.run_overlaps_apart w 36 4 65 row36 3 size65 a b la ca lb cb h1 tA tB kA kB h2 h3 h4 h5 h6]
  rfl
theorem consA3_ok : ∀ x ∈ consA3, HoldsC P0 x.1 x.2 := by
  intro x hx
  simp at hx
  subst hx
  exact apart28
def caseIns : VCase := ⟨[.lit (.hw 0), .int .i64, .lit (.hw 1)], [.arr 3 rowT [], .box 3 [[.int .i64, .int .i64, .int .i64]]], .lit (.hw 2), insOut,
  fun ⟨_, i, _⟩ ⟨⟨xs, _⟩, ⟨⟨a, b, c, _⟩, _⟩, _⟩ => [(decide (0 ≤ i) && decide (i ≤ (List.length xs : Int)) && decide (List.length xs ≤ 1000000), ((), ((), ((a, b, c, ()), ()), (putAt xs i.toNat i.toNat (a, b, c), ()), ())))]⟩
theorem ins_ok : caseIns.e.ok P0 I.slices_Insert_dedup_Row_dedup_Row := fun ⟨_, i, _, _⟩ ⟨⟨xs, _⟩, ⟨⟨a, b, c, _⟩, _⟩, _⟩ r objs' hxy hw1 hw2 => by
  obtain ⟨z, hz, e0⟩ := pick_mapAlt hxy
  cases e0
  obtain ⟨hc, rfl⟩ := pick_pre hz
  simp only [Bool.and_eq_true, decide_eq_true_eq] at hc
  obtain ⟨k, rfl⟩ := Int.eq_ofNat_of_zero_le hc.1.1
  refine EffGood.of_cap (n := I.slices_Insert_dedup_Row_dedup_Row) (t := rowT) (xs := xs) fun cp h1 h2 => ?_
  exact eff_of_ev (H := H.ins2) (E := env consA3) (env_ok consA3_ok) glob0 mixed0 G.slices_Insert_dedup_Row_dedup_Row Bd.slices_Insert_dedup_Row_dedup_Row (by kernel_rfl) noLoops (out := .lit (.hw 2)) (outs := insOut) (ins_val xs (a, b, c) cp k (Int.ofNat_le.1 hc.1.2) hc.2 h1 h2)
def caseFind1 : PCase := ⟨[.ty rowT, .ty (.int .i64)], [.int .i64], fun x => (fun (r : Row3) (p : Int) => [(true, (cmpI r.1 p, ()))]) x.1 x.2.1⟩
theorem find1_val (r : Row3) (p : Int) : evFn (env consA2) H.dedup_Table_find_1 (LPof []) F.dedup_Table_find_1 [valOf rowT r, .int .i64 p] [] (finT [.int .i64]) = some (cmpI r.1 p, ()) := by
  rw [find1_ev]
theorem find1_ok : caseFind1.ok P0 I.dedup_Table_find_1 := case_ok2 (H := H.dedup_Table_find_1) (E := env consA2) (env_ok consA2_ok) glob0 mixed0 G.dedup_Table_find_1 Bd.dedup_Table_find_1 (by kernel_rfl) noLoops fun ⟨r, p, ()⟩ y h hw => by
  obtain ⟨hc, rfl⟩ := pick_pre h
  exact find1_val r p
noncomputable abbrev consA4 : List (FuncId × Con) := [(I.dedup_Table_find_1, .pure (pureOf [caseFind1]))]
theorem consA4_ok : ∀ x ∈ consA4, HoldsC P0 x.1 x.2 := by
  intro x hx
  simp at hx
  subst hx
  exact ⟨pureOf_holds (by simp; exact find1_ok), C.dedup_Table_find_1⟩
theorem bs_rd {R : Type} (xs : List Row3) (p n i j : Int) (K : Ex → St → Option R) : roundK (env consA4) H.slices_BinarySearchFunc_dedup_Row_dedup_Row_int 1 (LPof []) V.slices_BinarySearchFunc_dedup_Row_dedup_Row_int_3 L.slices_BinarySearchFunc_dedup_Row_dedup_Row_int_3 ⟨[(0, .hw 0), (1, .int .i64 p), (2, .fn (.func I.dedup_Table_find_1) [] []), (8, .int .i64 n), (9, .int .i64 i), (10, .int .i64 j)], [(0, .arr 3 rowT xs [])], 1⟩ K = bif decide (i < j) then bif decide ((0 : Int) ≤ IntKind.i64.wrap ((IntKind.u64.wrap (IntKind.i64.wrap (i + j))).fdiv (2 : Int))) && decide (IntKind.i64.wrap ((IntKind.u64.wrap (IntKind.i64.wrap (i + j))).fdiv (2 : Int)) < (↑xs.length : Int)) then bif decide (cmpI (xs.getD (IntKind.i64.wrap ((IntKind.u64.wrap (IntKind.i64.wrap (i + j))).fdiv (2 : Int))).toNat rowT.zero).fst p < (0 : Int)) then K Ex.normal { slots := [(0, AV.hw 0), (1, AV.int IntKind.i64 p), (2, AV.fn (Fn.func 26) [] []), (8, AV.int IntKind.i64 n), (9, AV.int IntKind.i64 (IntKind.i64.wrap (IntKind.i64.wrap ((IntKind.u64.wrap (IntKind.i64.wrap (i + j))).fdiv (2 : Int)) + (1 : Int)))), (10, AV.int IntKind.i64 j)], objs := [(0, AObj.arr 3 ((Ty.int IntKind.i64).pair ((Ty.int IntKind.i64).pair (Ty.int IntKind.i64))) xs [])], nx := 1 } else K Ex.normal { slots := [(0, AV.hw 0), (1, AV.int IntKind.i64 p), (2, AV.fn (Fn.func 26) [] []), (8, AV.int IntKind.i64 n), (9, AV.int IntKind.i64 i), (10, AV.int IntKind.i64 (IntKind.i64.wrap ((IntKind.u64.wrap (IntKind.i64.wrap (i + j))).fdiv (2 : Int))))], objs := [(0, AObj.arr 3 ((Ty.int IntKind.i64).pair ((Ty.int IntKind.i64).pair (Ty.int IntKind.i64))) xs [])], nx := 1 } else none else K (Ex.exit 0) { slots := [(0, AV.hw 0), (1, AV.int IntKind.i64 p), (2, AV.fn (Fn.func 26) [] []), (8, AV.int IntKind.i64 n), (9, AV.int IntKind.i64 i), (10, AV.int IntKind.i64 j)], objs := [(0, AObj.arr 3 ((Ty.int IntKind.i64).pair ((Ty.int IntKind.i64).pair (Ty.int IntKind.i64))) xs [])], nx := 1 } := by kernel_rfl

def bsSt (xs : List Row3) (p : Int) (i j : Nat) : St := ⟨[(0, .hw 0), (1, .int .i64 p), (2, .fn (.func I.dedup_Table_find_1) [] []), (8, .int .i64 xs.length), (9, .int .i64 i), (10, .int .i64 j)], [(0, .arr 3 rowT xs [])], 1⟩
theorem cmp_lt (a b : Int) : decide (cmpI a b < 0) = decide (a < b) := by
  unfold cmpI
  by_cases h : a < b
  · simp [h]
  · by_cases g : a > b <;> simp [h, g]
theorem cmp_eq (a b : Int) : (cmpI a b == 0) = (a == b) := by
  unfold cmpI
  by_cases h : a < b
  · have : ¬ a = b := by omega
    simp [h, this]
  · by_cases g : a > b
    · have : ¬ a = b := by omega
      simp [h, g, this]
    · have : a = b := by omega
      simp [h, g, this]
theorem bs_rounds {R : Type} (xs : List Row3) (p : Int) (hs : sortedL xs = true) (hn : xs.length ≤ 1000000) (K : Ex → St → Option R) : ∀ (d i j : Nat), j - i ≤ d → i ≤ j → j ≤ xs.length → (∀ a, a < i → (atL xs a).1 < p) → (∀ a, j ≤ a → a < xs.length → p ≤ (atL xs a).1) →
    ∃ m, rounds (env consA4) H.slices_BinarySearchFunc_dedup_Row_dedup_Row_int 1 (LPof []) V.slices_BinarySearchFunc_dedup_Row_dedup_Row_int_3 L.slices_BinarySearchFunc_dedup_Row_dedup_Row_int_3 m (bsSt xs p i j) K = K (.exit 0) (bsSt xs p (posL xs p) (posL xs p)) := by
  intro d
  induction d with
  | zero =>
    intro i j hd hij hj h1 h2
    obtain rfl : i = j := by omega
    have hp := pos_eq hj h1 (fun h => h2 i (Nat.le_refl _) h)
    refine ⟨1, ?_⟩
    rw [rounds_succ']
    refine (bs_rd _ _ _ _ _ _).trans ?_
    rw [cond_neg (by omega), hp]
    rfl
  | succ d ih =>
    intro i j hd hij hj h1 h2
    by_cases hlt : i < j
    · have e1 : IntKind.i64.wrap ((i : Int) + (j : Int)) = (i : Int) + (j : Int) := wrap64 (by omega) (by omega)
      have e2 : IntKind.u64.wrap ((i : Int) + (j : Int)) = (i : Int) + (j : Int) := wrapu64 (by omega) (by omega)
      have e3 : ((i : Int) + (j : Int)).fdiv 2 = (((i + j) / 2 : Nat) : Int) := by rw [Int.fdiv_eq_ediv_of_nonneg _ (by omega)]; omega
      have e4 : IntKind.i64.wrap ((((i + j) / 2 : Nat)) : Int) = (((i + j) / 2 : Nat) : Int) := wrap64 (by omega) (by omega)
      have e5 : IntKind.i64.wrap ((((i + j) / 2 : Nat) : Int) + 1) = (((i + j) / 2 + 1 : Nat) : Int) := by rw [wrap64 (by omega) (by omega)]; omega
      by_cases hc : (atL xs ((i + j) / 2)).1 < p
      · obtain ⟨m, hm⟩ := ih ((i + j) / 2 + 1) j (by omega) (by omega) hj (fun a ha => by
          rcases Nat.lt_or_ge a ((i + j) / 2) with h | h
          · have := sorted_lt hs h (by omega); omega
          · have : a = (i + j) / 2 := by omega
            subst this; exact hc) h2
        refine ⟨m + 1, ?_⟩
        rw [rounds_succ']
        refine (bs_rd _ _ _ _ _ _).trans ?_
        rw [cond_pos (by omega), e1, e2, e3, e4, cond_pos2 (by omega) (by omega), Int.toNat_natCast, cmp_lt, cond_pos (show (xs.getD ((i + j) / 2) rowT.zero).1 < p from hc), e5]
        exact hm
      · obtain ⟨m, hm⟩ := ih i ((i + j) / 2) (by omega) (by omega) (by omega) h1 (fun a ha hx => by
          rcases Nat.lt_or_ge ((i + j) / 2) a with h | h
          · have := sorted_lt hs h hx; omega
          · have : a = (i + j) / 2 := by omega
            subst this; omega)
        refine ⟨m + 1, ?_⟩
        rw [rounds_succ']
        refine (bs_rd _ _ _ _ _ _).trans ?_
        rw [cond_pos (by omega), e1, e2, e3, e4, cond_pos2 (by omega) (by omega), Int.toNat_natCast, cmp_lt, cond_neg (show ¬ (xs.getD ((i + j) / 2) rowT.zero).1 < p from hc)]
        exact hm
    · obtain ⟨m, hm⟩ := ih i j (by omega) hij hj h1 h2
      exact ⟨m, hm⟩
abbrev bsLC : LoopC := LoopC.of ⟨[(0, .lit (.hw 0)), (1, .int .i64), (2, .fn I.dedup_Table_find_1 []), (8, .int .i64), (9, .int .i64), (10, .int .i64)], [.arr 3 rowT []]⟩
    (fun x => decide (x.1.2.2.2.1 = (List.length x.2.1.1 : Int)) && decide (x.1.2.2.2.2.1 = 0) && decide (x.1.2.2.2.2.2.1 = (List.length x.2.1.1 : Int)) && sortedL x.2.1.1 && decide (List.length x.2.1.1 ≤ 1000000))
    fun x => [(true, .exit 0, bsSt x.2.1.1 x.1.2.1 (posL x.2.1.1 x.1.2.1) (posL x.2.1.1 x.1.2.1))]
theorem bs_lok : LoopOK P0 H.slices_BinarySearchFunc_dedup_Row_dedup_Row_int 1 L.slices_BinarySearchFunc_dedup_Row_dedup_Row_int_3 bsLC :=
  loop_ok_of (env_ok consA4_ok) glob0 mixed0 noLoops V.slices_BinarySearchFunc_dedup_Row_dedup_Row_int_3 (by decide) fun ⟨⟨_, p, _, n, i, j, _⟩, ⟨xs, _⟩, _⟩ h hw => by
    simp only [Bool.and_eq_true, decide_eq_true_eq] at h
    obtain ⟨⟨⟨⟨rfl, rfl⟩, rfl⟩, h4⟩, h5⟩ := h
    exact bs_rounds xs p h4 h5 _ (List.length xs) 0 (List.length xs) (by omega) (by omega) (Nat.le_refl _) (fun a ha => absurd ha (Nat.not_lt_zero _)) (fun a h1 h2 => absurd h2 (Nat.not_lt.2 h1))
theorem bs_ev (xs : List Row3) (p : Int) : evFn (env consA4) H.slices_BinarySearchFunc_dedup_Row_dedup_Row_int (LPof [(3, bsLC)]) F.slices_BinarySearchFunc_dedup_Row_dedup_Row_int [.hw 0, .int .i64 p, .fn (.func I.dedup_Table_find_1) [] []] [.arr 3 rowT xs []] (finV (.tup [.int .i64, .bool]) [.arr 3 rowT []] 1) = bif decide ((↑xs.length : Int) = (↑xs.length : Int)) && true && decide ((↑xs.length : Int) = (↑xs.length : Int)) && sortedL xs && decide (xs.length ≤ 1000000) && true then bif decide ((↑(posL xs p) : Int) < (↑xs.length : Int)) then bif decide ((0 : Int) ≤ (↑(posL xs p) : Int)) && decide ((↑(posL xs p) : Int) < (↑xs.length : Int)) then some (((↑(posL xs p) : Int), cmpI (xs.getD (posL xs p) rowT.zero).fst p == (0 : Int), ()), (xs, ()), ()) else none else some (((↑(posL xs p) : Int), false, ()), (xs, ()), ()) else none := by kernel_rfl

def caseBs : VCase := ⟨[.lit (.hw 0), .int .i64, .fn I.dedup_Table_find_1 []], [.arr 3 rowT []], .tup [.int .i64, .bool], [.arr 3 rowT []], fun ⟨_, p, _, ()⟩ ⟨⟨xs, ()⟩, ()⟩ => [(sortedL xs && decide (List.length xs ≤ 1000000), ((((posL xs p : Nat) : Int), hasL xs p, ()), ((xs, ()), ())))]⟩
theorem bs_val (xs : List Row3) (p : Int) (hc : (sortedL xs && decide (List.length xs ≤ 1000000)) = true) : evFn (env consA4) H.slices_BinarySearchFunc_dedup_Row_dedup_Row_int (LPof [(3, bsLC)]) F.slices_BinarySearchFunc_dedup_Row_dedup_Row_int [.hw 0, .int .i64 p, .fn (.func I.dedup_Table_find_1) [] []] [.arr 3 rowT xs []] (finV (.tup [.int .i64, .bool]) [.arr 3 rowT []] 1) = some ((((posL xs p : Nat) : Int), hasL xs p, ()), ((xs, ()), ())) := by
  simp only [Bool.and_eq_true, decide_eq_true_eq] at hc
  rw [bs_ev, hc.1, decide_eq_true hc.2, decide_eq_true rfl]
  simp only [Bool.and_self, cond_true]
  unfold hasL
  by_cases h : posL xs p < xs.length
  · rw [cond_pos (by omega), cond_pos2 (by omega) (by omega), decide_eq_true h, cmp_eq, Bool.true_and]
    rfl
  · rw [cond_neg (by omega), decide_eq_false h, Bool.false_and]
theorem bs_ok : caseBs.e.ok P0 I.slices_BinarySearchFunc_dedup_Row_dedup_Row_int := vcase_ok (c := caseBs) (H := H.slices_BinarySearchFunc_dedup_Row_dedup_Row_int) (E := env consA4) (env_ok consA4_ok) glob0 mixed0 G.slices_BinarySearchFunc_dedup_Row_dedup_Row_int Bd.slices_BinarySearchFunc_dedup_Row_dedup_Row_int (by kernel_rfl) (loops_good (tab := [(3, bsLC)]) (by kernel_rfl) (fun x hx => by simp at hx; subst hx; exact bs_lok)) fun ⟨_, p, _, ()⟩ ⟨⟨xs, ()⟩, ()⟩ r h hw1 hw2 => by
  obtain ⟨hc, rfl⟩ := pick_pre h
  exact bs_val xs p hc
theorem bs0_ev (p : Int) : evFn (env consA4) H.slices_BinarySearchFunc_dedup_Row_dedup_Row_int (loopsF (env consA4) H.slices_BinarySearchFunc_dedup_Row_dedup_Row_int 0 B.slices_BinarySearchFunc_dedup_Row_dedup_Row_int 3) F.slices_BinarySearchFunc_dedup_Row_dedup_Row_int [.nils, .int .i64 p, .fn (.func I.dedup_Table_find_1) [] []] [] (finV (.tup [.int .i64, .bool]) [] 0) = some (((0 : Int), false, ()), ()) := by kernel_rfl

theorem ins0_ev (r : Row3) : evFn (env consA3) H.ins2 (LPof []) F.slices_Insert_dedup_Row_dedup_Row [.nils, .int .i64 0, .hw 0] [insObj r] (finV (.lit (.hw 1)) [.box 3 [[.int .i64, .int .i64, .int .i64]], .arr 3 rowT []] 1) = some ((), ((r.fst, r.snd.fst, r.snd.snd, ()), ()), ([r], ()), ()) := by kernel_rfl

def caseBs0 : VCase := ⟨[.lit .nils, .int .i64, .fn I.dedup_Table_find_1 []], [], .tup [.int .i64, .bool], [], fun ⟨_, p, _, ()⟩ () => [(true, (((0 : Int), false, ()), ()))]⟩
theorem bs0_val (p : Int) : evFn (env consA4) H.slices_BinarySearchFunc_dedup_Row_dedup_Row_int (loopsF (env consA4) H.slices_BinarySearchFunc_dedup_Row_dedup_Row_int 0 B.slices_BinarySearchFunc_dedup_Row_dedup_Row_int 3) F.slices_BinarySearchFunc_dedup_Row_dedup_Row_int [.nils, .int .i64 p, .fn (.func I.dedup_Table_find_1) [] []] [] (finV (.tup [.int .i64, .bool]) [] 0) = some (((0 : Int), false, ()), ()) := by
  exact bs0_ev p
theorem bs0_ok : caseBs0.e.ok P0 I.slices_BinarySearchFunc_dedup_Row_dedup_Row_int := vcase_ok (c := caseBs0) (H := H.slices_BinarySearchFunc_dedup_Row_dedup_Row_int) (E := env consA4) (env_ok consA4_ok) glob0 mixed0 G.slices_BinarySearchFunc_dedup_Row_dedup_Row_int Bd.slices_BinarySearchFunc_dedup_Row_dedup_Row_int (by kernel_rfl) (loopsF_good (env_ok consA4_ok) glob0 mixed0 (by kernel_rfl) 3) fun ⟨_, p, _, ()⟩ () r h hw1 hw2 => by
  obtain ⟨hc, rfl⟩ := pick_pre h
  exact bs0_val p
def caseIns0 : VCase := ⟨[.lit .nils, .lit (.int .i64 0), .lit (.hw 0)], [.box 3 [[.int .i64, .int .i64, .int .i64]]], .lit (.hw 1), [.box 3 [[.int .i64, .int .i64, .int .i64]], .arr 3 rowT []],
  fun _ ⟨⟨⟨a, b, c, _⟩, _⟩, _⟩ => [(true, ((), (((a, b, c, ()), ()), ([(a, b, c)], ()), ())))]⟩
theorem ins0_ok : caseIns0.e.ok P0 I.slices_Insert_dedup_Row_dedup_Row := vcase_ok (c := caseIns0) (H := H.ins2) (E := env consA3) (env_ok consA3_ok) glob0 mixed0 G.slices_Insert_dedup_Row_dedup_Row Bd.slices_Insert_dedup_Row_dedup_Row (by kernel_rfl) noLoops fun _ ⟨⟨⟨a, b, c, _⟩, _⟩, _⟩ r h hw1 hw2 => by
  obtain ⟨hc, rfl⟩ := pick_pre h
  exact ins0_ev (a, b, c)
noncomputable abbrev consB1 : List (FuncId × Con) := [(I.slices_BinarySearchFunc_dedup_Row_dedup_Row_int, .eff (effOf [caseBs.e, caseBs0.e])), (I.slices_Insert_dedup_Row_dedup_Row, .eff (effOf [caseIns.e, caseIns0.e]))]
theorem consB1_ok : ∀ x ∈ consB1, HoldsC P0 x.1 x.2 := by
  intro x hx
  simp at hx
  rcases hx with rfl | rfl
  · exact ⟨fun args objs r objs2 h _ => effOf_holds (by simp; exact ⟨bs_ok, bs0_ok⟩) args objs r objs2 h, C.slices_BinarySearchFunc_dedup_Row_dedup_Row_int⟩
  · exact ⟨fun args objs r objs2 h _ => effOf_holds (by simp; exact ⟨ins_ok, ins0_ok⟩) args objs r objs2 h, C.slices_Insert_dedup_Row_dedup_Row⟩
noncomputable abbrev consB2 : List (FuncId × Con) := [(I.dedup_Table_find, inl (env consB1) H.dedup_Table_find F.dedup_Table_find (fun R k0 => loopsF (env consB1) H.dedup_Table_find k0 B.dedup_Table_find 1))] ++ consB1
theorem consB2_ok : ∀ x ∈ consB2, HoldsC P0 x.1 x.2 := by
  intro x hx
  rcases List.mem_append.1 hx with hx | hx
  · simp at hx
    subst hx
    exact inl_ok (env_ok consB1_ok) glob0 mixed0 G.dedup_Table_find Bd.dedup_Table_find C.dedup_Table_find (fun R k0 => loopsF_good (env_ok consB1_ok) glob0 mixed0 (by kernel_rfl) 1)
  · exact consB1_ok x hx
end Go.Sim
namespace Go.Sim
set_option linter.unusedSimpArgs false
set_option linter.unusedVariables false
set_option maxRecDepth 10000
def H.set2 : Hint := { H.dedup_Table_Set with vs := [] }
theorem ask_ev (xs : List Row3) (p s : Int) : evFn (env consB2) H.dedup_Table_Ask (LPof []) F.dedup_Table_Ask [.ptr 0 (.tl 0) 0, .int .i64 p, .int .i64 s] [.arr 1 .bool [] [[.hw 1]], .arr 3 rowT xs []] (finV (.tup [.int .i64, .int .i64]) [.box 1 [[.lit (.hw 1)]], .arr 3 rowT []] 2) = bif sortedL xs && decide (xs.length ≤ 1000000) then Option.bind (bif !hasL xs p then some (s == (0 : Int)) else some false) fun v => bif v then some (((0 : Int), (0 : Int), ()), (((), ()), ()), (xs, ()), ()) else bif !hasL xs p then some (((2 : Int), (0 : Int), ()), (((), ()), ()), (xs, ()), ()) else bif decide ((0 : Int) ≤ (↑(posL xs p) : Int)) && decide ((↑(posL xs p) : Int) < (↑xs.length : Int)) then bif (xs.getD (posL xs p) rowT.zero).snd.fst == s then bif decide ((0 : Int) ≤ (↑(posL xs p) : Int)) && decide ((↑(posL xs p) : Int) < (↑xs.length : Int)) then some (((1 : Int), (xs.getD (posL xs p) rowT.zero).snd.snd, ()), (((), ()), ()), (xs, ()), ()) else none else Option.bind (bif decide ((0 : Int) ≤ (↑(posL xs p) : Int)) && decide ((↑(posL xs p) : Int) < (↑xs.length : Int)) then bif decide ((xs.getD (posL xs p) rowT.zero).snd.fst < s) then bif decide ((0 : Int) ≤ (↑(posL xs p) : Int)) && decide ((↑(posL xs p) : Int) < (↑xs.length : Int)) then some (IntKind.i64.wrap ((xs.getD (posL xs p) rowT.zero).snd.fst + (1 : Int)) == s) else none else some false else none) fun v => bif v then some (((0 : Int), (0 : Int), ()), (((), ()), ()), (xs, ()), ()) else some (((2 : Int), (0 : Int), ()), (((), ()), ()), (xs, ()), ()) else none else none := by kernel_rfl

theorem ask0_ev (p s : Int) : evFn (env consB2) H.dedup_Table_Ask (LPof []) F.dedup_Table_Ask [.ptr 0 (.tl 0) 0, .int .i64 p, .int .i64 s] [.arr 1 .bool [] [[.nils]]] (finV (.tup [.int .i64, .int .i64]) [.box 1 [[.lit .nils]]] 1) = bif s == (0 : Int) then some (((0 : Int), (0 : Int), ()), (((), ()), ()), ()) else some (((2 : Int), (0 : Int), ()), (((), ()), ()), ()) := by kernel_rfl

theorem seto_ev (xs : List Row3) (p s o : Int) : evFn (env consB2) H.set2 (LPof []) F.dedup_Table_Set [.ptr 0 (.tl 0) 0, .int .i64 p, .int .i64 s, .int .i64 o] [.arr 1 .bool [] [[.hw 1]], .arr 3 rowT xs []] (finV (.int .i64) [.box 1 [[.lit (.hw 1)]], .arr 3 rowT []] 2) = bif sortedL xs && decide (xs.length ≤ 1000000) then bif hasL xs p then bif decide ((0 : Int) ≤ (↑(posL xs p) : Int)) && decide ((↑(posL xs p) : Int) < (↑xs.length : Int)) then some ((0 : Int), (((), ()), ()), (xs.set (posL xs p) (p, s, o), ()), ()) else none else bif decide ((↑xs.length : Int) ≥ (100 : Int)) then some ((7 : Int), (((), ()), ()), (xs, ()), ()) else bif decide ((0 : (Pat.int IntKind.i64).den) ≤ (↑(posL xs p) : Int)) && decide ((↑(posL xs p) : Int) ≤ (↑xs.length : Int)) && decide (xs.length ≤ 1000000) then none else none else none := by kernel_rfl

theorem setn_ev (xs : List Row3) (p s o : Int) : evFn (env consB2) H.set2 (LPof []) F.dedup_Table_Set [.ptr 0 (.tl 0) 0, .int .i64 p, .int .i64 s, .int .i64 o] [.arr 1 .bool [] [[.hw 1]], .arr 3 rowT xs []] (finV (.int .i64) [.box 1 [[.lit (.hw 2)]], .dead, .arr 3 rowT []] 2) = bif sortedL xs && decide (xs.length ≤ 1000000) then bif hasL xs p then bif decide ((0 : Int) ≤ (↑(posL xs p) : Int)) && decide ((↑(posL xs p) : Int) < (↑xs.length : Int)) then none else none else bif decide ((↑xs.length : Int) ≥ (100 : Int)) then none else bif decide ((0 : (Pat.int IntKind.i64).den) ≤ (↑(posL xs p) : Int)) && decide ((↑(posL xs p) : Int) ≤ (↑xs.length : Int)) && decide (xs.length ≤ 1000000) then some ((0 : Int), (((), ()), ()), (), (putAt xs (posL xs p) (posL xs p) (p, s, o), ()), ()) else none else none := by kernel_rfl

theorem set0_ev (p s o : Int) : evFn (env consB2) H.set2 (LPof []) F.dedup_Table_Set [.ptr 0 (.tl 0) 0, .int .i64 p, .int .i64 s, .int .i64 o] [.arr 1 .bool [] [[.nils]]] (finV (.int .i64) [.box 1 [[.lit (.hw 1)]], .arr 3 rowT []] 1) = some ((0 : Int), (((), ()), ()), ([(p, s, o)], ()), ()) := by kernel_rfl

theorem wrap_next {a b : Int} (ha : In .i64 a) (h : a < b) (hb : In .i64 b) : (IntKind.i64.wrap (a + 1) == b) = (a == b - 1) := by
  have h1 := In.i64.1 ha
  have h2 := In.i64.1 hb
  rw [wrap64 (by omega) (by omega)]
  apply Bool.eq_iff_iff.2
  simp only [beq_iff_eq]
  omega
theorem at_in {xs : List Row3} (h : ∀ r ∈ xs, wfT rowT r) {i : Nat} (hi : i < xs.length) : wfT rowT (xs.getD i rowT.zero) := by
  rw [List.getD_eq_getElem?_getD, List.getElem?_eq_getElem hi]
  exact h _ (List.getElem_mem hi)
theorem has_lt {xs : List Row3} {p : Int} (h : hasL xs p = true) : posL xs p < xs.length := by
  unfold hasL at h
  simp only [Bool.and_eq_true, decide_eq_true_eq] at h
  exact h.1
theorem set_putAt (xs : List Row3) (k : Nat) (r : Row3) (h : k < xs.length) : xs.set k r = putAt xs k (k + 1) r := by
  unfold putAt
  rw [List.set_eq_take_append_cons_drop, if_pos h]
def caseAsk : VCase := ⟨[.lit (.ptr 0 (.tl 0) 0), .int .i64, .int .i64], [.box 1 [[.lit (.hw 1)]], .arr 3 rowT []], .tup [.int .i64, .int .i64], [.box 1 [[.lit (.hw 1)]], .arr 3 rowT []], fun ⟨_, p, s, ()⟩ ⟨_, ⟨xs, ()⟩, ()⟩ => [(sortedL xs && decide (List.length xs ≤ 1000000), (((askL xs p s).1, (askL xs p s).2, ()), ((((), ()), ()), (xs, ()), ())))]⟩
theorem ask_val (xs : List Row3) (p s : Int) (hc : (sortedL xs && decide (List.length xs ≤ 1000000)) = true) (hs : In .i64 s) (hx : ∀ r ∈ xs, wfT rowT r) : evFn (env consB2) H.dedup_Table_Ask (LPof []) F.dedup_Table_Ask [.ptr 0 (.tl 0) 0, .int .i64 p, .int .i64 s] [.arr 1 .bool [] [[.hw 1]], .arr 3 rowT xs []] (finV (.tup [.int .i64, .int .i64]) [.box 1 [[.lit (.hw 1)]], .arr 3 rowT []] 2) = some (((askL xs p s).1, (askL xs p s).2, ()), ((((), ()), ()), (xs, ()), ())) := by
  rw [ask_ev, hc, cond_true]
  unfold askL
  cases hh : hasL xs p with
  | false => cases s == 0 <;> rfl
  | true =>
    have hk := has_lt hh
    have hi := at_in hx hk
    simp only [Bool.not_true, cond_false, cond_true, Option.bind_some]
    rw [cond_pos2 (by omega) (by omega)]
    by_cases h1 : (xs.getD (posL xs p) rowT.zero).2.1 = s
    · have e1 : ((xs.getD (posL xs p) rowT.zero).2.1 == s) = true := by simpa using h1
      have e2 : ((atL xs (posL xs p)).2.1 == s) = true := e1
      rw [e1, e2, cond_true, cond_pos2 (by omega) (by omega)]
      rfl
    · have e1 : ((xs.getD (posL xs p) rowT.zero).2.1 == s) = false := by simpa using h1
      have e2 : ((atL xs (posL xs p)).2.1 == s) = false := e1
      rw [e1, e2, cond_false, cond_false, cond_pos2 (by omega) (by omega)]
      by_cases h2 : (xs.getD (posL xs p) rowT.zero).2.1 < s
      · have h2' : (atL xs (posL xs p)).2.1 < s := h2
        rw [cond_pos h2, cond_pos2 (by omega) (by omega), wrap_next hi.2.1 h2 hs, Option.bind_some, decide_eq_true h2', Bool.true_and]
        show (bif (atL xs (posL xs p)).2.1 == s - 1 then _ else _) = _
        cases (atL xs (posL xs p)).2.1 == s - 1 <;> rfl
      · have h2' : ¬ (atL xs (posL xs p)).2.1 < s := h2
        rw [cond_neg h2, decide_eq_false h2']
        rfl
theorem ask_ok : caseAsk.e.ok P0 I.dedup_Table_Ask := vcase_ok (c := caseAsk) (H := H.dedup_Table_Ask) (E := env consB2) (env_ok consB2_ok) glob0 mixed0 G.dedup_Table_Ask Bd.dedup_Table_Ask (by kernel_rfl) noLoops fun ⟨_, p, s, ()⟩ ⟨_, ⟨xs, ()⟩, ()⟩ r h hw1 hw2 => by
  obtain ⟨hc, rfl⟩ := pick_pre h
  exact ask_val xs p s hc hw1.2.2.1 hw2.2.1.1.2
def caseAsk0 : VCase := ⟨[.lit (.ptr 0 (.tl 0) 0), .int .i64, .int .i64], [.box 1 [[.lit .nils]]], .tup [.int .i64, .int .i64], [.box 1 [[.lit .nils]]], fun ⟨_, p, s, ()⟩ _ => [(true, (((askL [] p s).1, (askL [] p s).2, ()), ((((), ()), ()), ())))]⟩
theorem ask0_val (p s : Int) : evFn (env consB2) H.dedup_Table_Ask (LPof []) F.dedup_Table_Ask [.ptr 0 (.tl 0) 0, .int .i64 p, .int .i64 s] [.arr 1 .bool [] [[.nils]]] (finV (.tup [.int .i64, .int .i64]) [.box 1 [[.lit .nils]]] 1) = some (((askL [] p s).1, (askL [] p s).2, ()), ((((), ()), ()), ())) := by
  rw [ask0_ev]
  have : askL [] p s = bif s == 0 then (0, 0) else (2, 0) := rfl
  rw [this]
  cases s == 0 <;> rfl
theorem ask0_ok : caseAsk0.e.ok P0 I.dedup_Table_Ask := vcase_ok (c := caseAsk0) (H := H.dedup_Table_Ask) (E := env consB2) (env_ok consB2_ok) glob0 mixed0 G.dedup_Table_Ask Bd.dedup_Table_Ask (by kernel_rfl) noLoops fun ⟨_, p, s, ()⟩ _ r h hw1 hw2 => by
  obtain ⟨hc, rfl⟩ := pick_pre h
  exact ask0_val p s
def caseSetO : VCase := ⟨[.lit (.ptr 0 (.tl 0) 0), .int .i64, .int .i64, .int .i64], [.box 1 [[.lit (.hw 1)]], .arr 3 rowT []], .int .i64, [.box 1 [[.lit (.hw 1)]], .arr 3 rowT []], fun ⟨_, p, s, o, _⟩ ⟨_, ⟨xs, _⟩, _⟩ =>
  [(sortedL xs && decide (List.length xs ≤ 1000000) && (hasL xs p || decide ((List.length xs : Int) ≥ 100)), ((setL xs (p, s, o)).2, ((((), ()), ()), ((setL xs (p, s, o)).1, ()), ())))]⟩
theorem seto_ok : caseSetO.e.ok P0 I.dedup_Table_Set := vcase_ok (c := caseSetO) (H := H.set2) (E := env consB2) (env_ok consB2_ok) glob0 mixed0 G.dedup_Table_Set Bd.dedup_Table_Set (by kernel_rfl) noLoops fun ⟨_, p, s, o, _⟩ ⟨_, ⟨xs, _⟩, _⟩ r h hw1 hw2 => by
  obtain ⟨hc, rfl⟩ := pick_pre h
  refine (seto_ev xs p s o).trans ?_
  cases h1 : sortedL xs && decide (List.length xs ≤ 1000000) with
  | false => rw [h1] at hc; cases hc
  | true =>
    rw [h1, Bool.true_and] at hc
    unfold setL
    simp only [cond_true]
    cases hh : hasL xs p with
    | true =>
      have hk := has_lt hh
      rw [cond_true, cond_true, cond_pos2 (by omega) (Int.ofNat_lt.2 hk), set_putAt xs _ _ hk]
      rfl
    | false =>
      rw [hh, Bool.false_or] at hc
      rw [cond_false, cond_false, hc]
      rfl
def caseSetN : VCase := ⟨[.lit (.ptr 0 (.tl 0) 0), .int .i64, .int .i64, .int .i64], [.box 1 [[.lit (.hw 1)]], .arr 3 rowT []], .int .i64, [.box 1 [[.lit (.hw 2)]], .dead, .arr 3 rowT []], fun ⟨_, p, s, o, _⟩ ⟨_, ⟨xs, _⟩, _⟩ =>
  [(sortedL xs && decide (List.length xs ≤ 1000000) && !(hasL xs p || decide ((List.length xs : Int) ≥ 100)), ((setL xs (p, s, o)).2, ((((), ()), ()), (), ((setL xs (p, s, o)).1, ()), ())))]⟩
theorem setn_ok : caseSetN.e.ok P0 I.dedup_Table_Set := vcase_ok (c := caseSetN) (H := H.set2) (E := env consB2) (env_ok consB2_ok) glob0 mixed0 G.dedup_Table_Set Bd.dedup_Table_Set (by kernel_rfl) noLoops fun ⟨_, p, s, o, _⟩ ⟨_, ⟨xs, _⟩, _⟩ r h hw1 hw2 => by
  obtain ⟨hc, rfl⟩ := pick_pre h
  refine (setn_ev xs p s o).trans ?_
  cases h1 : sortedL xs && decide (List.length xs ≤ 1000000) with
  | false => rw [h1] at hc; cases hc
  | true =>
    rw [h1, Bool.true_and] at hc
    have h2 : decide (List.length xs ≤ 1000000) = true := (Bool.and_eq_true_iff.1 h1).2
    unfold setL
    simp only [cond_true]
    cases hh : hasL xs p with
    | true => rw [hh, Bool.true_or] at hc; cases hc
    | false =>
      rw [hh, Bool.false_or] at hc
      have hc : decide ((List.length xs : Int) ≥ 100) = false := by simpa using hc
      have hp := pos_le xs p
      rw [cond_false, cond_false, hc, cond_false, h2, Bool.and_true]
      rw [cond_pos2 (Int.natCast_nonneg _) (Int.ofNat_le.2 hp)]
      rfl
def caseSet0 : VCase := ⟨[.lit (.ptr 0 (.tl 0) 0), .int .i64, .int .i64, .int .i64], [.box 1 [[.lit .nils]]], .int .i64, [.box 1 [[.lit (.hw 1)]], .arr 3 rowT []], fun ⟨_, p, s, o, _⟩ _ => [(true, ((0 : Int), ((((), ()), ()), ([(p, s, o)], ()), ())))]⟩
theorem set0_ok : caseSet0.e.ok P0 I.dedup_Table_Set := vcase_ok (c := caseSet0) (H := H.set2) (E := env consB2) (env_ok consB2_ok) glob0 mixed0 G.dedup_Table_Set Bd.dedup_Table_Set (by kernel_rfl) noLoops fun ⟨_, p, s, o, _⟩ _ r h hw1 hw2 => by
  obtain ⟨hc, rfl⟩ := pick_pre h
  exact set0_ev p s o
theorem pick_or {α : Type} {v : α} : ∀ {a b : List (Bool × α)}, pick (a ++ b) = some v → pick a = some v ∨ pick b = some v
  | [], _, h => .inr h
  | (true, u) :: _, _, h => .inl h
  | (false, u) :: a, b, h => pick_or (a := a) h
def caseSetE : ECase := ⟨caseSetO.ins, caseSetO.objs, fun x y => caseSetO.e.f x y ++ caseSetN.e.f x y⟩
theorem set_ok : caseSetE.ok P0 I.dedup_Table_Set := fun x y r objs' h hw1 hw2 => by
  rcases pick_or h with h | h
  · exact seto_ok x y r objs' h hw1 hw2
  · exact setn_ok x y r objs' h hw1 hw2
noncomputable abbrev consB3 : List (FuncId × Con) := [(I.dedup_Table_Ask, .eff (effOf [caseAsk.e, caseAsk0.e])), (I.dedup_Table_Set, .eff (effOf [caseSetE, caseSet0.e]))]
theorem consB3_ok : ∀ x ∈ consB3, HoldsC P0 x.1 x.2 := by
  intro x hx
  simp at hx
  rcases hx with rfl | rfl
  · exact ⟨fun args objs r objs2 h _ => effOf_holds (by simp; exact ⟨ask_ok, ask0_ok⟩) args objs r objs2 h, C.dedup_Table_Ask⟩
  · exact ⟨fun args objs r objs2 h _ => effOf_holds (by simp; exact ⟨set_ok, set0_ok⟩) args objs r objs2 h, C.dedup_Table_Set⟩
theorem dnum_ev (n : Int) : evFn (env []) H.cooperagelaw11_num (LPof []) F.cooperagelaw11_num [.int .i64 n] [] (finT [.int .i64]) = some (n, ()) := by kernel_rfl

def caseDnum : PCase := ⟨[.ty (.int .i64)], [.int .i64], fun x => (fun (n : Int) => [(true, (n, ()))]) x.1⟩
theorem dnum_val (n : Int) : evFn (env []) H.cooperagelaw11_num (LPof []) F.cooperagelaw11_num [.int .i64 n] [] (finT [.int .i64]) = some (n, ()) := by
  rw [dnum_ev]
theorem dnum_ok : caseDnum.ok P0 I.cooperagelaw11_num := case_ok2 (H := H.cooperagelaw11_num) (E := env []) (env_ok env_nil) glob0 mixed0 G.cooperagelaw11_num Bd.cooperagelaw11_num (by kernel_rfl) noLoops fun ⟨n, ()⟩ y h hw => by
  obtain ⟨hc, rfl⟩ := pick_pre h
  exact dnum_val n
noncomputable abbrev consB4 : List (FuncId × Con) := [(I.cooperagelaw11_num, .pure (pureOf [caseDnum]))] ++ consB3
theorem consB4_ok : ∀ x ∈ consB4, HoldsC P0 x.1 x.2 := by
  intro x hx
  rcases List.mem_append.1 hx with hx | hx
  · simp at hx
    subst hx
    exact ⟨pureOf_holds (by simp; exact dnum_ok), C.cooperagelaw11_num⟩
  · exact consB3_ok x hx
theorem dalive_ev : evFn (env consB4) H.cooperagelaw11_alive (LPof []) F.cooperagelaw11_alive [] [] (finT [.bool]) = some (true, ()) := by kernel_rfl

end Go.Sim
namespace Go.Sim
set_option linter.unusedSimpArgs false
set_option linter.unusedVariables false
set_option maxRecDepth 10000
def caseDalive : PCase := ⟨[], [.bool], fun x => [(true, (true, ()))]⟩
theorem dalive_val  : evFn (env consB4) H.cooperagelaw11_alive (LPof []) F.cooperagelaw11_alive [] [] (finT [.bool]) = some (true, ()) := by
  rw [dalive_ev]
theorem dalive_ok : caseDalive.ok P0 I.cooperagelaw11_alive := case_ok2 (H := H.cooperagelaw11_alive) (E := env consB4) (env_ok consB4_ok) glob0 mixed0 G.cooperagelaw11_alive Bd.cooperagelaw11_alive (by kernel_rfl) noLoops fun () y h hw => by
  obtain ⟨hc, rfl⟩ := pick_pre h
  exact dalive_val
noncomputable abbrev consB5 : List (FuncId × Con) := [(I.cooperagelaw11_alive, .pure (pureOf [caseDalive]))] ++ consB4
theorem consB5_ok : ∀ x ∈ consB5, HoldsC P0 x.1 x.2 := by
  intro x hx
  rcases List.mem_append.1 hx with hx | hx
  · simp at hx
    subst hx
    exact ⟨pureOf_holds (by simp; exact dalive_ok), C.cooperagelaw11_alive⟩
  · exact consB4_ok x hx
theorem turn0_rd {R : Type} (p n : Int) (l : List Int) (f : Bool) (i : Int) (K : Ex → St → Option R) : roundK (env consB5) H.cooperagelaw11_DedupTurns 0 (LPof []) V.cooperagelaw11_DedupTurns_6 L.cooperagelaw11_DedupTurns_6 ⟨[(0, .int .i64 p), (1, .int .i64 n), (2, .vl (.int .i64) l), (6, .bool f), (8, .ptr 0 (.tl 0) 0), (9, .int .i64 i)], [(0, .arr 1 .bool [] [[.nils]])], 1⟩ K = bif decide (i ≤ n) then Option.bind (bif (askL [] p i).fst != (0 : Int) then some true else some false) fun v => bif v then K Ex.ret { slots := [(0, AV.int IntKind.i64 p), (1, AV.int IntKind.i64 n), (2, AV.vl (Ty.int IntKind.i64) l), (6, AV.bool false), (8, AV.ptr 0 (Elt.tl 0) 0), (9, AV.int IntKind.i64 i)], objs := [(0, AObj.arr 1 Ty.bool [] [[AV.hw 1]]), (1, AObj.arr 3 ((Ty.int IntKind.i64).pair ((Ty.int IntKind.i64).pair (Ty.int IntKind.i64))) [(p, i, IntKind.i64.wrap ((10 : Int) * i))] [])], nx := 2 } else K Ex.normal { slots := [(0, AV.int IntKind.i64 p), (1, AV.int IntKind.i64 n), (2, AV.vl (Ty.int IntKind.i64) l), (6, AV.bool f), (8, AV.ptr 0 (Elt.tl 0) 0), (9, AV.int IntKind.i64 (IntKind.i64.wrap (i + (1 : Int))))], objs := [(0, AObj.arr 1 Ty.bool [] [[AV.hw 1]]), (1, AObj.arr 3 ((Ty.int IntKind.i64).pair ((Ty.int IntKind.i64).pair (Ty.int IntKind.i64))) [(p, i, IntKind.i64.wrap ((10 : Int) * i))] [])], nx := 2 } else K (Ex.exit 0) { slots := [(0, AV.int IntKind.i64 p), (1, AV.int IntKind.i64 n), (2, AV.vl (Ty.int IntKind.i64) l), (6, AV.bool f), (8, AV.ptr 0 (Elt.tl 0) 0), (9, AV.int IntKind.i64 i)], objs := [(0, AObj.arr 1 Ty.bool [] [[AV.nils]])], nx := 1 } := by kernel_rfl

theorem turn1_rd {R : Type} (p n : Int) (l : List Int) (f : Bool) (i : Int) (xs : List Row3) (K : Ex → St → Option R) : roundK (env consB5) H.cooperagelaw11_DedupTurns 0 (LPof []) V.cooperagelaw11_DedupTurns_6 L.cooperagelaw11_DedupTurns_6 ⟨[(0, .int .i64 p), (1, .int .i64 n), (2, .vl (.int .i64) l), (6, .bool f), (8, .ptr 0 (.tl 0) 0), (9, .int .i64 i)], [(0, .arr 1 .bool [] [[.hw 1]]), (1, .arr 3 rowT xs [])], 2⟩ K = bif decide (i ≤ n) then bif sortedL xs && decide (xs.length ≤ 1000000) then bif sortedL xs && decide (xs.length ≤ 1000000) && (hasL xs p || decide ((↑xs.length : Int) ≥ (100 : Int))) then Option.bind (bif (askL xs p i).fst != (0 : Int) then some true else some ((setL xs (p, i, IntKind.i64.wrap ((10 : Int) * i))).snd != (0 : Int))) fun v => bif v then K Ex.ret { slots := [(0, AV.int IntKind.i64 p), (1, AV.int IntKind.i64 n), (2, AV.vl (Ty.int IntKind.i64) l), (6, AV.bool false), (8, AV.ptr 0 (Elt.tl 0) 0), (9, AV.int IntKind.i64 i)], objs := [(0, AObj.arr 1 Ty.bool [] [[AV.hw 1]]), (1, AObj.arr 3 ((Ty.int IntKind.i64).pair ((Ty.int IntKind.i64).pair (Ty.int IntKind.i64))) (setL xs (p, i, IntKind.i64.wrap ((10 : Int) * i))).fst [])], nx := 2 } else K Ex.normal { slots := [(0, AV.int IntKind.i64 p), (1, AV.int IntKind.i64 n), (2, AV.vl (Ty.int IntKind.i64) l), (6, AV.bool f), (8, AV.ptr 0 (Elt.tl 0) 0), (9, AV.int IntKind.i64 (IntKind.i64.wrap (i + (1 : Int))))], objs := [(0, AObj.arr 1 Ty.bool [] [[AV.hw 1]]), (1, AObj.arr 3 ((Ty.int IntKind.i64).pair ((Ty.int IntKind.i64).pair (Ty.int IntKind.i64))) (setL xs (p, i, IntKind.i64.wrap ((10 : Int) * i))).fst [])], nx := 2 } else bif sortedL xs && decide (xs.length ≤ 1000000) && !(hasL xs p || decide ((↑xs.length : Int) ≥ (100 : Int))) then Option.bind (bif (askL xs p i).fst != (0 : Int) then some true else some ((setL xs (p, i, IntKind.i64.wrap ((10 : Int) * i))).snd != (0 : Int))) fun v => bif v then K Ex.ret { slots := [(0, AV.int IntKind.i64 p), (1, AV.int IntKind.i64 n), (2, AV.vl (Ty.int IntKind.i64) l), (6, AV.bool false), (8, AV.ptr 0 (Elt.tl 0) 0), (9, AV.int IntKind.i64 i)], objs := [(0, AObj.arr 1 Ty.bool [] [[AV.hw 1]]), (1, AObj.arr 3 ((Ty.int IntKind.i64).pair ((Ty.int IntKind.i64).pair (Ty.int IntKind.i64))) (setL xs (p, i, IntKind.i64.wrap ((10 : Int) * i))).fst [])], nx := 2 } else K Ex.normal { slots := [(0, AV.int IntKind.i64 p), (1, AV.int IntKind.i64 n), (2, AV.vl (Ty.int IntKind.i64) l), (6, AV.bool f), (8, AV.ptr 0 (Elt.tl 0) 0), (9, AV.int IntKind.i64 (IntKind.i64.wrap (i + (1 : Int))))], objs := [(0, AObj.arr 1 Ty.bool [] [[AV.hw 1]]), (1, AObj.arr 3 ((Ty.int IntKind.i64).pair ((Ty.int IntKind.i64).pair (Ty.int IntKind.i64))) (setL xs (p, i, IntKind.i64.wrap ((10 : Int) * i))).fst [])], nx := 2 } else none else none else K (Ex.exit 0) { slots := [(0, AV.int IntKind.i64 p), (1, AV.int IntKind.i64 n), (2, AV.vl (Ty.int IntKind.i64) l), (6, AV.bool f), (8, AV.ptr 0 (Elt.tl 0) 0), (9, AV.int IntKind.i64 i)], objs := [(0, AObj.arr 1 Ty.bool [] [[AV.hw 1]]), (1, AObj.arr 3 ((Ty.int IntKind.i64).pair ((Ty.int IntKind.i64).pair (Ty.int IntKind.i64))) xs [])], nx := 2 } := by kernel_rfl

theorem turn2_rd {R : Type} (p n : Int) (l : List Int) (f : Bool) (i : Int) (xs : List Row3) (K : Ex → St → Option R) : roundK (env consB5) H.cooperagelaw11_DedupTurns 0 (LPof []) V.cooperagelaw11_DedupTurns_13 L.cooperagelaw11_DedupTurns_13 ⟨[(0, .int .i64 p), (1, .int .i64 n), (2, .vl (.int .i64) l), (6, .bool f), (8, .ptr 0 (.tl 0) 0), (13, .int .i64 i)], [(0, .arr 1 .bool [] [[.hw 1]]), (1, .arr 3 rowT xs [])], 2⟩ K = bif decide (i < (↑l.length : Int)) then bif decide ((0 : Int) ≤ i) && decide (i < (↑l.length : Int)) then bif sortedL xs && decide (xs.length ≤ 1000000) then bif decide ((0 : Int) ≤ i) && decide (i < (↑l.length : Int)) then bif l.getD i.toNat (0 : Int) == n then Option.bind (bif (askL xs p (l.getD i.toNat (0 : Int))).fst != (1 : Int) then some true else some ((askL xs p (l.getD i.toNat (0 : Int))).snd != IntKind.i64.wrap ((10 : Int) * n))) fun v => bif v then K Ex.ret { slots := [(0, AV.int IntKind.i64 p), (1, AV.int IntKind.i64 n), (2, AV.vl (Ty.int IntKind.i64) l), (6, AV.bool false), (8, AV.ptr 0 (Elt.tl 0) 0), (13, AV.int IntKind.i64 i)], objs := [(0, AObj.arr 1 Ty.bool [] [[AV.hw 1]]), (1, AObj.arr 3 ((Ty.int IntKind.i64).pair ((Ty.int IntKind.i64).pair (Ty.int IntKind.i64))) xs [])], nx := 2 } else K Ex.normal { slots := [(0, AV.int IntKind.i64 p), (1, AV.int IntKind.i64 n), (2, AV.vl (Ty.int IntKind.i64) l), (6, AV.bool f), (8, AV.ptr 0 (Elt.tl 0) 0), (13, AV.int IntKind.i64 (IntKind.i64.wrap (i + (1 : Int))))], objs := [(0, AObj.arr 1 Ty.bool [] [[AV.hw 1]]), (1, AObj.arr 3 ((Ty.int IntKind.i64).pair ((Ty.int IntKind.i64).pair (Ty.int IntKind.i64))) xs [])], nx := 2 } else bif l.getD i.toNat (0 : Int) == IntKind.i64.wrap (n + (1 : Int)) then Option.bind (bif (askL xs p (l.getD i.toNat (0 : Int))).fst != (0 : Int) then some true else some ((askL xs p (l.getD i.toNat (0 : Int))).snd != (0 : Int))) fun v => bif v then K Ex.ret { slots := [(0, AV.int IntKind.i64 p), (1, AV.int IntKind.i64 n), (2, AV.vl (Ty.int IntKind.i64) l), (6, AV.bool false), (8, AV.ptr 0 (Elt.tl 0) 0), (13, AV.int IntKind.i64 i)], objs := [(0, AObj.arr 1 Ty.bool [] [[AV.hw 1]]), (1, AObj.arr 3 ((Ty.int IntKind.i64).pair ((Ty.int IntKind.i64).pair (Ty.int IntKind.i64))) xs [])], nx := 2 } else K Ex.normal { slots := [(0, AV.int IntKind.i64 p), (1, AV.int IntKind.i64 n), (2, AV.vl (Ty.int IntKind.i64) l), (6, AV.bool f), (8, AV.ptr 0 (Elt.tl 0) 0), (13, AV.int IntKind.i64 (IntKind.i64.wrap (i + (1 : Int))))], objs := [(0, AObj.arr 1 Ty.bool [] [[AV.hw 1]]), (1, AObj.arr 3 ((Ty.int IntKind.i64).pair ((Ty.int IntKind.i64).pair (Ty.int IntKind.i64))) xs [])], nx := 2 } else Option.bind (bif (askL xs p (l.getD i.toNat (0 : Int))).fst != (2 : Int) then some true else some ((askL xs p (l.getD i.toNat (0 : Int))).snd != (0 : Int))) fun v => bif v then K Ex.ret { slots := [(0, AV.int IntKind.i64 p), (1, AV.int IntKind.i64 n), (2, AV.vl (Ty.int IntKind.i64) l), (6, AV.bool false), (8, AV.ptr 0 (Elt.tl 0) 0), (13, AV.int IntKind.i64 i)], objs := [(0, AObj.arr 1 Ty.bool [] [[AV.hw 1]]), (1, AObj.arr 3 ((Ty.int IntKind.i64).pair ((Ty.int IntKind.i64).pair (Ty.int IntKind.i64))) xs [])], nx := 2 } else K Ex.normal { slots := [(0, AV.int IntKind.i64 p), (1, AV.int IntKind.i64 n), (2, AV.vl (Ty.int IntKind.i64) l), (6, AV.bool f), (8, AV.ptr 0 (Elt.tl 0) 0), (13, AV.int IntKind.i64 (IntKind.i64.wrap (i + (1 : Int))))], objs := [(0, AObj.arr 1 Ty.bool [] [[AV.hw 1]]), (1, AObj.arr 3 ((Ty.int IntKind.i64).pair ((Ty.int IntKind.i64).pair (Ty.int IntKind.i64))) xs [])], nx := 2 } else none else none else none else K (Ex.exit 2) { slots := [(0, AV.int IntKind.i64 p), (1, AV.int IntKind.i64 n), (2, AV.vl (Ty.int IntKind.i64) l), (6, AV.bool f), (8, AV.ptr 0 (Elt.tl 0) 0), (13, AV.int IntKind.i64 i)], objs := [(0, AObj.arr 1 Ty.bool [] [[AV.hw 1]]), (1, AObj.arr 3 ((Ty.int IntKind.i64).pair ((Ty.int IntKind.i64).pair (Ty.int IntKind.i64))) xs [])], nx := 2 } := by kernel_rfl

theorem one_has (p a b : Int) : hasL [(p, a, b)] p = true := by
  have : posL [(p, a, b)] p = 0 := by simp [posL]
  unfold hasL
  rw [this]
  simp [atL]
theorem one_set (p a b i o : Int) : setL [(p, a, b)] (p, i, o) = ([(p, i, o)], 0) := by
  have h : posL [(p, a, b)] p = 0 := by simp [posL]
  unfold setL
  simp only [one_has, cond_true, h]
  rfl
theorem one_ask (p a b s : Int) : askL [(p, a, b)] p s = bif a == s then (1, b) else bif decide (a < s) && a == s - 1 then (0, 0) else (2, 0) := by
  have h : posL [(p, a, b)] p = 0 := by simp [posL]
  unfold askL
  simp only [one_has, cond_true, h]
  rfl
theorem one_sorted (r : Row3) : sortedL [r] = true := by simp [sortedL]
def tuSt (p n : Int) (l : List Int) (f : Bool) (i : Int) (xs : List Row3) : St := ⟨[(0, .int .i64 p), (1, .int .i64 n), (2, .vl (.int .i64) l), (6, .bool f), (8, .ptr 0 (.tl 0) 0), (9, .int .i64 i)], [(0, .arr 1 .bool [] [[.hw 1]]), (1, .arr 3 rowT xs [])], 2⟩
def tvSt (p n : Int) (l : List Int) (f : Bool) (i : Int) (xs : List Row3) : St := ⟨[(0, .int .i64 p), (1, .int .i64 n), (2, .vl (.int .i64) l), (6, .bool f), (8, .ptr 0 (.tl 0) 0), (13, .int .i64 i)], [(0, .arr 1 .bool [] [[.hw 1]]), (1, .arr 3 rowT xs [])], 2⟩
def tu0St (p n : Int) (l : List Int) (f : Bool) (i : Int) : St := ⟨[(0, .int .i64 p), (1, .int .i64 n), (2, .vl (.int .i64) l), (6, .bool f), (8, .ptr 0 (.tl 0) 0), (9, .int .i64 i)], [(0, .arr 1 .bool [] [[.nils]])], 1⟩
theorem tu_rounds {R : Type} (p : Int) (n : Nat) (hn : n ≤ 40) (l : List Int) (f : Bool) (K : Ex → St → Option R) : ∀ (m k : Nat), k + m = n + 1 → 1 ≤ k → rounds (env consB5) H.cooperagelaw11_DedupTurns 0 (LPof []) V.cooperagelaw11_DedupTurns_6 L.cooperagelaw11_DedupTurns_6 (m + 1) (tuSt p n l f k [(p, (k : Int) - 1, 10 * ((k : Int) - 1))]) K =
    K (.exit 0) (tuSt p n l f ((n : Int) + 1) [(p, n, 10 * n)])
  | 0, k, h, h1 => by
    obtain rfl : k = n + 1 := by omega
    rw [rounds_succ']
    refine (turn1_rd _ _ _ _ _ _ _).trans ?_
    rw [cond_neg (by omega)]
    have e : ((n + 1 : Nat) : Int) - 1 = n := by omega
    rw [e]
    rfl
  | m + 1, k, h, h1 => by
    have ih := tu_rounds p n hn l f K m (k + 1) (by omega) (by omega)
    rw [rounds_succ']
    refine (turn1_rd _ _ _ _ _ _ _).trans ?_
    have e1 : ((k : Int) - 1 == (k : Int)) = false := by simp; omega
    have e2 : decide ((k : Int) - 1 < (k : Int)) = true := by simp; omega
    have e3 : ((k + 1 : Nat) : Int) - 1 = k := by omega
    have e4 : IntKind.i64.wrap (10 * (k : Int)) = 10 * (k : Int) := wrap64 (by omega) (by omega)
    have e5 : IntKind.i64.wrap ((k : Int) + 1) = ((k + 1 : Nat) : Int) := by rw [wrap64 (by omega) (by omega)]; omega
    rw [e3] at ih
    rw [cond_pos (by omega), one_sorted, one_has, one_set, one_ask, e1, e2, e4, e5]
    simp only [List.length_cons, List.length_nil, beq_self_eq_true, Bool.true_and, Bool.true_or, Bool.and_true, cond_true, cond_false]
    rw [cond_t (by simp)]
    simp only [bne_self_eq_false, cond_false, Option.bind_some]
    exact ih
theorem tu_go {R : Type} (p : Int) (n : Nat) (hn : n ≤ 40) (l : List Int) (f : Bool) (K : Ex → St → Option R) : ∃ m, rounds (env consB5) H.cooperagelaw11_DedupTurns 0 (LPof []) V.cooperagelaw11_DedupTurns_6 L.cooperagelaw11_DedupTurns_6 m (tu0St p n l f 0) K = K (.exit 0) (tuSt p n l f ((n : Int) + 1) [(p, n, 10 * n)]) := by
  refine ⟨n + 1 + 1, ?_⟩
  have ih := tu_rounds p n hn l f K n 1 (by omega) (by omega)
  rw [rounds_succ']
  refine (turn0_rd _ _ _ _ _ _).trans ?_
  have e0 : askL [] p 0 = (0, 0) := rfl
  rw [cond_pos (by omega), e0]
  simp only [bne_self_eq_false, cond_false, Option.bind_some]
  exact ih
abbrev tuLC : LoopC := LoopC.of ⟨[(0, .int .i64), (1, .int .i64), (2, .vl (.int .i64)), (6, .bool), (8, .lit (.ptr 0 (.tl 0) 0)), (9, .int .i64)], [.box 1 [[.lit .nils]]]⟩ (fun x => decide (0 ≤ x.1.2.1) && decide (x.1.2.1 ≤ 40) && decide (x.1.2.2.2.2.2.1 = 0))
  fun x => [(true, .exit 0, tuSt x.1.1 x.1.2.1 x.1.2.2.1 x.1.2.2.2.1 (x.1.2.1 + 1) [(x.1.1, x.1.2.1, 10 * x.1.2.1)])]
theorem tu_go' (p n : Int) (h0 : 0 ≤ n) (hn : n ≤ 40) (l : List Int) (f : Bool) : ∃ m, rounds (env consB5) H.cooperagelaw11_DedupTurns 0 (LPof []) V.cooperagelaw11_DedupTurns_6 L.cooperagelaw11_DedupTurns_6 m (tu0St p n l f 0) (fun e s => some (e, s)) = some (.exit 0, tuSt p n l f (n + 1) [(p, n, 10 * n)]) := by
  obtain ⟨k, rfl⟩ := Int.eq_ofNat_of_zero_le h0
  exact tu_go p k (by omega) l f _
theorem tu_lok : LoopOK P0 H.cooperagelaw11_DedupTurns 0 L.cooperagelaw11_DedupTurns_6 tuLC :=
  loop_ok_of (env_ok consB5_ok) glob0 mixed0 noLoops V.cooperagelaw11_DedupTurns_6 (by decide) fun ⟨⟨p, n, l, f, _, i, _⟩, _⟩ h hw => by
    simp only [Bool.and_eq_true, decide_eq_true_eq] at h
    obtain ⟨⟨h1, h2⟩, rfl⟩ := h
    exact tu_go' p n h1 h2 l f
theorem tv_rounds {R : Type} (p : Int) (n : Int) (h0 : 0 ≤ n) (hn : n ≤ 40) (l : List Int) (hl : l.length ≤ 40) (f : Bool) (K : Ex → St → Option R) : ∀ (m k : Nat), k + m = l.length → rounds (env consB5) H.cooperagelaw11_DedupTurns 0 (LPof []) V.cooperagelaw11_DedupTurns_13 L.cooperagelaw11_DedupTurns_13 (m + 1) (tvSt p n l f k [(p, n, 10 * n)]) K =
    K (.exit 2) (tvSt p n l f l.length [(p, n, 10 * n)])
  | 0, k, h => by
    obtain rfl : k = l.length := by omega
    rw [rounds_succ']
    refine (turn2_rd _ _ _ _ _ _ _).trans ?_
    rw [cond_neg (by omega)]
    rfl
  | m + 1, k, h => by
    have ih := tv_rounds p n h0 hn l hl f K m (k + 1) (by omega)
    rw [rounds_succ']
    refine (turn2_rd _ _ _ _ _ _ _).trans ?_
    have e4 : IntKind.i64.wrap (10 * n) = 10 * n := wrap64 (by omega) (by omega)
    have e5 : IntKind.i64.wrap ((k : Int) + 1) = ((k + 1 : Nat) : Int) := by rw [wrap64 (by omega) (by omega)]; omega
    have e6 : IntKind.i64.wrap (n + 1) = n + 1 := wrap64 (by omega) (by omega)
    rw [cond_pos (by omega), cond_pos2 (by omega) (by omega), one_sorted, cond_t (by simp), cond_pos2 (by omega) (by omega), Int.toNat_natCast, one_ask, e4, e5, e6]
    by_cases h1 : l.getD k 0 = n
    · rw [h1]
      simp only [beq_self_eq_true, cond_true, bne_self_eq_false, cond_false, Option.bind_some]
      exact ih
    · have d1 : (l.getD k 0 == n) = false := by simpa using h1
      have d2 : (n == l.getD k 0) = false := by simpa using Ne.symm h1
      rw [cond_f d1]
      by_cases h2 : l.getD k 0 = n + 1
      · rw [h2]
        have d3 : (n == n + 1) = false := by simp; omega
        have d4 : (decide (n < n + 1) && n == n + 1 - 1) = true := by simp; omega
        rw [d3, d4]
        simp only [beq_self_eq_true, cond_true, bne_self_eq_false, cond_false, Option.bind_some]
        exact ih
      · have d3 : (l.getD k 0 == n + 1) = false := by simpa using h2
        have d4 : (n == l.getD k 0 - 1) = false := by simp only [beq_eq_false_iff_ne]; omega
        rw [cond_f d3, d2, d4]
        simp only [Bool.and_false, cond_false, bne_self_eq_false, Option.bind_some]
        exact ih
abbrev tvLC : LoopC := LoopC.of ⟨[(0, .int .i64), (1, .int .i64), (2, .vl (.int .i64)), (6, .bool), (8, .lit (.ptr 0 (.tl 0) 0)), (13, .int .i64)], [.box 1 [[.lit (.hw 1)]], .arr 3 rowT []]⟩
  (fun x => decide (0 ≤ x.1.2.1) && decide (x.1.2.1 ≤ 40) && decide (List.length x.1.2.2.1 ≤ 40) && decide (x.1.2.2.2.2.2.1 = 0) && decide (x.2.2.1.1 = [(x.1.1, x.1.2.1, 10 * x.1.2.1)]))
  fun x => [(true, .exit 2, tvSt x.1.1 x.1.2.1 x.1.2.2.1 x.1.2.2.2.1 (List.length x.1.2.2.1) [(x.1.1, x.1.2.1, 10 * x.1.2.1)])]
theorem tv_lok : LoopOK P0 H.cooperagelaw11_DedupTurns 0 L.cooperagelaw11_DedupTurns_13 tvLC :=
  loop_ok_of (env_ok consB5_ok) glob0 mixed0 noLoops V.cooperagelaw11_DedupTurns_13 (by decide) fun ⟨⟨p, n, l, f, _, i, _⟩, _, ⟨xs, _⟩, _⟩ h hw => by
    simp only [Bool.and_eq_true, decide_eq_true_eq] at h
    obtain ⟨⟨⟨⟨h1, h2⟩, h3⟩, rfl⟩, rfl⟩ := h
    exact ⟨_, tv_rounds p n h1 h2 l h3 f _ (List.length l) 0 (Nat.zero_add _)⟩
theorem turns_ev (p n : Int) (l : List Int) : evFn (env consB5) H.cooperagelaw11_DedupTurns (LPof [(6, tuLC), (13, tvLC)]) F.cooperagelaw11_DedupTurns [.int .i64 p, .int .i64 n, .vl (.int .i64) l] [] (finT [.bool]) = Option.bind (bif decide (n < (0 : Int)) then some true else bif decide (n > (40 : Int)) then some true else some (decide ((↑l.length : Int) > (40 : Int)))) fun v => bif v then some (true, ()) else bif decide ((0 : (Pat.int IntKind.i64).den) ≤ n) && decide (n ≤ (40 : (Pat.int IntKind.i64).den)) && true && true then bif decide ((0 : (Pat.int IntKind.i64).den) ≤ n) && decide (n ≤ (40 : (Pat.int IntKind.i64).den)) && decide (l.length ≤ 40) && true && decide ([(p, n, (10 : Int) * n)] = [(p, n, (10 : (Pat.int IntKind.i64).den) * n)]) && true then some (true, ()) else none else none := by kernel_rfl

def caseTurns : PCase := ⟨[.ty (.int .i64), .ty (.int .i64), .ty (.sl (.int .i64))], [.bool], fun x => (fun (p n : Int) (l : List Int) => [(true, (true, ()))]) x.1 x.2.1 x.2.2.1⟩
theorem turns_val (p n : Int) (l : List Int) : evFn (env consB5) H.cooperagelaw11_DedupTurns (LPof [(6, tuLC), (13, tvLC)]) F.cooperagelaw11_DedupTurns [.int .i64 p, .int .i64 n, .vl (.int .i64) l] [] (finT [.bool]) = some (true, ()) := by
  rw [turns_ev]
  by_cases h1 : n < 0
  · simp [h1]
  by_cases h2 : n > 40
  · simp [h1, h2]
  by_cases h3 : (l.length : Int) > 40
  · simp only [h1, h2, h3, decide_true, decide_false, cond_true, cond_false, Option.bind_some]
  · have a1 : (0 : Int) ≤ n := by omega
    have a2 : n ≤ 40 := by omega
    have a3 : l.length ≤ 40 := by omega
    simp only [h1, h2, h3, a1, a2, a3, decide_true, decide_false, cond_true, cond_false, Option.bind_some, Bool.and_self]
theorem turns_ok : caseTurns.ok P0 I.cooperagelaw11_DedupTurns := case_ok2 (H := H.cooperagelaw11_DedupTurns) (E := env consB5) (env_ok consB5_ok) glob0 mixed0 G.cooperagelaw11_DedupTurns Bd.cooperagelaw11_DedupTurns (by kernel_rfl) (loops_good (tab := [(6, tuLC), (13, tvLC)]) (by kernel_rfl) (fun x hx => by simp at hx; rcases hx with rfl | rfl <;> first | exact tu_lok | exact tv_lok)) fun ⟨p, n, l, ()⟩ y h hw => by
  obtain ⟨hc, rfl⟩ := pick_pre h
  exact turns_val p n l
theorem turns_good (x : tysDen [.int .i64, .int .i64, .sl (.int .i64)]) (hw : tysWf [.int .i64, .int .i64, .sl (.int .i64)] x) : ∃ o, EffGood P0 I.cooperagelaw11_DedupTurns (valsOf [.int .i64, .int .i64, .sl (.int .i64)] x) [] (.bool true) o := turns_ok x (true, ()) rfl hw
end Go.Sim
namespace Go.Sim
set_option linter.unusedSimpArgs false
set_option linter.unusedVariables false
set_option maxRecDepth 10000
theorem clone_ev (xs : List Row3) : evFn (env []) H.slices_Clone_dedup_Row_dedup_Row (LPof []) F.slices_Clone_dedup_Row_dedup_Row [.hw 0] [.arr 3 rowT xs []] (finV (.vl rowT) [.arr 3 rowT []] 1) = bif decide (0 < xs.length) then bif decide (([] ++ xs).length * 24 ≤ 140737488355328) then some ([] ++ xs, (xs, ()), ()) else none else none := by kernel_rfl

theorem clone0_ev : evFn (env []) H.slices_Clone_dedup_Row_dedup_Row (LPof []) F.slices_Clone_dedup_Row_dedup_Row [.nils] [] (finV (.vl rowT) [] 0) = some ([], ()) := by kernel_rfl

def caseClone : VCase := ⟨[.lit (.hw 0)], [.arr 3 rowT []], .vl rowT, [.arr 3 rowT []], fun _ ⟨⟨xs, ()⟩, ()⟩ => [(decide (0 < List.length xs) && decide (List.length xs ≤ 1000000), (xs, ((xs, ()), ())))]⟩
theorem clone_val (xs : List Row3) (hc : (decide (0 < List.length xs) && decide (List.length xs ≤ 1000000)) = true) : evFn (env []) H.slices_Clone_dedup_Row_dedup_Row (LPof []) F.slices_Clone_dedup_Row_dedup_Row [.hw 0] [.arr 3 rowT xs []] (finV (.vl rowT) [.arr 3 rowT []] 1) = some (xs, ((xs, ()), ())) := by
  simp only [Bool.and_eq_true, decide_eq_true_eq] at hc
  rw [clone_ev, cond_pos hc.1, cond_pos (by simp only [List.nil_append]; omega), List.nil_append]
theorem clone_ok : caseClone.e.ok P0 I.slices_Clone_dedup_Row_dedup_Row := vcase_ok (c := caseClone) (H := H.slices_Clone_dedup_Row_dedup_Row) (E := env []) (env_ok env_nil) glob0 mixed0 G.slices_Clone_dedup_Row_dedup_Row Bd.slices_Clone_dedup_Row_dedup_Row (by kernel_rfl) noLoops fun _ ⟨⟨xs, ()⟩, ()⟩ r h hw1 hw2 => by
  obtain ⟨hc, rfl⟩ := pick_pre h
  exact clone_val xs hc
def caseClone0 : VCase := ⟨[.lit .nils], [], .vl rowT, [], fun _ () => [(true, (([] : List Row3), ()))]⟩
theorem clone0_val  : evFn (env []) H.slices_Clone_dedup_Row_dedup_Row (LPof []) F.slices_Clone_dedup_Row_dedup_Row [.nils] [] (finV (.vl rowT) [] 0) = some (([] : List Row3), ()) := by
  exact clone0_ev
theorem clone0_ok : caseClone0.e.ok P0 I.slices_Clone_dedup_Row_dedup_Row := vcase_ok (c := caseClone0) (H := H.slices_Clone_dedup_Row_dedup_Row) (E := env []) (env_ok env_nil) glob0 mixed0 G.slices_Clone_dedup_Row_dedup_Row Bd.slices_Clone_dedup_Row_dedup_Row (by kernel_rfl) noLoops fun _ () r h hw1 hw2 => by
  obtain ⟨hc, rfl⟩ := pick_pre h
  exact clone0_val
noncomputable abbrev consC1 : List (FuncId × Con) := [(I.slices_Clone_dedup_Row_dedup_Row, .eff (effOf [caseClone.e, caseClone0.e]))]
theorem consC1_ok : ∀ x ∈ consC1, HoldsC P0 x.1 x.2 := by
  intro x hx
  simp at hx
  subst hx
  exact ⟨fun args objs r objs2 h _ => effOf_holds (by simp; exact ⟨clone_ok, clone0_ok⟩) args objs r objs2 h, C.slices_Clone_dedup_Row_dedup_Row⟩
theorem rows_ev (xs : List Row3) : evFn (env consC1) H.dedup_Table_Rows (LPof []) F.dedup_Table_Rows [.ptr 0 (.tl 0) 0] [.arr 1 .bool [] [[.hw 1]], .arr 3 rowT xs []] (finV (.vl rowT) [.box 1 [[.lit (.hw 1)]], .arr 3 rowT []] 2) = bif decide (0 < xs.length) && decide (xs.length ≤ 1000000) then some (xs, (((), ()), ()), (xs, ()), ()) else none := by kernel_rfl

theorem rows0_ev : evFn (env consC1) H.dedup_Table_Rows (LPof []) F.dedup_Table_Rows [.ptr 0 (.tl 0) 0] [.arr 1 .bool [] [[.nils]]] (finV (.vl rowT) [.box 1 [[.lit .nils]]] 1) = some ([], (((), ()), ()), ()) := by kernel_rfl

def caseRows : VCase := ⟨[.lit (.ptr 0 (.tl 0) 0)], [.box 1 [[.lit (.hw 1)]], .arr 3 rowT []], .vl rowT, [.box 1 [[.lit (.hw 1)]], .arr 3 rowT []], fun _ ⟨_, ⟨xs, ()⟩, ()⟩ => [(decide (0 < List.length xs) && decide (List.length xs ≤ 1000000), (xs, ((((), ()), ()), (xs, ()), ())))]⟩
theorem rows_val (xs : List Row3) (hc : (decide (0 < List.length xs) && decide (List.length xs ≤ 1000000)) = true) : evFn (env consC1) H.dedup_Table_Rows (LPof []) F.dedup_Table_Rows [.ptr 0 (.tl 0) 0] [.arr 1 .bool [] [[.hw 1]], .arr 3 rowT xs []] (finV (.vl rowT) [.box 1 [[.lit (.hw 1)]], .arr 3 rowT []] 2) = some (xs, ((((), ()), ()), (xs, ()), ())) := by
  rw [rows_ev, hc]; rfl
theorem rows_ok : caseRows.e.ok P0 I.dedup_Table_Rows := vcase_ok (c := caseRows) (H := H.dedup_Table_Rows) (E := env consC1) (env_ok consC1_ok) glob0 mixed0 G.dedup_Table_Rows Bd.dedup_Table_Rows (by kernel_rfl) noLoops fun _ ⟨_, ⟨xs, ()⟩, ()⟩ r h hw1 hw2 => by
  obtain ⟨hc, rfl⟩ := pick_pre h
  exact rows_val xs hc
def caseRows0 : VCase := ⟨[.lit (.ptr 0 (.tl 0) 0)], [.box 1 [[.lit .nils]]], .vl rowT, [.box 1 [[.lit .nils]]], fun _ _ => [(true, (([] : List Row3), ((((), ()), ()), ())))]⟩
theorem rows0_val  : evFn (env consC1) H.dedup_Table_Rows (LPof []) F.dedup_Table_Rows [.ptr 0 (.tl 0) 0] [.arr 1 .bool [] [[.nils]]] (finV (.vl rowT) [.box 1 [[.lit .nils]]] 1) = some (([] : List Row3), ((((), ()), ()), ())) := by
  exact rows0_ev
theorem rows0_ok : caseRows0.e.ok P0 I.dedup_Table_Rows := vcase_ok (c := caseRows0) (H := H.dedup_Table_Rows) (E := env consC1) (env_ok consC1_ok) glob0 mixed0 G.dedup_Table_Rows Bd.dedup_Table_Rows (by kernel_rfl) noLoops fun _ _ r h hw1 hw2 => by
  obtain ⟨hc, rfl⟩ := pick_pre h
  exact rows0_val
noncomputable abbrev consC2 : List (FuncId × Con) := [(I.dedup_Table_Rows, .eff (effOf [caseRows.e, caseRows0.e]))] ++ consB5
theorem consC2_ok : ∀ x ∈ consC2, HoldsC P0 x.1 x.2 := by
  intro x hx
  rcases List.mem_append.1 hx with hx | hx
  · simp at hx
    subst hx
    exact ⟨fun args objs r objs2 h _ => effOf_holds (by simp; exact ⟨rows_ok, rows0_ok⟩) args objs r objs2 h, C.dedup_Table_Rows⟩
  · exact consB5_ok x hx
theorem many0_rd {R : Type} (n : Int) (f : Bool) (i : Int) (K : Ex → St → Option R) : roundK (env consC2) H.cooperagelaw11_DedupMany 0 (LPof []) V.cooperagelaw11_DedupMany_6 L.cooperagelaw11_DedupMany_6 ⟨[(0, .int .i64 n), (2, .bool f), (4, .ptr 0 (.tl 0) 0), (5, .int .i64 i)], [(0, .arr 1 .bool [] [[.nils]])], 1⟩ K = bif decide (i < n) then bif decide (i ≥ (100 : Int)) then K Ex.ret { slots := [(0, AV.int IntKind.i64 n), (2, AV.bool false), (4, AV.ptr 0 (Elt.tl 0) 0), (5, AV.int IntKind.i64 i)], objs := [(0, AObj.arr 1 Ty.bool [] [[AV.hw 1]]), (1, AObj.arr 3 ((Ty.int IntKind.i64).pair ((Ty.int IntKind.i64).pair (Ty.int IntKind.i64))) [(i, (0 : Int), i)] [])], nx := 2 } else K Ex.normal { slots := [(0, AV.int IntKind.i64 n), (2, AV.bool f), (4, AV.ptr 0 (Elt.tl 0) 0), (5, AV.int IntKind.i64 (IntKind.i64.wrap (i + (1 : Int))))], objs := [(0, AObj.arr 1 Ty.bool [] [[AV.hw 1]]), (1, AObj.arr 3 ((Ty.int IntKind.i64).pair ((Ty.int IntKind.i64).pair (Ty.int IntKind.i64))) [(i, (0 : Int), i)] [])], nx := 2 } else K (Ex.exit 0) { slots := [(0, AV.int IntKind.i64 n), (2, AV.bool f), (4, AV.ptr 0 (Elt.tl 0) 0), (5, AV.int IntKind.i64 i)], objs := [(0, AObj.arr 1 Ty.bool [] [[AV.nils]])], nx := 1 } := by kernel_rfl

theorem many1_rd {R : Type} (n : Int) (f : Bool) (i : Int) (xs : List Row3) (K : Ex → St → Option R) : roundK (env consC2) H.cooperagelaw11_DedupMany 0 (LPof []) V.cooperagelaw11_DedupMany_6 L.cooperagelaw11_DedupMany_6 ⟨[(0, .int .i64 n), (2, .bool f), (4, .ptr 0 (.tl 0) 0), (5, .int .i64 i)], [(0, .arr 1 .bool [] [[.hw 1]]), (1, .arr 3 rowT xs [])], 2⟩ K = bif decide (i < n) then bif sortedL xs && decide (xs.length ≤ 1000000) && (hasL xs i || decide ((↑xs.length : Int) ≥ (100 : Int))) then bif decide (i ≥ (100 : Int)) then bif (setL xs (i, (0 : Int), i)).snd != (7 : Int) then K Ex.ret { slots := [(0, AV.int IntKind.i64 n), (2, AV.bool false), (4, AV.ptr 0 (Elt.tl 0) 0), (5, AV.int IntKind.i64 i)], objs := [(0, AObj.arr 1 Ty.bool [] [[AV.hw 1]]), (1, AObj.arr 3 ((Ty.int IntKind.i64).pair ((Ty.int IntKind.i64).pair (Ty.int IntKind.i64))) (setL xs (i, (0 : Int), i)).fst [])], nx := 2 } else K Ex.normal { slots := [(0, AV.int IntKind.i64 n), (2, AV.bool f), (4, AV.ptr 0 (Elt.tl 0) 0), (5, AV.int IntKind.i64 (IntKind.i64.wrap (i + (1 : Int))))], objs := [(0, AObj.arr 1 Ty.bool [] [[AV.hw 1]]), (1, AObj.arr 3 ((Ty.int IntKind.i64).pair ((Ty.int IntKind.i64).pair (Ty.int IntKind.i64))) (setL xs (i, (0 : Int), i)).fst [])], nx := 2 } else bif (setL xs (i, (0 : Int), i)).snd != (0 : Int) then K Ex.ret { slots := [(0, AV.int IntKind.i64 n), (2, AV.bool false), (4, AV.ptr 0 (Elt.tl 0) 0), (5, AV.int IntKind.i64 i)], objs := [(0, AObj.arr 1 Ty.bool [] [[AV.hw 1]]), (1, AObj.arr 3 ((Ty.int IntKind.i64).pair ((Ty.int IntKind.i64).pair (Ty.int IntKind.i64))) (setL xs (i, (0 : Int), i)).fst [])], nx := 2 } else K Ex.normal { slots := [(0, AV.int IntKind.i64 n), (2, AV.bool f), (4, AV.ptr 0 (Elt.tl 0) 0), (5, AV.int IntKind.i64 (IntKind.i64.wrap (i + (1 : Int))))], objs := [(0, AObj.arr 1 Ty.bool [] [[AV.hw 1]]), (1, AObj.arr 3 ((Ty.int IntKind.i64).pair ((Ty.int IntKind.i64).pair (Ty.int IntKind.i64))) (setL xs (i, (0 : Int), i)).fst [])], nx := 2 } else bif sortedL xs && decide (xs.length ≤ 1000000) && !(hasL xs i || decide ((↑xs.length : Int) ≥ (100 : Int))) then bif decide (i ≥ (100 : Int)) then bif (setL xs (i, (0 : Int), i)).snd != (7 : Int) then K Ex.ret { slots := [(0, AV.int IntKind.i64 n), (2, AV.bool false), (4, AV.ptr 0 (Elt.tl 0) 0), (5, AV.int IntKind.i64 i)], objs := [(0, AObj.arr 1 Ty.bool [] [[AV.hw 1]]), (1, AObj.arr 3 ((Ty.int IntKind.i64).pair ((Ty.int IntKind.i64).pair (Ty.int IntKind.i64))) (setL xs (i, (0 : Int), i)).fst [])], nx := 2 } else K Ex.normal { slots := [(0, AV.int IntKind.i64 n), (2, AV.bool f), (4, AV.ptr 0 (Elt.tl 0) 0), (5, AV.int IntKind.i64 (IntKind.i64.wrap (i + (1 : Int))))], objs := [(0, AObj.arr 1 Ty.bool [] [[AV.hw 1]]), (1, AObj.arr 3 ((Ty.int IntKind.i64).pair ((Ty.int IntKind.i64).pair (Ty.int IntKind.i64))) (setL xs (i, (0 : Int), i)).fst [])], nx := 2 } else bif (setL xs (i, (0 : Int), i)).snd != (0 : Int) then K Ex.ret { slots := [(0, AV.int IntKind.i64 n), (2, AV.bool false), (4, AV.ptr 0 (Elt.tl 0) 0), (5, AV.int IntKind.i64 i)], objs := [(0, AObj.arr 1 Ty.bool [] [[AV.hw 1]]), (1, AObj.arr 3 ((Ty.int IntKind.i64).pair ((Ty.int IntKind.i64).pair (Ty.int IntKind.i64))) (setL xs (i, (0 : Int), i)).fst [])], nx := 2 } else K Ex.normal { slots := [(0, AV.int IntKind.i64 n), (2, AV.bool f), (4, AV.ptr 0 (Elt.tl 0) 0), (5, AV.int IntKind.i64 (IntKind.i64.wrap (i + (1 : Int))))], objs := [(0, AObj.arr 1 Ty.bool [] [[AV.hw 1]]), (1, AObj.arr 3 ((Ty.int IntKind.i64).pair ((Ty.int IntKind.i64).pair (Ty.int IntKind.i64))) (setL xs (i, (0 : Int), i)).fst [])], nx := 2 } else none else K (Ex.exit 0) { slots := [(0, AV.int IntKind.i64 n), (2, AV.bool f), (4, AV.ptr 0 (Elt.tl 0) 0), (5, AV.int IntKind.i64 i)], objs := [(0, AObj.arr 1 Ty.bool [] [[AV.hw 1]]), (1, AObj.arr 3 ((Ty.int IntKind.i64).pair ((Ty.int IntKind.i64).pair (Ty.int IntKind.i64))) xs [])], nx := 2 } := by kernel_rfl

def manyL (k : Nat) : List Row3 := (List.range k).map fun (j : Nat) => ((j : Int), (0 : Int), (j : Int))
theorem many_len (k : Nat) : (manyL k).length = k := by simp [manyL]
theorem many_at {k j : Nat} (h : j < k) : atL (manyL k) j = ((j : Int), 0, (j : Int)) := by
  unfold atL manyL
  rw [List.getD_eq_getElem?_getD, List.getElem?_map, List.getElem?_range h]
  rfl
theorem many_pos {k : Nat} {i : Int} (h : (k : Int) ≤ i) : posL (manyL k) i = k :=
  pos_eq (by rw [many_len]; omega) (fun j hj => by rw [many_at hj]; simp only; omega) (fun h => by rw [many_len] at h; omega)
theorem many_has {k : Nat} {i : Int} (h : (k : Int) ≤ i) : hasL (manyL k) i = false := by
  unfold hasL
  rw [many_pos h, many_len]
  simp
theorem many_set {k : Nat} (h : k < 100) : setL (manyL k) ((k : Int), 0, (k : Int)) = (manyL (k + 1), 0) := by
  unfold setL
  simp only [many_has (Int.le_refl _), many_pos (Int.le_refl _), many_len, cond_false]
  rw [cond_neg (by omega)]
  unfold putAt
  rw [List.take_of_length_le (by rw [many_len]; omega), List.drop_of_length_le (by rw [many_len]; omega)]
  unfold manyL
  rw [List.range_succ, List.map_append]
  rfl
theorem many_full {i : Int} (h : 100 ≤ i) : setL (manyL 100) (i, 0, i) = (manyL 100, 7) := by
  unfold setL
  simp only [many_has (k := 100) (i := i) h, many_len, cond_false]
  rfl
theorem many_sorted : ∀ k, k ≤ 100 → sortedL (manyL k) = true
  | 0, _ => rfl
  | k + 1, h => by
    have := set_sorted ((k : Int), (0 : Int), (k : Int)) (many_sorted k (by omega))
    rwa [many_set (by omega)] at this
theorem many_zero {k : Nat} (h : 1 ≤ k) : posL (manyL k) 0 = 0 ∧ hasL (manyL k) 0 = true := by
  have hp : posL (manyL k) 0 = 0 := pos_eq (Nat.zero_le _) (fun j hj => absurd hj (Nat.not_lt_zero _)) (fun _ => by rw [many_at (by omega)]; simp)
  refine ⟨hp, ?_⟩
  unfold hasL
  rw [hp, many_len, many_at (by omega)]
  simp
  omega
theorem many_last {k : Nat} (h : 1 ≤ k) (hk : k ≤ 100) : (setL (manyL k) (0, 1, 77)).2 = 0 ∧ askL (setL (manyL k) (0, 1, 77)).1 0 1 = (1, 77) := by
  have hs : setL (manyL k) (0, 1, 77) = ((0, 1, 77) :: (manyL k).drop 1, 0) := by
    unfold setL
    simp only [(many_zero h).1, (many_zero h).2, cond_true]
    rfl
  rw [hs]
  refine ⟨rfl, ?_⟩
  have hp : posL ((0, 1, 77) :: (manyL k).drop 1) 0 = 0 := by simp [posL]
  unfold askL hasL
  rw [hp]
  simp [atL]
def mnSt (n : Int) (f : Bool) (i : Int) (xs : List Row3) : St := ⟨[(0, .int .i64 n), (2, .bool f), (4, .ptr 0 (.tl 0) 0), (5, .int .i64 i)], [(0, .arr 1 .bool [] [[.hw 1]]), (1, .arr 3 rowT xs [])], 2⟩
def mn0St (n : Int) (f : Bool) (i : Int) : St := ⟨[(0, .int .i64 n), (2, .bool f), (4, .ptr 0 (.tl 0) 0), (5, .int .i64 i)], [(0, .arr 1 .bool [] [[.nils]])], 1⟩
theorem mn_rounds {R : Type} (n : Nat) (hn : n ≤ 120) (f : Bool) (K : Ex → St → Option R) : ∀ (m k : Nat), k + m = n → 1 ≤ k → rounds (env consC2) H.cooperagelaw11_DedupMany 0 (LPof []) V.cooperagelaw11_DedupMany_6 L.cooperagelaw11_DedupMany_6 (m + 1) (mnSt n f k (manyL (min k 100))) K =
    K (.exit 0) (mnSt n f n (manyL (min n 100)))
  | 0, k, h, h1 => by
    obtain rfl : k = n := by omega
    rw [rounds_succ']
    refine (many1_rd _ _ _ _ _).trans ?_
    rw [cond_neg (by omega)]
    rfl
  | m + 1, k, h, h1 => by
    have ih := mn_rounds n hn f K m (k + 1) (by omega) (by omega)
    rw [rounds_succ']
    refine (many1_rd _ _ _ _ _).trans ?_
    have e5 : IntKind.i64.wrap ((k : Int) + 1) = ((k + 1 : Nat) : Int) := by rw [wrap64 (by omega) (by omega)]; omega
    have hs := many_sorted (min k 100) (by omega)
    have hl := many_len (min k 100)
    have hb : decide ((manyL (min k 100)).length ≤ 1000000) = true := by rw [hl]; simp; omega
    have hh := many_has (k := min k 100) (i := (k : Int)) (by omega)
    rw [cond_pos (by omega), hs, hb, hh, hl, e5]
    by_cases hk : k < 100
    · have m1 : min k 100 = k := Nat.min_eq_left (by omega)
      have m2 : min (k + 1) 100 = k + 1 := Nat.min_eq_left (by omega)
      rw [m2] at ih
      rw [m1, many_set hk, decide_eq_false (show ¬ ((k : Int) ≥ 100) by omega)]
      simp only [Bool.or_false, Bool.and_false, Bool.and_true, Bool.not_false, cond_false, cond_true, bne_self_eq_false]
      exact ih
    · have m1 : min k 100 = 100 := Nat.min_eq_right (by omega)
      have m2 : min (k + 1) 100 = 100 := Nat.min_eq_right (by omega)
      rw [m2] at ih
      rw [m1, many_full (by omega), decide_eq_true (show ((100 : Nat) : Int) ≥ 100 by omega), decide_eq_true (show (k : Int) ≥ 100 by omega)]
      simp only [Bool.or_true, Bool.and_true, cond_true, bne_self_eq_false, cond_false]
      exact ih
theorem mn_go {R : Type} (n : Nat) (h0 : 1 ≤ n) (hn : n ≤ 120) (f : Bool) (K : Ex → St → Option R) : ∃ m, rounds (env consC2) H.cooperagelaw11_DedupMany 0 (LPof []) V.cooperagelaw11_DedupMany_6 L.cooperagelaw11_DedupMany_6 m (mn0St n f 0) K = K (.exit 0) (mnSt n f n (manyL (min n 100))) := by
  refine ⟨n - 1 + 1 + 1, ?_⟩
  have ih := mn_rounds n hn f K (n - 1) 1 (by omega) (by omega)
  rw [rounds_succ']
  refine (many0_rd _ _ _ _).trans ?_
  rw [cond_pos (by omega), cond_neg (by omega)]
  exact ih
abbrev mnLC : LoopC := LoopC.of ⟨[(0, .int .i64), (2, .bool), (4, .lit (.ptr 0 (.tl 0) 0)), (5, .int .i64)], [.box 1 [[.lit .nils]]]⟩ (fun x => decide (0 ≤ x.1.1) && decide (x.1.1 ≤ 120) && decide (x.1.2.2.2.1 = 0))
  fun x => [(decide (x.1.1 = 0), .exit 0, mn0St x.1.1 x.1.2.1 0), (true, .exit 0, mnSt x.1.1 x.1.2.1 x.1.1 (manyL (min x.1.1.toNat 100)))]
theorem mn_go' (n : Int) (h0 : 0 ≤ n) (hn : n ≤ 120) (f : Bool) : ∃ m, rounds (env consC2) H.cooperagelaw11_DedupMany 0 (LPof []) V.cooperagelaw11_DedupMany_6 L.cooperagelaw11_DedupMany_6 m (mn0St n f 0) (fun e s => some (e, s)) =
    pick [(decide (n = 0), Ex.exit 0, mn0St n f 0), (true, .exit 0, mnSt n f n (manyL (min n.toNat 100)))] := by
  obtain ⟨k, rfl⟩ := Int.eq_ofNat_of_zero_le h0
  by_cases hk : k = 0
  · subst hk
    refine ⟨1, ?_⟩
    rw [rounds_succ']
    refine (many0_rd _ _ _ _).trans ?_
    rw [cond_neg (by omega)]
    rfl
  · obtain ⟨m, hm⟩ := mn_go k (by omega) (by omega) f (fun e s => some (e, s))
    refine ⟨m, hm.trans ?_⟩
    simp only [pick]
    rw [cond_neg (by omega), cond_true, Int.toNat_natCast]
theorem mn_lok : LoopOK P0 H.cooperagelaw11_DedupMany 0 L.cooperagelaw11_DedupMany_6 mnLC :=
  loop_ok_of (env_ok consC2_ok) glob0 mixed0 noLoops V.cooperagelaw11_DedupMany_6 (by decide) fun ⟨⟨n, f, _, i, _⟩, _⟩ h hw => by
    simp only [Bool.and_eq_true, decide_eq_true_eq] at h
    obtain ⟨⟨h1, h2⟩, rfl⟩ := h
    exact mn_go' n h1 h2 f
theorem many_ev (n : Int) : evFn (env consC2) H.cooperagelaw11_DedupMany (LPof [(6, mnLC)]) F.cooperagelaw11_DedupMany [.int .i64 n] [] (finT [.bool]) = Option.bind (bif decide (n < (0 : Int)) then some true else some (decide (n > (120 : Int)))) fun v => bif v then some (true, ()) else bif decide ((0 : (Pat.int IntKind.i64).den) ≤ n) && decide (n ≤ (120 : (Pat.int IntKind.i64).den)) && true && decide (n = (0 : (Pat.int IntKind.i64).den)) then bif n == (0 : Int) then some (true, ()) else some (true, ()) else bif decide ((0 : (Pat.int IntKind.i64).den) ≤ n) && decide (n ≤ (120 : (Pat.int IntKind.i64).den)) && true && true then bif n == (0 : Int) then bif decide (0 < (manyL (min n.toNat 100)).length) && decide ((manyL (min n.toNat 100)).length ≤ 1000000) then some ((↑(manyL (min n.toNat 100)).length : Int) == (0 : Int), ()) else none else bif sortedL (manyL (min n.toNat 100)) && decide ((manyL (min n.toNat 100)).length ≤ 1000000) && (hasL (manyL (min n.toNat 100)) (0 : Int) || decide ((↑(manyL (min n.toNat 100)).length : Int) ≥ (100 : Int))) then bif sortedL (setL (manyL (min n.toNat 100)) ((0 : Int), (1 : Int), (77 : Int))).fst && decide ((setL (manyL (min n.toNat 100)) ((0 : Int), (1 : Int), (77 : Int))).fst.length ≤ 1000000) then Option.bind (bif (setL (manyL (min n.toNat 100)) ((0 : Int), (1 : Int), (77 : Int))).snd == (0 : Int) then bif (askL (setL (manyL (min n.toNat 100)) ((0 : Int), (1 : Int), (77 : Int))).fst (0 : Int) (1 : Int)).fst == (1 : Int) then some ((askL (setL (manyL (min n.toNat 100)) ((0 : Int), (1 : Int), (77 : Int))).fst (0 : Int) (1 : Int)).snd == (77 : Int)) else some false else some false) fun v => some (v, ()) else none else bif sortedL (manyL (min n.toNat 100)) && decide ((manyL (min n.toNat 100)).length ≤ 1000000) && !(hasL (manyL (min n.toNat 100)) (0 : Int) || decide ((↑(manyL (min n.toNat 100)).length : Int) ≥ (100 : Int))) then bif sortedL (setL (manyL (min n.toNat 100)) ((0 : Int), (1 : Int), (77 : Int))).fst && decide ((setL (manyL (min n.toNat 100)) ((0 : Int), (1 : Int), (77 : Int))).fst.length ≤ 1000000) then Option.bind (bif (setL (manyL (min n.toNat 100)) ((0 : Int), (1 : Int), (77 : Int))).snd == (0 : Int) then bif (askL (setL (manyL (min n.toNat 100)) ((0 : Int), (1 : Int), (77 : Int))).fst (0 : Int) (1 : Int)).fst == (1 : Int) then some ((askL (setL (manyL (min n.toNat 100)) ((0 : Int), (1 : Int), (77 : Int))).fst (0 : Int) (1 : Int)).snd == (77 : Int)) else some false else some false) fun v => some (v, ()) else none else none else none := by kernel_rfl

def caseMany : PCase := ⟨[.ty (.int .i64)], [.bool], fun x => (fun (n : Int) => [(true, (true, ()))]) x.1⟩
theorem many_val (n : Int) : evFn (env consC2) H.cooperagelaw11_DedupMany (LPof [(6, mnLC)]) F.cooperagelaw11_DedupMany [.int .i64 n] [] (finT [.bool]) = some (true, ()) := by
  rw [many_ev]
  by_cases h1 : n < 0
  · simp [h1]
  by_cases h2 : n > 120
  · simp [h1, h2]
  have a1 : (0 : Int) ≤ n := by omega
  have a2 : n ≤ 120 := by omega
  by_cases h3 : n = 0
  · subst h3; rfl
  · have d3 : (n == 0) = false := by simpa using h3
    obtain ⟨k, hk⟩ : ∃ k, k = min n.toNat 100 := ⟨_, rfl⟩
    have k1 : 1 ≤ k := by omega
    have k2 : k ≤ 100 := by omega
    have hs := many_sorted k k2
    have hl := many_len k
    have hz := (many_zero k1).2
    have hb : decide ((manyL k).length ≤ 1000000) = true := by rw [hl]; simp; omega
    have hs2 := set_sorted ((0 : Int), (1 : Int), (77 : Int)) hs
    have hl2 := set_len (manyL k) ((0 : Int), (1 : Int), (77 : Int)) (by rw [hl]; exact k2)
    have hb2 : decide ((setL (manyL k) ((0 : Int), (1 : Int), (77 : Int))).1.length ≤ 1000000) = true := by simp; omega
    obtain ⟨g1, g2⟩ := many_last k1 k2
    rw [← hk]
    simp only [h1, h2, h3, a1, a2, d3, hs, hb, hz, hs2, hb2, g1, g2, decide_true, decide_false, cond_true, cond_false, Option.bind_some, Bool.and_self, Bool.and_true, Bool.and_false, Bool.true_or, beq_self_eq_true]
theorem many_ok : caseMany.ok P0 I.cooperagelaw11_DedupMany := case_ok2 (H := H.cooperagelaw11_DedupMany) (E := env consC2) (env_ok consC2_ok) glob0 mixed0 G.cooperagelaw11_DedupMany Bd.cooperagelaw11_DedupMany (by kernel_rfl) (loops_good (tab := [(6, mnLC)]) (by kernel_rfl) (fun x hx => by simp at hx; subst hx; exact mn_lok)) fun ⟨n, ()⟩ y h hw => by
  obtain ⟨hc, rfl⟩ := pick_pre h
  exact many_val n
theorem many_good (x : tysDen [.int .i64]) (hw : tysWf [.int .i64] x) : ∃ o, EffGood P0 I.cooperagelaw11_DedupMany (valsOf [.int .i64] x) [] (.bool true) o := many_ok x (true, ()) rfl hw
end Go.Sim
namespace Go.Sim
abbrev confT : Ty := .pair (.int .i64) (.pair (.int .i64) (.pair (.int .i64) (.int .i64)))
abbrev recT : Ty := .pair (.int .i64) (.pair (.int .i64) (.pair .str (.pair .str .bool)))
abbrev cmdT : Ty := .pair (.int .i64) (.pair (.int .i64) (.pair (.int .i64) (.pair (.sl recT) (.pair .str (.pair (.int .i64) (.pair (.int .i64) (.pair (.int .i64) (.pair (.int .u32) confT))))))))
theorem and_bif {a b : Bool} : (bif a then some b else some false) = some (a && b) := by cases a <;> rfl
theorem or_bif {a b : Bool} : (bif a then some true else some b) = some (a || b) := by cases a <;> rfl
theorem nand_bif {a b : Bool} : (bif a then some false else some b) = some (!a && b) := by cases a <;> rfl
theorem nor_bif {a b : Bool} : (bif a then some b else some true) = some (!a || b) := by cases a <;> rfl
theorem ors_bif {a b x : Bool} : (bif a then some (b || x) else some x) = some (a && b || x) := by cases a <;> cases b <;> rfl
theorem ands_bif {a b x : Bool} : (bif a then some (b && x) else some x) = some ((!a || b) && x) := by cases a <;> cases b <;> rfl
theorem ors2_bif {a b d x : Bool} : (bif a then some (b || (d || x)) else some x) = some (a && (b || d) || x) := by cases a <;> cases b <;> rfl
theorem rf_bif {a b : Bool} {l : List AObj} : (bif a then some (AV.bool false, l) else some (AV.bool b, l)) = some (AV.bool (!a && b), l) := by cases a <;> rfl
theorem rt_bif {a b : Bool} {l : List AObj} : (bif a then some (AV.bool true, l) else some (AV.bool b, l)) = some (AV.bool (a || b), l) := by cases a <;> rfl
theorem ra_bif {a b : Bool} {l : List AObj} : (bif a then some (AV.bool b, l) else some (AV.bool false, l)) = some (AV.bool (a && b), l) := by cases a <;> rfl
theorem ro_bif {a b : Bool} {l : List AObj} : (bif a then some (AV.bool b, l) else some (AV.bool true, l)) = some (AV.bool (!a || b), l) := by cases a <;> rfl
theorem rfu_bif {a b : Bool} : (bif a then some (false, ()) else some (b, ())) = some (!a && b, ()) := by cases a <;> rfl
theorem rtu_bif {a b : Bool} : (bif a then some (true, ()) else some (b, ())) = some (a || b, ()) := by cases a <;> rfl
theorem rau_bif {a b : Bool} : (bif a then some (b, ()) else some (false, ())) = some (a && b, ()) := by cases a <;> rfl
theorem rou_bif {a b : Bool} : (bif a then some (b, ()) else some (true, ())) = some (!a || b, ()) := by cases a <;> rfl
theorem oand_bif {a b x : Bool} : (bif a then some x else some (b && x)) = some ((a || b) && x) := by cases a <;> cases b <;> rfl
theorem sw_bif {x y z : Int} {k : Int} : (bif k == x then some (k == x, ()) else bif k == y then some (k == y, ()) else some (k == z, ())) = some (k == x || (k == y || k == z), ()) := by
  cases hx : k == x <;> cases hy : k == y <;> simp [hx]
theorem sw2_bif {x y : Int} {k : Int} : (bif k == x then some (k == x, ()) else some (k == y, ())) = some (k == x || k == y, ()) := by
  cases hx : k == x <;> simp [hx]
theorem someu_bif {a b c : Bool} : (bif a then some (b, ()) else some (c, ())) = some (bif a then b else c, ()) := by cases a <;> rfl
theorem selfor {a b : Bool} : (bif a then a else b) = (a || b) := by cases a <;> rfl
theorem some_bif {α : Type} {a : Bool} {x y : α} : (bif a then some x else some y) = some (bif a then x else y) := by cases a <;> rfl
abbrev Cmd := Int × Int × Int × List Rec × List UInt8 × Int × Int × Int × Int × Cnf
instance recDec : DecidableEq Rec := inferInstance
instance recsDec : DecidableEq (List Rec) := @instDecidableEqList Rec recDec
instance cmdDec0 : DecidableEq (Int × Int × Cnf) := inferInstance
instance cmdDec1 : DecidableEq (Int × Int × Int × Int × Cnf) := @instDecidableEqProd _ _ _ (@instDecidableEqProd _ _ _ cmdDec0)
instance cmdDec2 : DecidableEq (List UInt8 × Int × Int × Int × Int × Cnf) := @instDecidableEqProd _ _ inferInstance cmdDec1
instance cmdDec3 : DecidableEq (List Rec × List UInt8 × Int × Int × Int × Int × Cnf) := @instDecidableEqProd _ _ recsDec cmdDec2
instance cmdDec : DecidableEq Cmd := @instDecidableEqProd _ _ _ (@instDecidableEqProd _ _ _ (@instDecidableEqProd _ _ _ cmdDec3))
end Go.Sim
namespace Go.Sim
theorem firstFrom_eq {α : Type} [DecidableEq α] {q : α → α → Bool} (hq : ∀ x y, q x y = decide (x = y)) (d : α) {a b : List α} (h : b.length = a.length) : (firstFrom (fun i => !(q (a.getD i d) (b.getD i d))) 0 a.length).isSome = !decide (a = b) := by
  cases hf : firstFrom (fun i => !(q (a.getD i d) (b.getD i d))) 0 a.length with
  | none =>
    have hn := firstFrom_none hf
    have : a = b := List.ext_getElem h.symm fun i h1 h2 => by
      have := hn i (Nat.zero_le _) (by omega)
      simp only [hq, Bool.not_eq_false', decide_eq_true_eq, List.getD_eq_getElem?_getD, List.getElem?_eq_getElem h1, List.getElem?_eq_getElem h2, Option.getD_some] at this
      exact this
    simp [this]
  | some j =>
    obtain ⟨_, h2, h3, _⟩ := firstFrom_spec hf
    have hne : a ≠ b := fun e => by
      subst e
      simp [hq] at h3
    simp [hne]
def recEqB (a b : Rec) : Bool := a.1 == b.1 && (a.2.1 == b.2.1 && (a.2.2.1 == b.2.2.1 && (a.2.2.2.1 == b.2.2.2.1 && (a.2.2.2.2 == b.2.2.2.2 && true))))
theorem recEqB_eq (a b : Rec) : recEqB a b = decide (a = b) := by
  obtain ⟨a1, a2, a3, a4, a5⟩ := a
  obtain ⟨b1, b2, b3, b4, b5⟩ := b
  unfold recEqB
  apply Bool.eq_iff_iff.2
  simp [Prod.ext_iff]
/-- Is a command too great? -/
def bigQ (r : Rec) : Bool := decide (((List.length r.2.2.1 : Nat) : Int) > 250) || decide (((List.length r.2.2.2.1 : Nat) : Int) > 2100)
abbrev atR (q : Rec → Bool) (a : List Rec) (i : Nat) : Bool := q (a.getD i recTy.zero)
def bigC (c : cmdT.den) : Bool := (firstFrom (atR bigQ c.2.2.2.1) 0 (min (List.length c.2.2.2.1) 70)).isSome || (decide (((List.length c.2.2.2.1 : Nat) : Int) > 60) || decide (((List.length c.2.2.2.2.1 : Nat) : Int) > 300))
theorem bigC_small {c : cmdT.den} (h : bigC c = false) : List.length c.2.2.2.1 ≤ 60 ∧ List.length c.2.2.2.2.1 ≤ 300 ∧ ∀ r ∈ c.2.2.2.1, List.length r.2.2.1 ≤ 250 ∧ List.length r.2.2.2.1 ≤ 2100 := by
  unfold bigC at h
  simp only [Bool.or_eq_false_iff, decide_eq_false_iff_not] at h
  obtain ⟨h1, h2, h3⟩ := h
  refine ⟨by omega, by omega, fun r hr => ?_⟩
  rw [Nat.min_eq_left (by omega)] at h1
  have := firstFrom_any0 (q := bigQ) (d := recTy.zero) c.2.2.2.1
  have e : (firstFrom (fun i => bigQ (c.2.2.2.1.getD i recTy.zero)) 0 c.2.2.2.1.length).isSome = false := h1
  rw [e] at this
  have hq := List.any_eq_false.1 this.symm r hr
  unfold bigQ at hq
  simp only [Bool.or_eq_true, decide_eq_true_eq, not_or] at hq
  omega
end Go.Sim
namespace Go.Sim
set_option linter.unusedSimpArgs false
set_option linter.unusedVariables false
set_option maxRecDepth 10000
def H.rset2 : Hint := { H.cooperageref10_Pids_Set with vs := [82] }
theorem rset_rd {R : Type} (xs : List Row3) (p s o k : Int) (K : Ex → St → Option R) : roundK (env []) H.rset2 1 (LPof []) V.cooperageref10_Pids_Set_2 L.cooperageref10_Pids_Set_2 ⟨[(0, .ptr 0 (.tl 0) 0), (1, .int .i64 p), (2, .int .i64 s), (3, .int .i64 o), (9, .int .i64 k)], [(0, .arr 1 .bool [] [[.vl rowT xs]])], 1⟩ K = Option.bind (bif decide (k < (↑xs.length : Int)) then bif decide ((0 : Int) ≤ k) && decide (k < (↑xs.length : Int)) then some (decide ((xs.getD k.toNat rowT.zero).fst < p)) else none else some false) fun v => bif v then K Ex.normal { slots := [(0, AV.ptr 0 (Elt.tl 0) 0), (1, AV.int IntKind.i64 p), (2, AV.int IntKind.i64 s), (3, AV.int IntKind.i64 o), (9, AV.int IntKind.i64 (IntKind.i64.wrap (k + (1 : Int))))], objs := [(0, AObj.arr 1 Ty.bool [] [[AV.vl ((Ty.int IntKind.i64).pair ((Ty.int IntKind.i64).pair (Ty.int IntKind.i64))) xs]])], nx := 1 } else K (Ex.exit 0) { slots := [(0, AV.ptr 0 (Elt.tl 0) 0), (1, AV.int IntKind.i64 p), (2, AV.int IntKind.i64 s), (3, AV.int IntKind.i64 o), (9, AV.int IntKind.i64 k)], objs := [(0, AObj.arr 1 Ty.bool [] [[AV.vl ((Ty.int IntKind.i64).pair ((Ty.int IntKind.i64).pair (Ty.int IntKind.i64))) xs]])], nx := 1 } := by kernel_rfl

theorem srows_rd {R : Type} (a b : List Row3) (f : Bool) (i : Int) (K : Ex → St → Option R) : roundK (env []) H.cooperagelaw11_SameRows 0 (LPof []) V.cooperagelaw11_SameRows_4 L.cooperagelaw11_SameRows_4 ⟨[(0, .vl rowT a), (1, .vl rowT b), (4, .bool f), (5, .int .i64 i)], [], 0⟩ K = bif decide (i < (↑a.length : Int)) then Option.bind (bif decide ((0 : Int) ≤ i) && decide (i < (↑a.length : Int)) then bif decide ((0 : Int) ≤ i) && decide (i < (↑b.length : Int)) then bif (a.getD i.toNat rowT.zero).fst != (b.getD i.toNat rowT.zero).fst then some true else bif decide ((0 : Int) ≤ i) && decide (i < (↑a.length : Int)) then bif decide ((0 : Int) ≤ i) && decide (i < (↑b.length : Int)) then bif (a.getD i.toNat rowT.zero).snd.fst != (b.getD i.toNat rowT.zero).snd.fst then some true else bif decide ((0 : Int) ≤ i) && decide (i < (↑a.length : Int)) then bif decide ((0 : Int) ≤ i) && decide (i < (↑b.length : Int)) then some ((a.getD i.toNat rowT.zero).snd.snd != (b.getD i.toNat rowT.zero).snd.snd) else none else none else none else none else none else none) fun v => bif v then K Ex.ret { slots := [(0, AV.vl ((Ty.int IntKind.i64).pair ((Ty.int IntKind.i64).pair (Ty.int IntKind.i64))) a), (1, AV.vl ((Ty.int IntKind.i64).pair ((Ty.int IntKind.i64).pair (Ty.int IntKind.i64))) b), (4, AV.bool false), (5, AV.int IntKind.i64 i)], objs := [], nx := 0 } else K Ex.normal { slots := [(0, AV.vl ((Ty.int IntKind.i64).pair ((Ty.int IntKind.i64).pair (Ty.int IntKind.i64))) a), (1, AV.vl ((Ty.int IntKind.i64).pair ((Ty.int IntKind.i64).pair (Ty.int IntKind.i64))) b), (4, AV.bool f), (5, AV.int IntKind.i64 (IntKind.i64.wrap (i + (1 : Int))))], objs := [], nx := 0 } else K (Ex.exit 0) { slots := [(0, AV.vl ((Ty.int IntKind.i64).pair ((Ty.int IntKind.i64).pair (Ty.int IntKind.i64))) a), (1, AV.vl ((Ty.int IntKind.i64).pair ((Ty.int IntKind.i64).pair (Ty.int IntKind.i64))) b), (4, AV.bool f), (5, AV.int IntKind.i64 i)], objs := [], nx := 0 } := by kernel_rfl

def rsSt (xs : List Row3) (p s o : Int) (k : Nat) : St := ⟨[(0, .ptr 0 (.tl 0) 0), (1, .int .i64 p), (2, .int .i64 s), (3, .int .i64 o), (9, .int .i64 k)], [(0, .arr 1 .bool [] [[.vl rowT xs]])], 1⟩
theorem rs_rounds {R : Type} (xs : List Row3) (p s o : Int) (hn : xs.length ≤ 1000000) (K : Ex → St → Option R) : ∀ (m k : Nat), k + m = posL xs p → rounds (env []) H.rset2 1 (LPof []) V.cooperageref10_Pids_Set_2 L.cooperageref10_Pids_Set_2 (m + 1) (rsSt xs p s o k) K = K (.exit 0) (rsSt xs p s o (posL xs p))
  | 0, k, h => by
    obtain rfl : k = posL xs p := by omega
    have hp := pos_le xs p
    rw [rounds_succ']
    refine (rset_rd _ _ _ _ _ _).trans ?_
    by_cases hk : posL xs p < xs.length
    · have := pos_at hk
      rw [cond_pos (Int.ofNat_lt.2 hk), cond_pos2 (by omega) (Int.ofNat_lt.2 hk), Int.toNat_natCast, decide_eq_false (show ¬ (xs.getD (posL xs p) rowT.zero).1 < p from Int.not_lt.2 this)]
      rfl
    · rw [cond_neg (fun h => hk (Int.ofNat_lt.1 h))]
      rfl
  | m + 1, k, h => by
    have ih := rs_rounds xs p s o hn K m (k + 1) (by omega)
    have hp := pos_le xs p
    have hb := pos_below (l := xs) (p := p) (i := k) (by omega)
    rw [rounds_succ']
    refine (rset_rd _ _ _ _ _ _).trans ?_
    rw [cond_pos (by omega), cond_pos2 (by omega) (by omega), Int.toNat_natCast, decide_eq_true (show (xs.getD k rowT.zero).1 < p from hb), wrap64 (by omega) (by omega)]
    exact ih
abbrev rsLC : LoopC := LoopC.of ⟨[(0, .lit (.ptr 0 (.tl 0) 0)), (1, .int .i64), (2, .int .i64), (3, .int .i64), (9, .int .i64)], [.box 1 [[.vl rowT]]]⟩ (fun x => decide (x.1.2.2.2.2.1 = 0) && decide (List.length x.2.1.1.1 ≤ 1000000))
  fun x => [(true, .exit 0, rsSt x.2.1.1.1 x.1.2.1 x.1.2.2.1 x.1.2.2.2.1 (posL x.2.1.1.1 x.1.2.1))]
theorem rs_lok : LoopOK P0 H.rset2 1 L.cooperageref10_Pids_Set_2 rsLC :=
  loop_ok_of (env_ok env_nil) glob0 mixed0 noLoops V.cooperageref10_Pids_Set_2 (by decide) fun ⟨⟨_, p, s, o, k, _⟩, ⟨⟨xs, _⟩, _⟩, _⟩ h hw => by
    simp only [Bool.and_eq_true, decide_eq_true_eq] at h
    obtain ⟨rfl, h2⟩ := h
    exact ⟨_, rs_rounds xs p s o h2 _ (posL xs p) 0 (Nat.zero_add _)⟩
theorem rset_ev (xs : List Row3) (p s o : Int) : evFn (env []) H.rset2 (LPof [(2, rsLC)]) F.cooperageref10_Pids_Set [.ptr 0 (.tl 0) 0, .int .i64 p, .int .i64 s, .int .i64 o] [.arr 1 .bool [] [[.vl rowT xs]]] (finV (.int .i64) [.box 1 [[.vl rowT]]] 1) = bif decide (xs.length ≤ 1000000) && true then Option.bind (bif decide ((↑(posL xs p) : Int) < (↑xs.length : Int)) then bif decide ((0 : Int) ≤ (↑(posL xs p) : Int)) && decide ((↑(posL xs p) : Int) < (↑xs.length : Int)) then some ((xs.getD (posL xs p) rowT.zero).fst == p) else none else some false) fun v => bif v then bif decide ((0 : Int) ≤ (↑(posL xs p) : Int)) && decide ((↑(posL xs p) : Int) ≤ (↑xs.length : Int)) then bif decide ((List.take (posL xs p) xs).length * 24 ≤ 140737488355328) then bif decide ((List.take (posL xs p) xs ++ [(p, s, o)]).length * 24 ≤ 140737488355328) then bif decide ((0 : Int) ≤ IntKind.i64.wrap ((↑(posL xs p) : Int) + (1 : Int))) && decide (IntKind.i64.wrap ((↑(posL xs p) : Int) + (1 : Int)) ≤ (↑xs.length : Int)) then bif decide ((List.take (posL xs p) xs ++ [(p, s, o)] ++ List.drop (IntKind.i64.wrap ((↑(posL xs p) : Int) + (1 : Int))).toNat xs).length * 24 ≤ 140737488355328) then some ((0 : Int), ((List.take (posL xs p) xs ++ [(p, s, o)] ++ List.drop (IntKind.i64.wrap ((↑(posL xs p) : Int) + (1 : Int))).toNat xs, ()), ()), ()) else none else none else none else none else none else bif decide ((↑xs.length : Int) ≥ (100 : Int)) then some ((7 : Int), ((xs, ()), ()), ()) else bif decide ((0 : Int) ≤ (↑(posL xs p) : Int)) && decide ((↑(posL xs p) : Int) ≤ (↑xs.length : Int)) then bif decide ((List.take (posL xs p) xs).length * 24 ≤ 140737488355328) then bif decide ((List.take (posL xs p) xs ++ [(p, s, o)]).length * 24 ≤ 140737488355328) then bif decide ((0 : Int) ≤ (↑(posL xs p) : Int)) && decide ((↑(posL xs p) : Int) ≤ (↑xs.length : Int)) then bif decide ((List.take (posL xs p) xs ++ [(p, s, o)] ++ List.drop (posL xs p) xs).length * 24 ≤ 140737488355328) then some ((0 : Int), ((List.take (posL xs p) xs ++ [(p, s, o)] ++ List.drop (posL xs p) xs, ()), ()), ()) else none else none else none else none else none else none := by kernel_rfl

def difR3 (a b : List Row3) (i : Nat) : Bool := !(decide (a.getD i rowT.zero = b.getD i rowT.zero))
theorem row_dif (a b : Row3) : (bif a.1 != b.1 then some true else bif a.2.1 != b.2.1 then some true else some (a.2.2 != b.2.2)) = some !decide (a = b) := by
  obtain ⟨a1, a2, a3⟩ := a
  obtain ⟨b1, b2, b3⟩ := b
  have e : decide ((a1, a2, a3) = (b1, b2, b3)) = ((a1 == b1) && ((a2 == b2) && (a3 == b3))) := by
    apply Bool.eq_iff_iff.2
    simp only [decide_eq_true_eq, Bool.and_eq_true, beq_iff_eq, Prod.mk.injEq]
  rw [e]
  unfold bne
  simp only
  cases a1 == b1 <;> cases a2 == b2 <;> cases a3 == b3 <;> rfl
def srSt (a b : List Row3) (f : Bool) (i : Nat) : St := ⟨[(0, .vl rowT a), (1, .vl rowT b), (4, .bool f), (5, .int .i64 i)], [], 0⟩
abbrev srLC : LoopC := LoopC.of ⟨[(0, .vl rowT), (1, .vl rowT), (4, .bool), (5, .int .i64)], []⟩ (fun x => decide (List.length x.1.2.1 = List.length x.1.1) && decide (x.1.2.2.2.1 = (0 : Int)))
    fun x => [((firstFrom (difR3 x.1.1 x.1.2.1) 0 (List.length x.1.1)).isSome, .ret, srSt x.1.1 x.1.2.1 false ((firstFrom (difR3 x.1.1 x.1.2.1) 0 (List.length x.1.1)).getD 0)), (true, .exit 0, srSt x.1.1 x.1.2.1 x.1.2.2.1 (List.length x.1.1))]
theorem sr_lok : LoopOK P0 H.cooperagelaw11_SameRows 0 L.cooperagelaw11_SameRows_4 srLC :=
  loop_ok_of (env_ok env_nil) glob0 mixed0 noLoops V.cooperagelaw11_SameRows_4 (by decide) fun ⟨⟨a, b, f, i, _⟩, _⟩ h hw => by
    simp only [Bool.and_eq_true, decide_eq_true_eq] at h
    obtain ⟨h1, h2⟩ := h
    subst h2
    have hm : List.length a ≤ maxL := hw.1.1.1
    unfold maxL at hm
    refine ⟨_, Eq.trans (search_rounds (S := srSt a b f) (T := srSt a b false) (p := difR3 a b) (n := List.length a) (e1 := .ret) (e2 := .exit 0) (s2 := srSt a b f (List.length a)) (by simp) (by simp) (fun i hi K => ?_) (fun K => ?_) _ (List.length a) 0 (by omega)) search_pick⟩
    · unfold srSt
      rw [srows_rd, cond_pos (by omega), cond_pos2 (by omega) (by omega), cond_pos2 (by omega) (by omega), cond_pos2 (by omega) (by omega), cond_pos2 (by omega) (by omega), cond_pos2 (by omega) (by omega), cond_pos2 (by omega) (by omega), Int.toNat_natCast, row_dif, wrap64 (by omega) (by omega)]
      rfl
    · unfold srSt
      rw [srows_rd, cond_neg (by omega)]
theorem srows_ev (a b : List Row3) : evFn (env []) H.cooperagelaw11_SameRows (LPof [(4, srLC)]) F.cooperagelaw11_SameRows [.vl rowT a, .vl rowT b] [] (finT [.bool]) = bif (↑a.length : Int) != (↑b.length : Int) then some (false, ()) else bif decide (b.length = a.length) && true && (firstFrom (difR3 a b) 0 a.length).isSome then some (false, ()) else bif decide (b.length = a.length) && true && true then some (true, ()) else none := by kernel_rfl

def caseSrows : PCase := ⟨[.ty (.sl rowT), .ty (.sl rowT)], [.bool], fun x => (fun (a b : List Row3) => [(true, (decide (a = b), ()))]) x.1 x.2.1⟩
theorem srows_val (a b : List Row3) : evFn (env []) H.cooperagelaw11_SameRows (LPof [(4, srLC)]) F.cooperagelaw11_SameRows [.vl rowT a, .vl rowT b] [] (finT [.bool]) = some (decide (a = b), ()) := by
  rw [srows_ev]
  by_cases h : b.length = a.length
  · have h1 : ((a.length : Int) != (b.length : Int)) = false := by simp; omega
    have := firstFrom_eq (q := fun a b => decide (a = b)) (fun _ _ => rfl) rowT.zero h
    unfold difR3
    rw [h1, this, decide_eq_true h]
    cases decide (a = b) <;> rfl
  · have h1 : ((a.length : Int) != (b.length : Int)) = true := by simp; omega
    have h2 : a ≠ b := fun e => h (by rw [e])
    rw [h1, decide_eq_false h2]; rfl
theorem srows_ok : caseSrows.ok P0 I.cooperagelaw11_SameRows := case_ok2 (H := H.cooperagelaw11_SameRows) (E := env []) (env_ok env_nil) glob0 mixed0 G.cooperagelaw11_SameRows Bd.cooperagelaw11_SameRows (by kernel_rfl) (loops_good (tab := [(4, srLC)]) (by kernel_rfl) (fun x hx => by simp at hx; subst hx; exact sr_lok)) fun ⟨a, b, ()⟩ y h hw => by
  obtain ⟨hc, rfl⟩ := pick_pre h
  exact srows_val a b
theorem rset_val (xs : List Row3) (p s o : Int) (hn : xs.length ≤ 1000000) : evFn (env []) H.rset2 (LPof [(2, rsLC)]) F.cooperageref10_Pids_Set [.ptr 0 (.tl 0) 0, .int .i64 p, .int .i64 s, .int .i64 o] [.arr 1 .bool [] [[.vl rowT xs]]] (finV (.int .i64) [.box 1 [[.vl rowT]]] 1) =
    some ((setL xs (p, s, o)).2, ((((setL xs (p, s, o)).1, ()), ()), ())) := by
  rw [rset_ev]
  have hp := pos_le xs p
  have hput : ∀ t, List.take (posL xs p) xs ++ [(p, s, o)] ++ List.drop t xs = putAt xs (posL xs p) t (p, s, o) := fun t => by unfold putAt; simp
  have hl1 : (List.take (posL xs p) xs).length = posL xs p := by simp; omega
  have e1 : IntKind.i64.wrap ((posL xs p : Int) + 1) = (posL xs p : Int) + 1 := wrap64 (by omega) (by omega)
  have e2 : ((posL xs p : Int) + 1).toNat = posL xs p + 1 := by omega
  have hl2 : (List.take (posL xs p) xs ++ [(p, s, o)]).length = posL xs p + 1 := by rw [List.length_append, hl1]; rfl
  have ins : xs.length < 1000001 → (bif decide ((0 : Int) ≤ (posL xs p : Int)) && decide ((posL xs p : Int) ≤ (xs.length : Int)) then bif decide ((List.take (posL xs p) xs).length * 24 ≤ 140737488355328) then bif decide ((List.take (posL xs p) xs ++ [(p, s, o)]).length * 24 ≤ 140737488355328) then
      bif decide ((0 : Int) ≤ (posL xs p : Int)) && decide ((posL xs p : Int) ≤ (xs.length : Int)) then bif decide ((List.take (posL xs p) xs ++ [(p, s, o)] ++ List.drop (posL xs p) xs).length * 24 ≤ 140737488355328) then some ((0 : Int), (((List.take (posL xs p) xs ++ [(p, s, o)] ++ List.drop (posL xs p) xs, ()), ()), ())) else none else none else none else none else none) =
      some ((0 : Int), (((putAt xs (posL xs p) (posL xs p) (p, s, o), ()), ()), ())) := fun _ => by
    rw [cond_pos2 (by omega) (by omega), hl1, cond_pos (by omega), hl2, cond_pos (by omega), cond_pos2 (by omega) (by omega), hput, cond_pos (by rw [putAt_len (Nat.le_refl _) hp]; omega)]
  rw [decide_eq_true hn, Bool.true_and, cond_true]
  by_cases hk : posL xs p < xs.length
  · rw [cond_pos (Int.ofNat_lt.2 hk), cond_pos2 (by omega) (Int.ofNat_lt.2 hk), Option.bind_some]
    have hh : hasL xs p = ((xs.getD (posL xs p) rowT.zero).1 == p) := by unfold hasL; rw [decide_eq_true hk, Bool.true_and]; rfl
    rw [← hh]
    unfold setL
    simp only
    cases hasL xs p with
    | true =>
      rw [cond_true, cond_true, cond_pos2 (by omega) (by omega), hl1, cond_pos (by omega), hl2, cond_pos (by omega), e1, cond_pos2 (by omega) (by omega), e2, hput, cond_pos (by rw [putAt_len (by omega) (by omega)]; omega)]
    | false =>
      rw [cond_false, cond_false]
      by_cases h100 : (xs.length : Int) ≥ 100
      · rw [cond_pos h100, cond_pos h100]
      · rw [cond_neg h100, cond_neg h100]
        exact ins (by omega)
  · rw [cond_neg (fun h => hk (Int.ofNat_lt.1 h)), Option.bind_some, cond_false]
    have hh : hasL xs p = false := by unfold hasL; rw [decide_eq_false hk]; rfl
    unfold setL
    simp only
    rw [hh, cond_false]
    by_cases h100 : (xs.length : Int) ≥ 100
    · rw [cond_pos h100, cond_pos h100]
    · rw [cond_neg h100, cond_neg h100]
      exact ins (by omega)
def caseRset : VCase := ⟨[.lit (.ptr 0 (.tl 0) 0), .int .i64, .int .i64, .int .i64], [.box 1 [[.vl rowT]]], .int .i64, [.box 1 [[.vl rowT]]], fun ⟨_, p, s, o, _⟩ ⟨⟨⟨xs, _⟩, _⟩, _⟩ => [(decide (List.length xs ≤ 1000000), ((setL xs (p, s, o)).2, ((((setL xs (p, s, o)).1, ()), ()), ())))]⟩
theorem rset_ok : caseRset.e.ok P0 I.cooperageref10_Pids_Set := vcase_ok (c := caseRset) (H := H.rset2) (E := env []) (env_ok env_nil) glob0 mixed0 G.cooperageref10_Pids_Set Bd.cooperageref10_Pids_Set (by kernel_rfl) (loops_good (tab := [(2, rsLC)]) (by kernel_rfl) (fun x hx => by simp at hx; subst hx; exact rs_lok)) fun ⟨_, p, s, o, _⟩ ⟨⟨⟨xs, _⟩, _⟩, _⟩ r h hw1 hw2 => by
  obtain ⟨hc, rfl⟩ := pick_pre h
  exact rset_val xs p s o (of_decide_eq_true hc)
noncomputable abbrev consD1 : List (FuncId × Con) := [(I.cooperageref10_Pids_Set, .eff (effOf [caseRset.e])), (I.cooperagelaw11_SameRows, .pure (pureOf [caseSrows]))] ++ consC2
theorem consD1_ok : ∀ x ∈ consD1, HoldsC P0 x.1 x.2 := by
  intro x hx
  rcases List.mem_append.1 hx with hx | hx
  · simp at hx
    rcases hx with rfl | rfl
    · exact ⟨fun args objs r objs2 h _ => effOf_holds (by simp; exact rset_ok) args objs r objs2 h, C.cooperageref10_Pids_Set⟩
    · exact ⟨pureOf_holds (by simp; exact srows_ok), C.cooperagelaw11_SameRows⟩
  · exact consC2_ok x hx
def H.apart2 : Hint := { H.cooperagelaw11_DedupApart with join := [(2, 20)] }
theorem ap0_rd {R : Type} (l : List Int) (q : Int) (f : Bool) (i : Int) (ys : List Row3) (K : Ex → St → Option R) : roundK (env consD1) H.apart2 0 (LPof []) V.cooperagelaw11_DedupApart_7 L.cooperagelaw11_DedupApart_7 ⟨[(0, .vl (.int .i64) l), (1, .int .i64 q), (4, .bool f), (6, .ptr 0 (.tl 0) 0), (7, .ptr 1 (.tl 0) 0), (8, .int .i64 i)], [(0, .arr 1 .bool [] [[.nils]]), (1, .arr 1 .bool [] [[.nils]])], 2⟩ K = bif decide (i < (↑l.length : Int)) then bif decide ((0 : Int) ≤ i) && decide (i < (↑l.length : Int)) then bif l.getD i.toNat (0 : Int) == q then K Ex.ret { slots := [(0, AV.vl (Ty.int IntKind.i64) l), (1, AV.int IntKind.i64 q), (4, AV.bool true), (6, AV.ptr 0 (Elt.tl 0) 0), (7, AV.ptr 1 (Elt.tl 0) 0), (8, AV.int IntKind.i64 i)], objs := [(0, AObj.arr 1 Ty.bool [] [[AV.nils]]), (1, AObj.arr 1 Ty.bool [] [[AV.nils]])], nx := 2 } else bif decide ((0 : Int) ≤ i) && decide (i < (↑l.length : Int)) then bif decide ((0 : Int) ≤ i) && decide (i < (↑l.length : Int)) then K Ex.normal { slots := [(0, AV.vl (Ty.int IntKind.i64) l), (1, AV.int IntKind.i64 q), (4, AV.bool f), (6, AV.ptr 0 (Elt.tl 0) 0), (7, AV.ptr 2 (Elt.tl 0) 0), (8, AV.int IntKind.i64 (IntKind.i64.wrap (i + (1 : Int))))], objs := [(0, AObj.arr 1 Ty.bool [] [[AV.hw 1]]), (1, AObj.arr 3 ((Ty.int IntKind.i64).pair ((Ty.int IntKind.i64).pair (Ty.int IntKind.i64))) [(l.getD i.toNat (0 : Int), i, IntKind.i64.wrap ((2 : Int) * i))] []), (2, AObj.arr 1 Ty.bool [] [[AV.vl ((Ty.int IntKind.i64).pair ((Ty.int IntKind.i64).pair (Ty.int IntKind.i64))) (setL [] (l.getD i.toNat (0 : Int), i, IntKind.i64.wrap ((2 : Int) * i))).fst]])], nx := 3 } else none else none else none else K (Ex.exit 0) { slots := [(0, AV.vl (Ty.int IntKind.i64) l), (1, AV.int IntKind.i64 q), (4, AV.bool f), (6, AV.ptr 0 (Elt.tl 0) 0), (7, AV.ptr 1 (Elt.tl 0) 0), (8, AV.int IntKind.i64 i)], objs := [(0, AObj.arr 1 Ty.bool [] [[AV.nils]]), (1, AObj.arr 1 Ty.bool [] [[AV.nils]])], nx := 2 } := by kernel_rfl

theorem ap1_rd {R : Type} (l : List Int) (q : Int) (f : Bool) (i : Int) (xs ys : List Row3) (K : Ex → St → Option R) : roundK (env consD1) H.apart2 0 (LPof []) V.cooperagelaw11_DedupApart_7 L.cooperagelaw11_DedupApart_7 ⟨[(0, .vl (.int .i64) l), (1, .int .i64 q), (4, .bool f), (6, .ptr 0 (.tl 0) 0), (7, .ptr 2 (.tl 0) 0), (8, .int .i64 i)], [(0, .arr 1 .bool [] [[.hw 1]]), (1, .arr 3 rowT xs []), (2, .arr 1 .bool [] [[.vl rowT ys]])], 3⟩ K = bif decide (i < (↑l.length : Int)) then bif decide ((0 : Int) ≤ i) && decide (i < (↑l.length : Int)) then bif l.getD i.toNat (0 : Int) == q then K Ex.ret { slots := [(0, AV.vl (Ty.int IntKind.i64) l), (1, AV.int IntKind.i64 q), (4, AV.bool true), (6, AV.ptr 0 (Elt.tl 0) 0), (7, AV.ptr 2 (Elt.tl 0) 0), (8, AV.int IntKind.i64 i)], objs := [(0, AObj.arr 1 Ty.bool [] [[AV.hw 1]]), (1, AObj.arr 3 ((Ty.int IntKind.i64).pair ((Ty.int IntKind.i64).pair (Ty.int IntKind.i64))) xs []), (2, AObj.arr 1 Ty.bool [] [[AV.vl ((Ty.int IntKind.i64).pair ((Ty.int IntKind.i64).pair (Ty.int IntKind.i64))) ys]])], nx := 3 } else bif decide ((0 : Int) ≤ i) && decide (i < (↑l.length : Int)) then bif sortedL xs && decide (xs.length ≤ 1000000) && (hasL xs (l.getD i.toNat (0 : Int)) || decide ((↑xs.length : Int) ≥ (100 : Int))) then bif decide ((0 : Int) ≤ i) && decide (i < (↑l.length : Int)) then bif decide (ys.length ≤ 1000000) then K Ex.normal { slots := [(0, AV.vl (Ty.int IntKind.i64) l), (1, AV.int IntKind.i64 q), (4, AV.bool f), (6, AV.ptr 0 (Elt.tl 0) 0), (7, AV.ptr 2 (Elt.tl 0) 0), (8, AV.int IntKind.i64 (IntKind.i64.wrap (i + (1 : Int))))], objs := [(0, AObj.arr 1 Ty.bool [] [[AV.hw 1]]), (1, AObj.arr 3 ((Ty.int IntKind.i64).pair ((Ty.int IntKind.i64).pair (Ty.int IntKind.i64))) (setL xs (l.getD i.toNat (0 : Int), i, IntKind.i64.wrap ((2 : Int) * i))).fst []), (2, AObj.arr 1 Ty.bool [] [[AV.vl ((Ty.int IntKind.i64).pair ((Ty.int IntKind.i64).pair (Ty.int IntKind.i64))) (setL ys (l.getD i.toNat (0 : Int), i, IntKind.i64.wrap ((2 : Int) * i))).fst]])], nx := 3 } else none else none else bif sortedL xs && decide (xs.length ≤ 1000000) && !(hasL xs (l.getD i.toNat (0 : Int)) || decide ((↑xs.length : Int) ≥ (100 : Int))) then bif decide ((0 : Int) ≤ i) && decide (i < (↑l.length : Int)) then bif decide (ys.length ≤ 1000000) then K Ex.normal { slots := [(0, AV.vl (Ty.int IntKind.i64) l), (1, AV.int IntKind.i64 q), (4, AV.bool f), (6, AV.ptr 0 (Elt.tl 0) 0), (7, AV.ptr 2 (Elt.tl 0) 0), (8, AV.int IntKind.i64 (IntKind.i64.wrap (i + (1 : Int))))], objs := [(0, AObj.arr 1 Ty.bool [] [[AV.hw 1]]), (1, AObj.arr 3 ((Ty.int IntKind.i64).pair ((Ty.int IntKind.i64).pair (Ty.int IntKind.i64))) (setL xs (l.getD i.toNat (0 : Int), i, IntKind.i64.wrap ((2 : Int) * i))).fst []), (2, AObj.arr 1 Ty.bool [] [[AV.vl ((Ty.int IntKind.i64).pair ((Ty.int IntKind.i64).pair (Ty.int IntKind.i64))) (setL ys (l.getD i.toNat (0 : Int), i, IntKind.i64.wrap ((2 : Int) * i))).fst]])], nx := 3 } else none else none else none else none else none else K (Ex.exit 0) { slots := [(0, AV.vl (Ty.int IntKind.i64) l), (1, AV.int IntKind.i64 q), (4, AV.bool f), (6, AV.ptr 0 (Elt.tl 0) 0), (7, AV.ptr 2 (Elt.tl 0) 0), (8, AV.int IntKind.i64 i)], objs := [(0, AObj.arr 1 Ty.bool [] [[AV.hw 1]]), (1, AObj.arr 3 ((Ty.int IntKind.i64).pair ((Ty.int IntKind.i64).pair (Ty.int IntKind.i64))) xs []), (2, AObj.arr 1 Ty.bool [] [[AV.vl ((Ty.int IntKind.i64).pair ((Ty.int IntKind.i64).pair (Ty.int IntKind.i64))) ys]])], nx := 3 } := by kernel_rfl

/-- The table that the first calls leave. -/
def tabA (l : List Int) : Nat → List Row3
  | 0 => []
  | j + 1 => (setL (tabA l j) (l.getD j 0, (j : Int), 2 * (j : Int))).1
theorem tabA_ok (l : List Int) : ∀ j, sortedL (tabA l j) = true ∧ (tabA l j).length ≤ 100
  | 0 => ⟨rfl, by simp [tabA]⟩
  | j + 1 => ⟨set_sorted _ (tabA_ok l j).1, set_len _ _ (tabA_ok l j).2⟩
theorem put_mem {xs : List Row3} {k t : Nat} {r x : Row3} (h : x ∈ putAt xs k t r) : x ∈ xs ∨ x = r := by
  unfold putAt at h
  rcases List.mem_append.1 h with h | h
  · exact .inl (List.mem_of_mem_take h)
  · rcases List.mem_cons.1 h with h | h
    · exact .inr h
    · exact .inl (List.mem_of_mem_drop h)
theorem set_mem {xs : List Row3} {r x : Row3} (h : x ∈ (setL xs r).1) : x ∈ xs ∨ x = r := by
  unfold setL at h
  cases hh : hasL xs r.1 with
  | true => rw [hh] at h; exact put_mem h
  | false =>
    rw [hh] at h
    by_cases h100 : (xs.length : Int) ≥ 100
    · rw [cond_false, cond_pos h100] at h; exact .inl h
    · rw [cond_false, cond_neg h100] at h; exact put_mem h
theorem set_pos (xs : List Row3) (r : Row3) : 0 < (setL xs r).1.length := by
  unfold setL
  cases hh : hasL xs r.1 with
  | true => simp only [cond_true, putAt, List.length_append, List.length_cons]; omega
  | false =>
    by_cases h100 : (xs.length : Int) ≥ 100
    · rw [cond_false, cond_pos h100]; simp only; omega
    · rw [cond_false, cond_neg h100]; simp only [putAt, List.length_append, List.length_cons]; omega
theorem tabA_mem (l : List Int) : ∀ (j : Nat) (x : Row3), x ∈ tabA l j → ∃ i, i < j ∧ x.1 = l.getD i 0
  | 0, x, h => by cases h
  | j + 1, x, h => by
    rcases set_mem h with h | h
    · obtain ⟨i, h1, h2⟩ := tabA_mem l j x h
      exact ⟨i, by omega, h2⟩
    · exact ⟨j, by omega, by rw [h]⟩
theorem hasL_mem {xs : List Row3} {p : Int} (h : hasL xs p = true) : ∃ x ∈ xs, x.1 = p := by
  have hk := has_lt h
  unfold hasL at h
  simp only [Bool.and_eq_true, decide_eq_true_eq, beq_iff_eq] at h
  refine ⟨xs[posL xs p], List.getElem_mem hk, ?_⟩
  have := h.2
  unfold atL at this
  rwa [List.getD_eq_getElem?_getD, List.getElem?_eq_getElem hk] at this
def ap0St (l : List Int) (q : Int) (f : Bool) : St := ⟨[(0, .vl (.int .i64) l), (1, .int .i64 q), (4, .bool f), (6, .ptr 0 (.tl 0) 0), (7, .ptr 1 (.tl 0) 0), (8, .int .i64 0)], [(0, .arr 1 .bool [] [[.nils]]), (1, .arr 1 .bool [] [[.nils]])], 2⟩
def ap1St (l : List Int) (q : Int) (f : Bool) (i : Nat) : St := ⟨[(0, .vl (.int .i64) l), (1, .int .i64 q), (4, .bool f), (6, .ptr 0 (.tl 0) 0), (7, .ptr 2 (.tl 0) 0), (8, .int .i64 i)], [(0, .arr 1 .bool [] [[.hw 1]]), (1, .arr 3 rowT (tabA l i) []), (2, .arr 1 .bool [] [[.vl rowT (tabA l i)]])], 3⟩
theorem both {α : Type} (a b : Bool) (x y : α) (h : a = true) : (bif a && b then x else bif a && !b then x else y) = x := by rw [h]; cases b <;> rfl
def isQ (l : List Int) (q : Int) (i : Nat) : Bool := l.getD i 0 == q
theorem ap_round {R : Type} (l : List Int) (q : Int) (f : Bool) (hl : l.length ≤ 30) (i : Nat) (hi : i < l.length) (K : Ex → St → Option R) : roundK (env consD1) H.apart2 0 (LPof []) V.cooperagelaw11_DedupApart_7 L.cooperagelaw11_DedupApart_7 (ap1St l q f i) K =
    bif isQ l q i then K .ret (ap1St l q true i) else K .normal (ap1St l q f (i + 1)) := by
  refine (ap1_rd _ _ _ _ _ _ _).trans ?_
  obtain ⟨h1, h2⟩ := tabA_ok l i
  have hb : (sortedL (tabA l i) && decide ((tabA l i).length ≤ 1000000)) = true := by rw [h1]; simp; omega
  have e2 : IntKind.i64.wrap (2 * (i : Int)) = 2 * (i : Int) := wrap64 (by omega) (by omega)
  have e3 : IntKind.i64.wrap ((i : Int) + 1) = ((i + 1 : Nat) : Int) := by rw [wrap64 (by omega) (by omega)]; omega
  rw [cond_pos (by omega), cond_pos2 (by omega) (by omega), Int.toNat_natCast]
  unfold isQ
  cases l.getD i 0 == q with
  | true => rfl
  | false =>
    rw [cond_false, cond_false, cond_pos2 (by omega) (by omega), both _ _ _ _ hb, cond_pos (by omega), e2, e3, cond_pos2 (by omega) (by omega)]
    rfl
theorem ap_rounds {R : Type} (l : List Int) (q : Int) (f : Bool) (hl : l.length ≤ 30) (h0 : 0 < l.length) (K : Ex → St → Option R) : ∃ m, rounds (env consD1) H.apart2 0 (LPof []) V.cooperagelaw11_DedupApart_7 L.cooperagelaw11_DedupApart_7 m (ap0St l q f) K =
    bif isQ l q 0 then K .ret (ap0St l q true) else match firstFrom (isQ l q) 1 (l.length - 1) with
      | some j => K .ret (ap1St l q true j)
      | none => K (.exit 0) (ap1St l q f l.length) := by
  have hs := search_rounds (S := ap1St l q f) (T := ap1St l q true) (p := isQ l q) (n := l.length) (e1 := .ret) (e2 := .exit 0) (s2 := ap1St l q f l.length) (by simp) (by simp) (fun i hi K => ap_round l q f hl i hi K) (fun K => by
    refine (ap1_rd _ _ _ _ _ _ _).trans ?_
    rw [cond_neg (by omega)]
    rfl) K (l.length - 1) 1 (by omega)
  refine ⟨l.length - 1 + 1 + 1, ?_⟩
  rw [rounds_succ']
  refine (ap0_rd l q f 0 [] _).trans ?_
  rw [cond_pos (by omega), cond_pos2 (by omega) (by omega)]
  show (bif l.getD 0 0 == q then _ else _) = bif l.getD 0 0 == q then _ else _
  cases l.getD 0 0 == q with
  | true => rfl
  | false =>
    rw [cond_false, cond_false, cond_pos2 (by omega) (by omega), cond_pos2 (by omega) (by omega)]
    exact hs
abbrev apLC : LoopC := LoopC.of ⟨[(0, .vl (.int .i64)), (1, .int .i64), (4, .bool), (6, .lit (.ptr 0 (.tl 0) 0)), (7, .lit (.ptr 1 (.tl 0) 0)), (8, .int .i64)], [.box 1 [[.lit .nils]], .box 1 [[.lit .nils]]]⟩ (fun x => decide (List.length x.1.1 ≤ 30) && decide (x.1.2.2.2.2.2.1 = 0))
  fun x => [(decide (List.length x.1.1 = 0), .exit 0, ap0St x.1.1 x.1.2.1 x.1.2.2.1), (isQ x.1.1 x.1.2.1 0, .ret, ap0St x.1.1 x.1.2.1 true),
    ((firstFrom (isQ x.1.1 x.1.2.1) 1 (List.length x.1.1 - 1)).isSome, .ret, ap1St x.1.1 x.1.2.1 true ((firstFrom (isQ x.1.1 x.1.2.1) 1 (List.length x.1.1 - 1)).getD 0)), (true, .exit 0, ap1St x.1.1 x.1.2.1 x.1.2.2.1 (List.length x.1.1))]
theorem ap_go (l : List Int) (q : Int) (f : Bool) (hl : l.length ≤ 30) : ∃ m, rounds (env consD1) H.apart2 0 (LPof []) V.cooperagelaw11_DedupApart_7 L.cooperagelaw11_DedupApart_7 m (ap0St l q f) (fun e s => some (e, s)) =
    pick [(decide (l.length = 0), Ex.exit 0, ap0St l q f), (isQ l q 0, .ret, ap0St l q true), ((firstFrom (isQ l q) 1 (l.length - 1)).isSome, .ret, ap1St l q true ((firstFrom (isQ l q) 1 (l.length - 1)).getD 0)), (true, .exit 0, ap1St l q f l.length)] := by
  by_cases h0 : l.length = 0
  · refine ⟨1, ?_⟩
    rw [rounds_succ']
    refine (ap0_rd l q f 0 [] _).trans ?_
    rw [cond_neg (by omega)]
    simp only [pick]
    rw [cond_pos h0]
    rfl
  · obtain ⟨m, hm⟩ := ap_rounds l q f hl (by omega) (fun e s => some (e, s))
    refine ⟨m, hm.trans ?_⟩
    simp only [pick]
    rw [cond_neg h0]
    cases isQ l q 0 with
    | true => rfl
    | false =>
      simp only [cond_false]
      cases firstFrom (isQ l q) 1 (l.length - 1) <;> rfl
theorem ap_lok : LoopOK P0 H.apart2 0 L.cooperagelaw11_DedupApart_7 apLC :=
  loop_ok_of (env_ok consD1_ok) glob0 mixed0 noLoops V.cooperagelaw11_DedupApart_7 (by decide) fun ⟨⟨l, q, f, _, _, i, _⟩, _⟩ h hw => by
    simp only [Bool.and_eq_true, decide_eq_true_eq] at h
    obtain ⟨h1, rfl⟩ := h
    exact ap_go l q f h1
theorem apart_ev (l : List Int) (q : Int) : evFn (env consD1) H.apart2 (LPof [(7, apLC)]) F.cooperagelaw11_DedupApart [.vl (.int .i64) l, .int .i64 q] [] (finT [.bool]) = bif decide ((↑l.length : Int) > (30 : Int)) then some (true, ()) else bif decide (l.length ≤ 30) && true && decide (l.length = 0) then some (true, ()) else bif decide (l.length ≤ 30) && true && isQ l q 0 then some (true, ()) else bif decide (l.length ≤ 30) && true && (firstFrom (isQ l q) 1 (l.length - 1)).isSome then some (true, ()) else bif decide (l.length ≤ 30) && true && true then bif sortedL (tabA l l.length) && decide ((tabA l l.length).length ≤ 1000000) then bif sortedL (tabA l l.length) && decide ((tabA l l.length).length ≤ 1000000) then bif (askL (tabA l l.length) q (0 : Int)).fst == (0 : Int) then bif (askL (tabA l l.length) q (0 : Int)).snd == (0 : Int) then bif (askL (tabA l l.length) q (1 : Int)).fst == (2 : Int) then bif decide (0 < (tabA l l.length).length) && decide ((tabA l l.length).length ≤ 1000000) then some (decide (tabA l l.length = tabA l l.length), ()) else none else some (false, ()) else some (false, ()) else some (false, ()) else none else none else none := by kernel_rfl

theorem apart_val (l : List Int) (q : Int) : evFn (env consD1) H.apart2 (LPof [(7, apLC)]) F.cooperagelaw11_DedupApart [.vl (.int .i64) l, .int .i64 q] [] (finT [.bool]) = some (true, ()) := by
  rw [apart_ev]
  by_cases h1 : (l.length : Int) > 30
  · rw [cond_pos h1]
  · have h30 : l.length ≤ 30 := by omega
    rw [cond_neg h1]
    simp only [h30, decide_true, Bool.true_and]
    by_cases h0 : l.length = 0
    · rw [cond_pos h0]
    · rw [cond_neg h0]
      cases hq0 : isQ l q 0 with
      | true => rfl
      | false =>
        rw [cond_false]
        cases hf : firstFrom (isQ l q) 1 (l.length - 1) with
        | some j => rfl
        | none =>
          have hn := firstFrom_none hf
          obtain ⟨k1, k2⟩ := tabA_ok l l.length
          have hh : hasL (tabA l l.length) q = false := by
            cases hh : hasL (tabA l l.length) q with
            | false => rfl
            | true =>
              obtain ⟨x, hx, hxq⟩ := hasL_mem hh
              obtain ⟨i, hi, hi2⟩ := tabA_mem l l.length x hx
              have : isQ l q i = true := by unfold isQ; rw [← hi2, hxq]; simp
              rcases Nat.eq_zero_or_pos i with h | h
              · subst h; rw [this] at hq0; cases hq0
              · rw [hn i h (by omega)] at this; cases this
          have a0 : askL (tabA l l.length) q 0 = (0, 0) := by unfold askL; rw [hh]; rfl
          have a1 : askL (tabA l l.length) q 1 = (2, 0) := by unfold askL; rw [hh]; rfl
          have hb : decide ((tabA l l.length).length ≤ 1000000) = true := by simp; omega
          have hp : decide (0 < (tabA l l.length).length) = true := by
            obtain ⟨m, hm⟩ : ∃ m, l.length = m + 1 := ⟨l.length - 1, by omega⟩
            rw [hm]
            exact decide_eq_true (set_pos _ _)
          simp only [Option.isSome_none, cond_false, cond_true, k1, hb, hp, a0, a1, beq_self_eq_true, decide_true, Bool.and_self]
def caseApart : PCase := ⟨[.ty (.sl (.int .i64)), .ty (.int .i64)], [.bool], fun x => [(true, (true, ()))]⟩
theorem apart_ok : caseApart.ok P0 I.cooperagelaw11_DedupApart := case_ok2 (H := H.apart2) (E := env consD1) (env_ok consD1_ok) glob0 mixed0 G.cooperagelaw11_DedupApart Bd.cooperagelaw11_DedupApart (by kernel_rfl) (loops_good (tab := [(7, apLC)]) (by kernel_rfl) (fun x hx => by simp at hx; subst hx; exact ap_lok)) fun ⟨l, q, ()⟩ y h hw => by
  obtain ⟨hc, rfl⟩ := pick_pre h
  exact apart_val l q
theorem apart_good (x : tysDen [.sl (.int .i64), .int .i64]) (hw : tysWf [.sl (.int .i64), .int .i64] x) : ∃ o, EffGood P0 I.cooperagelaw11_DedupApart (valsOf [.sl (.int .i64), .int .i64] x) [] (.bool true) o := apart_ok x (true, ()) rfl hw
end Go.Sim
namespace Go.Sim
set_option linter.unusedSimpArgs false
set_option linter.unusedVariables false
set_option maxRecDepth 10000
theorem rask_rd {R : Type} (xs : List Row3) (p s a b i : Int) (K : Ex → St → Option R) : roundK (env []) H.cooperageref10_Pids_Ask 1 (LPof []) V.cooperageref10_Pids_Ask_2 L.cooperageref10_Pids_Ask_2 ⟨[(0, .ptr 0 (.tl 0) 0), (1, .int .i64 p), (2, .int .i64 s), (6, .int .i64 a), (7, .int .i64 b), (8, .int .i64 i)], [(0, .arr 1 .bool [] [[.vl rowT xs]])], 1⟩ K = bif decide (i < (↑xs.length : Int)) then bif decide ((0 : Int) ≤ i) && decide (i < (↑xs.length : Int)) then bif (xs.getD i.toNat rowT.zero).fst != p then K Ex.normal { slots := [(0, AV.ptr 0 (Elt.tl 0) 0), (1, AV.int IntKind.i64 p), (2, AV.int IntKind.i64 s), (6, AV.int IntKind.i64 a), (7, AV.int IntKind.i64 b), (8, AV.int IntKind.i64 (IntKind.i64.wrap (i + (1 : Int))))], objs := [(0, AObj.arr 1 Ty.bool [] [[AV.vl ((Ty.int IntKind.i64).pair ((Ty.int IntKind.i64).pair (Ty.int IntKind.i64))) xs]])], nx := 1 } else bif (xs.getD i.toNat rowT.zero).snd.fst == s then K Ex.ret { slots := [(0, AV.ptr 0 (Elt.tl 0) 0), (1, AV.int IntKind.i64 p), (2, AV.int IntKind.i64 s), (6, AV.int IntKind.i64 (1 : Int)), (7, AV.int IntKind.i64 (xs.getD i.toNat rowT.zero).snd.snd), (8, AV.int IntKind.i64 i)], objs := [(0, AObj.arr 1 Ty.bool [] [[AV.vl ((Ty.int IntKind.i64).pair ((Ty.int IntKind.i64).pair (Ty.int IntKind.i64))) xs]])], nx := 1 } else Option.bind (bif decide ((xs.getD i.toNat rowT.zero).snd.fst < s) then some ((xs.getD i.toNat rowT.zero).snd.fst == IntKind.i64.wrap (s - (1 : Int))) else some false) fun v => bif v then K Ex.ret { slots := [(0, AV.ptr 0 (Elt.tl 0) 0), (1, AV.int IntKind.i64 p), (2, AV.int IntKind.i64 s), (6, AV.int IntKind.i64 (0 : Int)), (7, AV.int IntKind.i64 (0 : Int)), (8, AV.int IntKind.i64 i)], objs := [(0, AObj.arr 1 Ty.bool [] [[AV.vl ((Ty.int IntKind.i64).pair ((Ty.int IntKind.i64).pair (Ty.int IntKind.i64))) xs]])], nx := 1 } else K Ex.ret { slots := [(0, AV.ptr 0 (Elt.tl 0) 0), (1, AV.int IntKind.i64 p), (2, AV.int IntKind.i64 s), (6, AV.int IntKind.i64 (2 : Int)), (7, AV.int IntKind.i64 (0 : Int)), (8, AV.int IntKind.i64 i)], objs := [(0, AObj.arr 1 Ty.bool [] [[AV.vl ((Ty.int IntKind.i64).pair ((Ty.int IntKind.i64).pair (Ty.int IntKind.i64))) xs]])], nx := 1 } else none else K (Ex.exit 0) { slots := [(0, AV.ptr 0 (Elt.tl 0) 0), (1, AV.int IntKind.i64 p), (2, AV.int IntKind.i64 s), (6, AV.int IntKind.i64 a), (7, AV.int IntKind.i64 b), (8, AV.int IntKind.i64 i)], objs := [(0, AObj.arr 1 Ty.bool [] [[AV.vl ((Ty.int IntKind.i64).pair ((Ty.int IntKind.i64).pair (Ty.int IntKind.i64))) xs]])], nx := 1 } := by kernel_rfl

def rowAns (r : Row3) (s : Int) : Int × Int := bif r.2.1 == s then (1, r.2.2) else bif decide (r.2.1 < s) && r.2.1 == s - 1 then (0, 0) else (2, 0)
theorem ask_row (xs : List Row3) (p s : Int) : askL xs p s = bif hasL xs p then rowAns (atL xs (posL xs p)) s else bif s == 0 then (0, 0) else (2, 0) := rfl
def isP (xs : List Row3) (p : Int) (i : Nat) : Bool := (xs.getD i rowT.zero).1 == p
theorem first_pos {xs : List Row3} {p : Int} (hs : sortedL xs = true) : firstFrom (isP xs p) 0 xs.length = bif hasL xs p then some (posL xs p) else none := by
  cases hf : firstFrom (isP xs p) 0 xs.length with
  | some j =>
    obtain ⟨_, h2, h3, h4⟩ := firstFrom_spec hf
    have hj : j < xs.length := by omega
    have hjp : (atL xs j).1 = p := by unfold isP at h3; exact eq_of_beq h3
    have hp : posL xs p = j := pos_eq (by omega) (fun i hi => by have := sorted_lt hs hi hj; omega) (fun _ => by omega)
    have hh : hasL xs p = true := by unfold hasL; rw [hp, decide_eq_true hj, hjp]; simp
    rw [hh, hp]; rfl
  | none =>
    have hn := firstFrom_none hf
    cases hh : hasL xs p with
    | false => rfl
    | true =>
      have hk := has_lt hh
      unfold hasL at hh
      simp only [Bool.and_eq_true, decide_eq_true_eq] at hh
      have := hn (posL xs p) (Nat.zero_le _) (by omega)
      unfold isP at this
      have h2 : ((xs.getD (posL xs p) rowT.zero).1 == p) = true := hh.2
      rw [this] at h2; cases h2
def raSt (xs : List Row3) (p s a b : Int) (i : Nat) : St := ⟨[(0, .ptr 0 (.tl 0) 0), (1, .int .i64 p), (2, .int .i64 s), (6, .int .i64 a), (7, .int .i64 b), (8, .int .i64 i)], [(0, .arr 1 .bool [] [[.vl rowT xs]])], 1⟩
abbrev raLC : LoopC := LoopC.of ⟨[(0, .lit (.ptr 0 (.tl 0) 0)), (1, .int .i64), (2, .int .i64), (6, .int .i64), (7, .int .i64), (8, .int .i64)], [.box 1 [[.vl rowT]]]⟩ (fun x => decide (x.1.2.2.2.2.2.1 = 0) && decide (List.length x.2.1.1.1 ≤ 1000000))
  fun x => [((firstFrom (isP x.2.1.1.1 x.1.2.1) 0 (List.length x.2.1.1.1)).isSome, .ret, raSt x.2.1.1.1 x.1.2.1 x.1.2.2.1 (rowAns (x.2.1.1.1.getD ((firstFrom (isP x.2.1.1.1 x.1.2.1) 0 (List.length x.2.1.1.1)).getD 0) rowT.zero) x.1.2.2.1).1 (rowAns (x.2.1.1.1.getD ((firstFrom (isP x.2.1.1.1 x.1.2.1) 0 (List.length x.2.1.1.1)).getD 0) rowT.zero) x.1.2.2.1).2 ((firstFrom (isP x.2.1.1.1 x.1.2.1) 0 (List.length x.2.1.1.1)).getD 0)),
    (true, .exit 0, raSt x.2.1.1.1 x.1.2.1 x.1.2.2.1 x.1.2.2.2.1 x.1.2.2.2.2.1 (List.length x.2.1.1.1))]
theorem ra_go (xs : List Row3) (p s a b : Int) (hn : xs.length ≤ 1000000) (hs : In .i64 s) (hx : ∀ r ∈ xs, wfT rowT r) : ∃ m, rounds (env []) H.cooperageref10_Pids_Ask 1 (LPof []) V.cooperageref10_Pids_Ask_2 L.cooperageref10_Pids_Ask_2 m (raSt xs p s a b 0) (fun e s => some (e, s)) =
    pick [((firstFrom (isP xs p) 0 xs.length).isSome, Ex.ret, raSt xs p s (rowAns (xs.getD ((firstFrom (isP xs p) 0 xs.length).getD 0) rowT.zero) s).1 (rowAns (xs.getD ((firstFrom (isP xs p) 0 xs.length).getD 0) rowT.zero) s).2 ((firstFrom (isP xs p) 0 xs.length).getD 0)), (true, .exit 0, raSt xs p s a b xs.length)] := by
  refine ⟨_, Eq.trans (search_rounds (S := raSt xs p s a b) (T := fun j => raSt xs p s (rowAns (xs.getD j rowT.zero) s).1 (rowAns (xs.getD j rowT.zero) s).2 j) (p := isP xs p) (n := xs.length) (e1 := .ret) (e2 := .exit 0) (s2 := raSt xs p s a b xs.length) (by simp) (by simp) (fun i hi K => ?_) (fun K => ?_) _ xs.length 0 (by omega)) search_pick⟩
  · refine (rask_rd _ _ _ _ _ _ _).trans ?_
    have hw := at_in hx hi
    rw [cond_pos (by omega), cond_pos2 (by omega) (by omega), Int.toNat_natCast, wrap64 (n := (i : Int) + 1) (by omega) (by omega)]
    show _ = bif (xs.getD i rowT.zero).1 == p then _ else _
    unfold bne
    cases (xs.getD i rowT.zero).1 == p with
    | false => rfl
    | true =>
      simp only [Bool.not_true, cond_false, cond_true]
      unfold rowAns
      cases (xs.getD i rowT.zero).2.1 == s with
      | true => rfl
      | false =>
        simp only [cond_false]
        by_cases h2 : (xs.getD i rowT.zero).2.1 < s
        · have h3 := In.i64.1 hs
          have h4 := In.i64.1 hw.2.1
          rw [decide_eq_true h2, cond_true, Option.bind_some, Bool.true_and, wrap64 (n := s - 1) (by omega) (by omega)]
          cases (xs.getD i rowT.zero).2.1 == s - 1 <;> rfl
        · rw [decide_eq_false h2]; rfl
  · refine (rask_rd _ _ _ _ _ _ _).trans ?_
    rw [cond_neg (by omega)]
    rfl
theorem ra_lok : LoopOK P0 H.cooperageref10_Pids_Ask 1 L.cooperageref10_Pids_Ask_2 raLC :=
  loop_ok_of (env_ok env_nil) glob0 mixed0 noLoops V.cooperageref10_Pids_Ask_2 (by decide) fun ⟨⟨_, p, s, a, b, i, _⟩, ⟨⟨xs, _⟩, _⟩, _⟩ h hw => by
    simp only [Bool.and_eq_true, decide_eq_true_eq] at h
    obtain ⟨rfl, h2⟩ := h
    exact ra_go xs p s a b h2 hw.1.2.2.1 hw.2.1.1.1.2
theorem rask_ev (xs : List Row3) (p s : Int) : evFn (env []) H.cooperageref10_Pids_Ask (LPof [(2, raLC)]) F.cooperageref10_Pids_Ask [.ptr 0 (.tl 0) 0, .int .i64 p, .int .i64 s] [.arr 1 .bool [] [[.vl rowT xs]]] (finV (.tup [.int .i64, .int .i64]) [.box 1 [[.vl rowT]]] 1) = bif decide (xs.length ≤ 1000000) && (firstFrom (isP xs p) 0 xs.length).isSome then some (((rowAns (xs.getD ((firstFrom (isP xs p) 0 xs.length).getD 0) rowT.zero) s).fst, (rowAns (xs.getD ((firstFrom (isP xs p) 0 xs.length).getD 0) rowT.zero) s).snd, ()), ((xs, ()), ()), ()) else bif decide (xs.length ≤ 1000000) && true then bif s == (0 : Int) then some (((0 : Int), (0 : Int), ()), ((xs, ()), ()), ()) else some (((2 : Int), (0 : Int), ()), ((xs, ()), ()), ()) else none := by kernel_rfl

def caseRask : VCase := ⟨[.lit (.ptr 0 (.tl 0) 0), .int .i64, .int .i64], [.box 1 [[.vl rowT]]], .tup [.int .i64, .int .i64], [.box 1 [[.vl rowT]]], fun ⟨_, p, s, ()⟩ ⟨⟨⟨xs, ()⟩, ()⟩, ()⟩ => [(sortedL xs && decide (List.length xs ≤ 1000000), (((askL xs p s).1, (askL xs p s).2, ()), ((((xs, ()), ()), ()))))]⟩
theorem rask_val (xs : List Row3) (p s : Int) (hc : (sortedL xs && decide (List.length xs ≤ 1000000)) = true) : evFn (env []) H.cooperageref10_Pids_Ask (LPof [(2, raLC)]) F.cooperageref10_Pids_Ask [.ptr 0 (.tl 0) 0, .int .i64 p, .int .i64 s] [.arr 1 .bool [] [[.vl rowT xs]]] (finV (.tup [.int .i64, .int .i64]) [.box 1 [[.vl rowT]]] 1) = some (((askL xs p s).1, (askL xs p s).2, ()), ((((xs, ()), ()), ()))) := by
  simp only [Bool.and_eq_true] at hc
  rw [rask_ev, first_pos hc.1, ask_row, hc.2]
  cases hasL xs p with
  | true => rfl
  | false =>
    simp only [cond_false, Option.isSome_none, Bool.true_and, Bool.and_false, cond_true]
    cases s == 0 <;> rfl
theorem rask_ok : caseRask.e.ok P0 I.cooperageref10_Pids_Ask := vcase_ok (c := caseRask) (H := H.cooperageref10_Pids_Ask) (E := env []) (env_ok env_nil) glob0 mixed0 G.cooperageref10_Pids_Ask Bd.cooperageref10_Pids_Ask (by kernel_rfl) (loops_good (tab := [(2, raLC)]) (by kernel_rfl) (fun x hx => by simp at hx; subst hx; exact ra_lok)) fun ⟨_, p, s, ()⟩ ⟨⟨⟨xs, ()⟩, ()⟩, ()⟩ r h hw1 hw2 => by
  obtain ⟨hc, rfl⟩ := pick_pre h
  exact rask_val xs p s hc
end Go.Sim
