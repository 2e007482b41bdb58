/-
  WkS2: walks of loops over records. · WkS3: walks of command.Right, of the document's Right and of service.Check. · PlDed: tables of producers: the plain side. · WkD1: walks of slices.BinarySearchFunc and slices.Insert. · WkD2: slices.Insert, in parts (states written by a tool). · WkD3: slices.Insert, in parts (states written by a tool). · WkD4: slices.Insert: what it leaves. · WkD5: contracts of slices.Insert and slices.BinarySearchFunc. · WkD6: walks of dedup's table. · WkX1: walks of a state: New, Apply. · WkX2: walks of a state: since. · WkX3: walks of the law StateSince. · SimLps: loops with several contracts each: the first one that is written as the state is. · WkX4: walks of the law StateOnce. · WkX5: StateOnce: the inner loop. · WkY2: walks of a log: Find; fetching. · WkY3: what reading gives: the plain side of StateReads. · WkY4: walks of the law StateReads. · WkX6: StateOnce: the outer loop. · WkX7: the law StateOnce. · WkY5: StateReads: its first and its inner loop.
-/
import Derived.Lib.Overlaps
import Derived.Test.YtpkobajkogcmkaaGreatDoorPartE
namespace Go.Sim.XS
set_option linter.unusedSimpArgs false
set_option linter.unusedVariables false
noncomputable abbrev consA1 : List (FuncId × Con) := [(I.record_Right, .pure (pureOf [caseRecright]))]
theorem consA1_ok : ∀ x ∈ consA1, HoldsC P0 x.1 x.2 := by
  intro x hx
  simp at hx
  subst hx
  exact ⟨pureOf_holds (by simp; exact recright_ok), C.record_Right⟩
theorem rec1_ev (r : recT.den) : evFn (env consA1) H.command_records_1 (LPof []) F.command_records_1 [valOf recT r] [] (finT [.bool]) = Option.bind (bif r.fst != (0 : Int) then some true else some !recR r) fun v => some (v, ()) := by kernel_rfl

def caseRec1 : PCase := ⟨[.ty recT], [.bool], fun x => (fun (r : Rec) => [(true, ((r.1 != 0 || !recR r), ()))]) x.1⟩
theorem rec1_val (r : Rec) : evFn (env consA1) H.command_records_1 (LPof []) F.command_records_1 [valOf recT r] [] (finT [.bool]) = some ((r.1 != 0 || !recR r), ()) := by
  rw [rec1_ev]; simp only [or_bif, Option.bind_some]
theorem rec1_ok : caseRec1.ok P0 I.command_records_1 := case_ok2 (H := H.command_records_1) (E := env consA1) (env_ok consA1_ok) glob0 mixed0 G.command_records_1 Bd.command_records_1 (by kernel_rfl) noLoops fun ⟨r, ()⟩ y h hw => by
  obtain ⟨hc, rfl⟩ := pick_pre h
  exact rec1_val r
noncomputable abbrev consA2 : List (FuncId × Con) := [(I.command_records_1, .pure (pureOf [caseRec1]))]
theorem consA2_ok : ∀ x ∈ consA2, HoldsC P0 x.1 x.2 := by
  intro x hx
  simp at hx
  subst hx
  exact ⟨pureOf_holds (by simp; exact rec1_ok), C.command_records_1⟩
def difB (a b : List Rec) (i : Nat) : Bool := !(recEqB (a.getD i recTy.zero) (b.getD i recTy.zero))
theorem equal_rd {R : Type} (a b : List Rec) (f : Bool) (n i : Int) (K : Ex → St → Option R) : roundK (env []) H.slices_Equal_api_Record_api_Record 0 (LPof []) V.slices_Equal_api_Record_api_Record_4 L.slices_Equal_api_Record_api_Record_4 ⟨[(0, .vl recT a), (1, .vl recT b), (4, .bool f), (12, .int .i64 n), (13, .int .i64 i)], [], 0⟩ K = bif decide (i < n) then bif decide ((0 : Int) ≤ i) && decide (i < (↑a.length : Int)) then bif decide ((0 : Int) ≤ i) && decide (i < (↑b.length : Int)) then bif !((a.getD i.toNat recTy.zero).fst == (b.getD i.toNat recTy.zero).fst && ((a.getD i.toNat recTy.zero).snd.fst == (b.getD i.toNat recTy.zero).snd.fst && ((a.getD i.toNat recTy.zero).snd.snd.fst == (b.getD i.toNat recTy.zero).snd.snd.fst && ((a.getD i.toNat recTy.zero).snd.snd.snd.fst == (b.getD i.toNat recTy.zero).snd.snd.snd.fst && ((a.getD i.toNat recTy.zero).snd.snd.snd.snd == (b.getD i.toNat recTy.zero).snd.snd.snd.snd && true))))) then K Ex.ret { slots := [(0, AV.vl recTy a), (1, AV.vl recTy b), (4, AV.bool false), (12, AV.int IntKind.i64 n), (13, AV.int IntKind.i64 i)], objs := [], nx := 0 } else K Ex.normal { slots := [(0, AV.vl recTy a), (1, AV.vl recTy b), (4, AV.bool f), (12, AV.int IntKind.i64 n), (13, AV.int IntKind.i64 (IntKind.i64.wrap (i + (1 : Int))))], objs := [], nx := 0 } else none else none else K (Ex.exit 0) { slots := [(0, AV.vl recTy a), (1, AV.vl recTy b), (4, AV.bool f), (12, AV.int IntKind.i64 n), (13, AV.int IntKind.i64 i)], objs := [], nx := 0 } := by kernel_rfl

theorem index1_rd {R : Type} (a : List Rec) (f n i : Int) (K : Ex → St → Option R) : roundK (env consA2) H.slices_IndexFunc_api_Record_api_Record 0 (LPof []) V.slices_IndexFunc_api_Record_api_Record_2 L.slices_IndexFunc_api_Record_api_Record_2 ⟨[(0, .vl recT a), (1, .fn (.func I.command_records_1) [] []), (4, .int .i64 f), (7, .int .i64 n), (8, .int .i64 i)], [], 0⟩ K = bif decide (i < n) then bif decide ((0 : Int) ≤ i) && decide (i < (↑a.length : Int)) then bif (a.getD i.toNat recTy.zero).fst != (0 : Int) || !recR (a.getD i.toNat recTy.zero) then K Ex.ret { slots := [(0, AV.vl recTy a), (1, AV.fn (Fn.func 144) [] []), (4, AV.int IntKind.i64 i), (7, AV.int IntKind.i64 n), (8, AV.int IntKind.i64 i)], objs := [], nx := 0 } else K Ex.normal { slots := [(0, AV.vl recTy a), (1, AV.fn (Fn.func 144) [] []), (4, AV.int IntKind.i64 f), (7, AV.int IntKind.i64 n), (8, AV.int IntKind.i64 (IntKind.i64.wrap (i + (1 : Int))))], objs := [], nx := 0 } else none else K (Ex.exit 0) { slots := [(0, AV.vl recTy a), (1, AV.fn (Fn.func 144) [] []), (4, AV.int IntKind.i64 f), (7, AV.int IntKind.i64 n), (8, AV.int IntKind.i64 i)], objs := [], nx := 0 } := by kernel_rfl

def equalSt (a b : List Rec) (f : Bool) (n : Int) (i : Nat) : St := ⟨[(0, .vl recT a), (1, .vl recT b), (4, .bool f), (12, .int .i64 n), (13, .int .i64 i)], [], 0⟩
abbrev equalLC : LoopC := LoopC.of ⟨[(0, .vl recT), (1, .vl recT), (4, .bool), (12, .int .i64), (13, .int .i64)], []⟩ (fun x => decide (List.length x.1.2.1 = List.length x.1.1) && decide (x.1.2.2.2.1 = (List.length x.1.1 : Int)) && decide (x.1.2.2.2.2.1 = (0 : Int)))
    fun x => [((firstFrom (difB x.1.1 x.1.2.1) 0 (List.length x.1.1)).isSome, .ret, equalSt x.1.1 x.1.2.1 false (List.length x.1.1) ((firstFrom (difB x.1.1 x.1.2.1) 0 (List.length x.1.1)).getD 0)), (true, .exit 0, equalSt x.1.1 x.1.2.1 x.1.2.2.1 (List.length x.1.1) (List.length x.1.1))]
theorem equal_lok : LoopOK P0 H.slices_Equal_api_Record_api_Record 0 L.slices_Equal_api_Record_api_Record_4 equalLC :=
  loop_ok_of (env_ok env_nil) glob0 mixed0 noLoops V.slices_Equal_api_Record_api_Record_4 (by decide) fun ⟨⟨a, b, f, n, i, _⟩, _⟩ h hw => by
    simp only [Bool.and_eq_true, decide_eq_true_eq] at h
    obtain ⟨⟨h1, h3⟩, h2⟩ := h
    subst h2; subst h3
    have hm : List.length a ≤ maxL := hw.1.1.1
    unfold maxL at hm
    refine ⟨_, Eq.trans (search_rounds (S := equalSt a b f (List.length a)) (T := equalSt a b false (List.length a)) (p := difB a b) (n := List.length a) (e1 := .ret) (e2 := .exit 0) (s2 := equalSt a b f (List.length a) (List.length a)) (by simp) (by simp) (fun i hi K => ?_) (fun K => ?_) _ (List.length a) 0 (by omega)) search_pick⟩
    · unfold equalSt
      rw [equal_rd, cond_pos (by omega), cond_pos2 (by omega) (by omega), cond_pos2 (by omega) (by omega), Int.toNat_natCast, wrap64 (by omega) (by omega)]
      rfl
    · unfold equalSt
      rw [equal_rd, cond_neg (by omega)]
theorem equal_ev (a b : List Rec) : evFn (env []) H.slices_Equal_api_Record_api_Record (LPof [(4, equalLC)]) F.slices_Equal_api_Record_api_Record [.vl recT a, .vl recT b] [] (finT [.bool]) = bif (↑a.length : Int) != (↑b.length : Int) then some (false, ()) else bif decide (b.length = a.length) && decide ((↑a.length : Int) = (↑a.length : Int)) && true && (firstFrom (difB a b) 0 a.length).isSome then some (false, ()) else bif decide (b.length = a.length) && decide ((↑a.length : Int) = (↑a.length : Int)) && true && true then some (true, ()) else none := by kernel_rfl

def idx1St (a : List Rec) (f n : Int) (i : Nat) : St := ⟨[(0, .vl recT a), (1, .fn (.func I.command_records_1) [] []), (4, .int .i64 f), (7, .int .i64 n), (8, .int .i64 i)], [], 0⟩
abbrev idx1LC : LoopC := LoopC.of ⟨[(0, .vl recT), (1, .fn I.command_records_1 []), (4, .int .i64), (7, .int .i64), (8, .int .i64)], []⟩ (fun x => decide (x.1.2.2.2.1 = (List.length x.1.1 : Int)) && decide (x.1.2.2.2.2.1 = (0 : Int)))
    fun x => [((firstFrom (atR badR1 x.1.1) 0 (List.length x.1.1)).isSome, .ret, idx1St x.1.1 ((firstFrom (atR badR1 x.1.1) 0 (List.length x.1.1)).getD 0 : Nat) (List.length x.1.1) ((firstFrom (atR badR1 x.1.1) 0 (List.length x.1.1)).getD 0)), (true, .exit 0, idx1St x.1.1 x.1.2.2.1 (List.length x.1.1) (List.length x.1.1))]
theorem idx1_lok : LoopOK P0 H.slices_IndexFunc_api_Record_api_Record 0 L.slices_IndexFunc_api_Record_api_Record_2 idx1LC :=
  loop_ok_of (env_ok consA2_ok) glob0 mixed0 noLoops V.slices_IndexFunc_api_Record_api_Record_2 (by decide) fun ⟨⟨a, _, f, n, i, _⟩, _⟩ h hw => by
    simp only [Bool.and_eq_true, decide_eq_true_eq] at h
    obtain ⟨h3, h2⟩ := h
    subst h2; subst h3
    have hm : List.length a ≤ maxL := hw.1.1.1
    unfold maxL at hm
    refine ⟨_, Eq.trans (search_rounds (S := idx1St a f (List.length a)) (T := fun i => idx1St a i (List.length a) i) (p := atR badR1 a) (n := List.length a) (e1 := .ret) (e2 := .exit 0) (s2 := idx1St a f (List.length a) (List.length a)) (by simp) (by simp) (fun i hi K => ?_) (fun K => ?_) _ (List.length a) 0 (by omega)) search_pick⟩
    · unfold idx1St
      rw [index1_rd, cond_pos (by omega), cond_pos2 (by omega) (by omega), Int.toNat_natCast, wrap64 (by omega) (by omega)]
      rfl
    · unfold idx1St
      rw [index1_rd, cond_neg (by omega)]
theorem idx1_ev (a : List Rec) : evFn (env consA2) H.slices_IndexFunc_api_Record_api_Record (LPof [(2, idx1LC)]) F.slices_IndexFunc_api_Record_api_Record [.vl recT a, .fn (.func I.command_records_1) [] []] [] (finT [.int .i64]) = bif decide ((↑a.length : Int) = (↑a.length : Int)) && true && (firstFrom (atR badR1 a) 0 a.length).isSome then some ((↑((firstFrom (atR badR1 a) 0 a.length).getD 0) : Int), ()) else bif decide ((↑a.length : Int) = (↑a.length : Int)) && true && true then some ((-1 : Int), ()) else none := by kernel_rfl

def caseEqual : PCase := ⟨[.ty (.sl recT), .ty (.sl recT)], [.bool], fun x => (fun (a b : List Rec) => [(true, (decide (a = b), ()))]) x.1 x.2.1⟩
theorem equal_val (a b : List Rec) : evFn (env []) H.slices_Equal_api_Record_api_Record (LPof [(4, equalLC)]) F.slices_Equal_api_Record_api_Record [.vl recT a, .vl recT b] [] (finT [.bool]) = some (decide (a = b), ()) := by
  rw [equal_ev]
  by_cases h : b.length = a.length
  · have h1 : ((a.length : Int) != (b.length : Int)) = false := by simp; omega
    have := firstFrom_eq recEqB_eq recTy.zero h
    unfold difB
    rw [h1, this, decide_eq_true h]
    cases decide (a = b) <;> simp
  · have h1 : ((a.length : Int) != (b.length : Int)) = true := by simp; omega
    have h2 : a ≠ b := fun e => h (by rw [e])
    rw [h1, decide_eq_false h2]; rfl
theorem equal_ok : caseEqual.ok P0 I.slices_Equal_api_Record_api_Record := case_ok2 (H := H.slices_Equal_api_Record_api_Record) (E := env []) (env_ok env_nil) glob0 mixed0 G.slices_Equal_api_Record_api_Record Bd.slices_Equal_api_Record_api_Record (by kernel_rfl) (loops_good (tab := [(4, equalLC)]) (by kernel_rfl) (fun x hx => by simp at hx; subst hx; exact equal_lok)) fun ⟨a, b, ()⟩ y h hw => by
  obtain ⟨hc, rfl⟩ := pick_pre h
  exact equal_val a b
def caseIdx1 : PCase := ⟨[.ty (.sl recT), .fn I.command_records_1 []], [.int .i64], fun x => (fun (a : List Rec) (u : Unit) => [(true, ((((firstFrom (atR badR1 a) 0 (List.length a)).map fun j => (j : Int)).getD (-1)), ()))]) x.1 x.2.1⟩
theorem idx1_val (a : List Rec) (u : Unit) : evFn (env consA2) H.slices_IndexFunc_api_Record_api_Record (LPof [(2, idx1LC)]) F.slices_IndexFunc_api_Record_api_Record [.vl recT a, .fn (.func I.command_records_1) [] []] [] (finT [.int .i64]) = some ((((firstFrom (atR badR1 a) 0 (List.length a)).map fun j => (j : Int)).getD (-1)), ()) := by
  rw [idx1_ev]
  cases firstFrom (atR badR1 a) 0 a.length <;> simp
theorem idx1_ok : caseIdx1.ok P0 I.slices_IndexFunc_api_Record_api_Record := case_ok2 (H := H.slices_IndexFunc_api_Record_api_Record) (E := env consA2) (env_ok consA2_ok) glob0 mixed0 G.slices_IndexFunc_api_Record_api_Record Bd.slices_IndexFunc_api_Record_api_Record (by kernel_rfl) (loops_good (tab := [(2, idx1LC)]) (by kernel_rfl) (fun x hx => by simp at hx; subst hx; exact idx1_lok)) fun ⟨a, u, ()⟩ y h hw => by
  obtain ⟨hc, rfl⟩ := pick_pre h
  exact idx1_val a u
noncomputable abbrev consA3 : List (FuncId × Con) := [(I.slices_IndexFunc_api_Record_api_Record, .pure (pureOf [caseIdx1]))]
theorem consA3_ok : ∀ x ∈ consA3, HoldsC P0 x.1 x.2 := by
  intro x hx
  simp at hx
  subst hx
  exact ⟨pureOf_holds (by simp; exact idx1_ok), C.slices_IndexFunc_api_Record_api_Record⟩
theorem has1_ev (a : List Rec) : evFn (env consA3) H.slices_ContainsFunc_api_Record_api_Record (LPof []) F.slices_ContainsFunc_api_Record_api_Record [.vl recT a, .fn (.func I.command_records_1) [] []] [] (finT [.bool]) =
  some
    (decide
        ((Option.map (fun j => j) do
                let a ← firstFrom (atR badR1 a) 0 a.length
                pure (↑a : Int)).getD
            (-1 : Int) ≥
          (0 : Int)),
      ()) := by kernel_rfl

theorem idx_any (q : Rec → Bool) (a : List Rec) : decide ((((firstFrom (atR q a) 0 (List.length a)).map fun j => (j : Int)).getD (-1)) ≥ 0) = a.any q := by
  rw [← firstFrom_any0 (q := q) (d := recTy.zero) a]
  show _ = (firstFrom (atR q a) 0 a.length).isSome
  cases firstFrom (atR q a) 0 a.length with
  | none => rfl
  | some j => simp
def caseHas1 : PCase := ⟨[.ty (.sl recT), .fn I.command_records_1 []], [.bool], fun x => (fun (a : List Rec) (u : Unit) => [(true, (a.any badR1, ()))]) x.1 x.2.1⟩
theorem has1_val (a : List Rec) (u : Unit) : evFn (env consA3) H.slices_ContainsFunc_api_Record_api_Record (LPof []) F.slices_ContainsFunc_api_Record_api_Record [.vl recT a, .fn (.func I.command_records_1) [] []] [] (finT [.bool]) = some (a.any badR1, ()) := by
  rw [has1_ev, idx_any]
theorem has1_ok : caseHas1.ok P0 I.slices_ContainsFunc_api_Record_api_Record := case_ok2 (H := H.slices_ContainsFunc_api_Record_api_Record) (E := env consA3) (env_ok consA3_ok) glob0 mixed0 G.slices_ContainsFunc_api_Record_api_Record Bd.slices_ContainsFunc_api_Record_api_Record (by kernel_rfl) noLoops fun ⟨a, u, ()⟩ y h hw => by
  obtain ⟨hc, rfl⟩ := pick_pre h
  exact has1_val a u
end Go.Sim.XS
namespace Go.Sim.XS
set_option linter.unusedSimpArgs false
set_option linter.unusedVariables false
noncomputable abbrev consB1 : List (FuncId × Con) := [(I.command_within, .pure (pureOf [caseWithin])), (I.slices_ContainsFunc_api_Record_api_Record, .pure (pureOf [caseHas1])), (I.slices_Equal_api_Record_api_Record, .pure (pureOf [caseEqual]))]
theorem consB1_ok : ∀ x ∈ consB1, HoldsC P0 x.1 x.2 := by
  intro x hx
  simp at hx
  rcases hx with rfl | rfl | rfl
  · exact ⟨pureOf_holds (by simp; exact within_ok), C.command_within⟩
  · exact ⟨pureOf_holds (by simp; exact has1_ok), C.slices_ContainsFunc_api_Record_api_Record⟩
  · exact ⟨pureOf_holds (by simp; exact equal_ok), C.slices_Equal_api_Record_api_Record⟩
theorem records_ev (a : List Rec) : evFn (env consB1) H.command_records (LPof []) F.command_records [.vl recT a] [] (finT [.bool]) = Option.bind (bif withinB (↑a.length : Int) (1 : Int) (50 : Int) then some !a.any badR1 else some false) fun v => some (v, ()) := by kernel_rfl

theorem conf_ev (c : confT.den) : evFn (env consB1) H.command_conf (LPof []) F.command_conf [valOf confT c] [] (finT [.bool]) = Option.bind (bif withinB c.fst (1 : Int) (1000 : Int) then bif withinB c.snd.fst (0 : Int) (1099511627776 : Int) then bif withinB c.snd.snd.fst (0 : Int) (1099511627776 : Int) then some (withinB c.snd.snd.snd (0 : Int) (1099511627776 : Int)) else some false else some false else some false) fun v => some (v, ()) := by kernel_rfl

theorem csame_ev (a b : Cmd) : evFn (env consB1) H.command_Same (LPof []) F.command_Same [valOf cmdT a, valOf cmdT b] [] (finT [.bool]) = Option.bind (bif a.fst == b.fst then bif a.snd.fst == b.snd.fst then bif a.snd.snd.fst == b.snd.snd.fst then bif a.snd.snd.snd.snd.fst == b.snd.snd.snd.snd.fst then bif a.snd.snd.snd.snd.snd.fst == b.snd.snd.snd.snd.snd.fst then bif a.snd.snd.snd.snd.snd.snd.fst == b.snd.snd.snd.snd.snd.snd.fst then bif a.snd.snd.snd.snd.snd.snd.snd.fst == b.snd.snd.snd.snd.snd.snd.snd.fst then bif a.snd.snd.snd.snd.snd.snd.snd.snd.fst == b.snd.snd.snd.snd.snd.snd.snd.snd.fst then bif a.snd.snd.snd.snd.snd.snd.snd.snd.snd.fst == b.snd.snd.snd.snd.snd.snd.snd.snd.snd.fst && (a.snd.snd.snd.snd.snd.snd.snd.snd.snd.snd.fst == b.snd.snd.snd.snd.snd.snd.snd.snd.snd.snd.fst && (a.snd.snd.snd.snd.snd.snd.snd.snd.snd.snd.snd.fst == b.snd.snd.snd.snd.snd.snd.snd.snd.snd.snd.snd.fst && (a.snd.snd.snd.snd.snd.snd.snd.snd.snd.snd.snd.snd == b.snd.snd.snd.snd.snd.snd.snd.snd.snd.snd.snd.snd && true))) then some (decide (a.snd.snd.snd.fst = b.snd.snd.snd.fst)) else some false else some false else some false else some false else some false else some false else some false else some false else some false) fun v => some (v, ()) := by kernel_rfl

noncomputable abbrev consB2 : List (FuncId × Con) := [(I.cooperageref10_within, .pure (pureOf [caseWithin10])), (I.cooperageref10_time, .pure (pureOf [caseTime10])), (I.cooperageref10_plain, .pure (pureOf [casePlain])), (I.cooperageref1_Right, .pure (pureOf [caseRight1])), (I.cooperageref1_Valid, .pure (pureOf [caseRValid]))]
theorem consB2_ok : ∀ x ∈ consB2, HoldsC P0 x.1 x.2 := by
  intro x hx
  simp at hx
  rcases hx with rfl | rfl | rfl | rfl | rfl
  · exact ⟨pureOf_holds (by simp; exact within10_ok), C.cooperageref10_within⟩
  · exact ⟨pureOf_holds (by simp; exact time10_ok), C.cooperageref10_time⟩
  · exact ⟨pureOf_holds (by simp; exact plain_ok), C.cooperageref10_plain⟩
  · exact ⟨pureOf_holds (by simp; exact right1_ok), C.cooperageref1_Right⟩
  · exact ⟨pureOf_holds (by simp; exact rvalid_ok), C.cooperageref1_Valid⟩
def caseRecords : PCase := ⟨[.ty (.sl recT)], [.bool], fun x => (fun (a : List Rec) => [(true, (recsB a, ()))]) x.1⟩
theorem records_val (a : List Rec) : evFn (env consB1) H.command_records (LPof []) F.command_records [.vl recT a] [] (finT [.bool]) = some (recsB a, ()) := by
  rw [records_ev]; simp only [and_bif, Option.bind_some]; rfl
theorem records_ok : caseRecords.ok P0 I.command_records := case_ok2 (H := H.command_records) (E := env consB1) (env_ok consB1_ok) glob0 mixed0 G.command_records Bd.command_records (by kernel_rfl) noLoops fun ⟨a, ()⟩ y h hw => by
  obtain ⟨hc, rfl⟩ := pick_pre h
  exact records_val a
def caseConf : PCase := ⟨[.ty confT], [.bool], fun x => (fun (c : Cnf) => [(true, (confB c, ()))]) x.1⟩
theorem conf_val (c : Cnf) : evFn (env consB1) H.command_conf (LPof []) F.command_conf [valOf confT c] [] (finT [.bool]) = some (confB c, ()) := by
  rw [conf_ev]; simp only [and_bif, Option.bind_some]; rfl
theorem conf_ok : caseConf.ok P0 I.command_conf := case_ok2 (H := H.command_conf) (E := env consB1) (env_ok consB1_ok) glob0 mixed0 G.command_conf Bd.command_conf (by kernel_rfl) noLoops fun ⟨c, ()⟩ y h hw => by
  obtain ⟨hc, rfl⟩ := pick_pre h
  exact conf_val c
def caseCsame : PCase := ⟨[.ty cmdT, .ty cmdT], [.bool], fun x => (fun (a b : Cmd) => [(true, (decide (a = b), ()))]) x.1 x.2.1⟩
theorem csame_val (a b : Cmd) : evFn (env consB1) H.command_Same (LPof []) F.command_Same [valOf cmdT a, valOf cmdT b] [] (finT [.bool]) = some (decide (a = b), ()) := by
  rw [csame_ev]; simp only [and_bif, Option.bind_some]; rw [cmd_eq]
theorem csame_ok : caseCsame.ok P0 I.command_Same := case_ok2 (H := H.command_Same) (E := env consB1) (env_ok consB1_ok) glob0 mixed0 G.command_Same Bd.command_Same (by kernel_rfl) noLoops fun ⟨a, b, ()⟩ y h hw => by
  obtain ⟨hc, rfl⟩ := pick_pre h
  exact csame_val a b
noncomputable abbrev consB3 : List (FuncId × Con) := [(I.command_bare, .pure (pureOf [caseBare])), (I.command_within, .pure (pureOf [caseWithin])), (I.command_records, .pure (pureOf [caseRecords])), (I.command_conf, .pure (pureOf [caseConf])), (I.command_Same, .pure (pureOf [caseCsame])), (I.names_Valid, .pure (pureOf [caseValid]))]
theorem consB3_ok : ∀ x ∈ consB3, HoldsC P0 x.1 x.2 := by
  intro x hx
  simp at hx
  rcases hx with rfl | rfl | rfl | rfl | rfl | rfl
  · exact ⟨pureOf_holds (by simp; exact bare_ok), C.command_bare⟩
  · exact ⟨pureOf_holds (by simp; exact within_ok), C.command_within⟩
  · exact ⟨pureOf_holds (by simp; exact records_ok), C.command_records⟩
  · exact ⟨pureOf_holds (by simp; exact conf_ok), C.command_conf⟩
  · exact ⟨pureOf_holds (by simp; exact csame_ok), C.command_Same⟩
  · exact ⟨pureOf_holds (by simp; exact valid_ok), C.names_Valid⟩
theorem cright_ev (c : Cmd) : evFn (env consB3) H.command_Right (LPof []) F.command_Right [valOf cmdT c] [] (finT [.bool]) = Option.bind (bif !(bareC c).snd then some true else some !decide ((bareC c).fst = c)) fun v => bif v then some (false, ()) else bif c.fst == (1 : Int) then Option.bind (bif withinB c.snd.fst (0 : Int) (1099511627776 : Int) then bif withinB c.snd.snd.fst (0 : Int) (1099511627776 : Int) then bif decide (c.snd.fst > (0 : Int)) then some (recsB c.snd.snd.snd.fst) else bif c.snd.snd.fst == (0 : Int) then some (recsB c.snd.snd.snd.fst) else some false else some false else some false) fun v => some (v, ()) else bif c.fst == (2 : Int) then Option.bind (bif withinB c.snd.snd.snd.snd.snd.fst (0 : Int) (1125899906842624 : Int) then some (withinB c.snd.snd.snd.snd.snd.snd.fst (1 : Int) (100 : Int)) else some false) fun v => some (v, ()) else bif c.fst == (3 : Int) then Option.bind (bif withinB c.snd.snd.snd.snd.snd.fst (0 : Int) (1125899906842624 : Int) then some (validL c.snd.snd.snd.snd.fst) else some false) fun v => some (v, ()) else bif c.fst == (4 : Int) then some (validL c.snd.snd.snd.snd.fst, ()) else bif c.fst == (6 : Int) then some (confB c.snd.snd.snd.snd.snd.snd.snd.snd.snd, ()) else bif c.fst == (11 : Int) then Option.bind (bif withinB c.snd.snd.snd.snd.snd.fst (0 : Int) (1125899906842624 : Int) then bif withinB c.snd.snd.fst (0 : Int) (1099511627776 : Int) then some (withinB c.snd.snd.snd.snd.snd.snd.fst (0 : Int) (1099511627776 : Int)) else some false else some false) fun v => some (v, ()) else Option.bind (bif withinB c.snd.snd.snd.snd.snd.snd.snd.fst (-1099511627776 : Int) (1099511627776 : Int) then some (withinB c.snd.snd.snd.snd.snd.fst (0 : Int) (1125899906842624 : Int)) else some false) fun v => some (v, ()) := by kernel_rfl

def caseCright : PCase := ⟨[.ty cmdT], [.bool], fun x => (fun (c : Cmd) => [(true, (rightC c, ()))]) x.1⟩
theorem cright_val (c : Cmd) : evFn (env consB3) H.command_Right (LPof []) F.command_Right [valOf cmdT c] [] (finT [.bool]) = some (rightC c, ()) := by
  rw [cright_ev, ← prog_right]
  simp only [and_bif, or_bif, nand_bif, nor_bif, ors_bif, ors2_bif, oand_bif, selfor, someu_bif, Option.bind_some]
  unfold tailC
  cases (bareC c).2 <;> cases decide ((bareC c).1 = c) <;> rfl
theorem cright_ok : caseCright.ok P0 I.command_Right := case_ok2 (H := H.command_Right) (E := env consB3) (env_ok consB3_ok) glob0 mixed0 G.command_Right Bd.command_Right (by kernel_rfl) noLoops fun ⟨c, ()⟩ y h hw => by
  obtain ⟨hc, rfl⟩ := pick_pre h
  exact cright_val c
end Go.Sim.XS
namespace Go.Sim
set_option linter.unusedSimpArgs false
set_option linter.unusedVariables false
abbrev Row3 := Int × Int × Int
/-- Where a producer's row stands, or would. -/
def posL : List Row3 → Int → Nat
  | [], _ => 0
  | r :: l, p => bif decide (r.1 < p) then posL l p + 1 else 0
def atL (l : List Row3) (i : Nat) : Row3 := l.getD i (0, 0, 0)
def hasL (l : List Row3) (p : Int) : Bool := decide (posL l p < l.length) && (atL l (posL l p)).1 == p
def sortedL : List Row3 → Bool
  | [] => true
  | r :: l => l.all (fun s => decide (r.1 < s.1)) && sortedL l
def putAt (l : List Row3) (k t : Nat) (r : Row3) : List Row3 := l.take k ++ r :: l.drop t
/-- A table in which a row was set; what Set tells. -/
def setL (l : List Row3) (r : Row3) : List Row3 × Int :=
  bif hasL l r.1 then (putAt l (posL l r.1) (posL l r.1 + 1) r, 0) else bif decide ((l.length : Int) ≥ 100) then (l, 7) else (putAt l (posL l r.1) (posL l r.1) r, 0)
def askL (l : List Row3) (p s : Int) : Int × Int :=
  bif hasL l p then (bif (atL l (posL l p)).2.1 == s then (1, (atL l (posL l p)).2.2) else bif decide ((atL l (posL l p)).2.1 < s) && (atL l (posL l p)).2.1 == s - 1 then (0, 0) else (2, 0)) else bif s == 0 then (0, 0) else (2, 0)
theorem pos_le : ∀ (l : List Row3) (p : Int), posL l p ≤ l.length
  | [], _ => Nat.le_refl _
  | r :: l, p => by
    have := pos_le l p
    simp only [posL, List.length_cons]
    cases decide (r.1 < p) <;> simp only [cond_true, cond_false] <;> omega
theorem pos_below : ∀ {l : List Row3} {p : Int} {i : Nat}, i < posL l p → (atL l i).1 < p
  | r :: l, p, i, h => by
    simp only [posL] at h
    by_cases hr : r.1 < p
    · cases i with
      | zero => exact hr
      | succ i =>
        rw [cond_pos hr] at h
        have := pos_below (l := l) (p := p) (i := i) (by omega)
        simpa [atL] using this
    · rw [cond_neg hr] at h; omega
theorem pos_at : ∀ {l : List Row3} {p : Int}, posL l p < l.length → p ≤ (atL l (posL l p)).1
  | r :: l, p, h => by
    simp only [posL] at h ⊢
    by_cases hr : r.1 < p
    · rw [cond_pos hr] at h ⊢
      have := pos_at (l := l) (p := p) (by simpa using h)
      simpa [atL] using this
    · rw [cond_neg hr]
      show p ≤ r.1
      omega
theorem sorted_lt : ∀ {l : List Row3} {i j : Nat}, sortedL l = true → i < j → j < l.length → (atL l i).1 < (atL l j).1
  | r :: l, i, j, hs, hij, hj => by
    simp only [sortedL, Bool.and_eq_true, List.all_eq_true, decide_eq_true_eq] at hs
    cases j with
    | zero => omega
    | succ j =>
      have hj : j < l.length := by simpa using hj
      cases i with
      | zero =>
        have : (atL l j) ∈ l := by unfold atL; rw [List.getD_eq_getElem?_getD, List.getElem?_eq_getElem hj]; exact List.getElem_mem hj
        have := hs.1 _ this
        simpa [atL] using this
      | succ i =>
        have := sorted_lt (l := l) (i := i) (j := j) hs.2 (by omega) hj
        simpa [atL] using this
/-- A place with nothing less behind it and nothing else ahead is the row's. -/
theorem pos_eq {l : List Row3} {p : Int} {k : Nat} (hk : k ≤ l.length) (h1 : ∀ i, i < k → (atL l i).1 < p) (h2 : k < l.length → p ≤ (atL l k).1) : posL l p = k := by
  rcases Nat.lt_trichotomy (posL l p) k with h | h | h
  · have := pos_at (l := l) (p := p) (by omega)
    have := h1 _ h
    omega
  · exact h
  · have := pos_below h
    have := h2 (by have := pos_le l p; omega)
    omega
end Go.Sim
namespace Go.Sim.XD
set_option linter.unusedSimpArgs false
set_option linter.unusedVariables false
set_option maxRecDepth 10000
theorem env_nil : ∀ x ∈ ([] : List (FuncId × Con)), HoldsC P0 x.1 x.2 := fun x h => by cases h
abbrev rowT : Ty := .pair (.int .i64) (.pair (.int .i64) (.int .i64))
theorem isnan_ev (a : Int) : evFn (env []) H.cmp_isNaN_int (LPof []) F.cmp_isNaN_int [.int .i64 a] [] (finT [.bool]) = some (a != a, ()) := by kernel_rfl

def caseIsnan : PCase := ⟨[.ty (.int .i64)], [.bool], fun x => (fun (a : Int) => [(true, (false, ()))]) x.1⟩
theorem isnan_val (a : Int) : evFn (env []) H.cmp_isNaN_int (LPof []) F.cmp_isNaN_int [.int .i64 a] [] (finT [.bool]) = some (false, ()) := by
  rw [isnan_ev]; simp
theorem isnan_ok : caseIsnan.ok P0 I.cmp_isNaN_int := case_ok2 (H := H.cmp_isNaN_int) (E := env []) (env_ok env_nil) glob0 mixed0 G.cmp_isNaN_int Bd.cmp_isNaN_int (by kernel_rfl) noLoops fun ⟨a, ()⟩ y h hw => by
  obtain ⟨hc, rfl⟩ := pick_pre h
  exact isnan_val a
noncomputable abbrev consA1 : List (FuncId × Con) := [(I.cmp_isNaN_int, .pure (pureOf [caseIsnan]))]
theorem consA1_ok : ∀ x ∈ consA1, HoldsC P0 x.1 x.2 := by
  intro x hx
  simp at hx
  subst hx
  exact ⟨pureOf_holds (by simp; exact isnan_ok), C.cmp_isNaN_int⟩
theorem cmp_ev (a b : Int) : evFn (env consA1) H.cmp_Compare_int (LPof []) F.cmp_Compare_int [.int .i64 a, .int .i64 b] [] (finT [.int .i64]) = bif decide (a < b) then some ((-1 : Int), ()) else bif decide (a > b) then some ((1 : Int), ()) else some ((0 : Int), ()) := by kernel_rfl

def cmpI (a b : Int) : Int := bif decide (a < b) then -1 else bif decide (a > b) then 1 else 0
def caseCmp : PCase := ⟨[.ty (.int .i64), .ty (.int .i64)], [.int .i64], fun x => (fun (a b : Int) => [(true, (cmpI a b, ()))]) x.1 x.2.1⟩
theorem cmp_val (a b : Int) : evFn (env consA1) H.cmp_Compare_int (LPof []) F.cmp_Compare_int [.int .i64 a, .int .i64 b] [] (finT [.int .i64]) = some (cmpI a b, ()) := by
  rw [cmp_ev]
  unfold cmpI
  cases decide (a < b) <;> cases decide (a > b) <;> rfl
theorem cmp_ok : caseCmp.ok P0 I.cmp_Compare_int := case_ok2 (H := H.cmp_Compare_int) (E := env consA1) (env_ok consA1_ok) glob0 mixed0 G.cmp_Compare_int Bd.cmp_Compare_int (by kernel_rfl) noLoops fun ⟨a, b, ()⟩ y h hw => by
  obtain ⟨hc, rfl⟩ := pick_pre h
  exact cmp_val a b
noncomputable abbrev consA2 : List (FuncId × Con) := [(I.cmp_Compare_int, .pure (pureOf [caseCmp]))]
theorem consA2_ok : ∀ x ∈ consA2, HoldsC P0 x.1 x.2 := by
  intro x hx
  simp at hx
  subst hx
  exact ⟨pureOf_holds (by simp; exact cmp_ok), C.cmp_Compare_int⟩
theorem find1_ev (r : Row3) (p : Int) : evFn (env consA2) H.dedup_Table_find_1 (LPof []) F.dedup_Table_find_1 [valOf rowT r, .int .i64 p] [] (finT [.int .i64]) = some (cmpI r.fst p, ()) := by kernel_rfl

def H.ins2 : Hint := { H.slices_Insert_dedup_Row_dedup_Row with vs := [51], hw := [83], nh := [(6, 145)] }
noncomputable abbrev consA3 : List (FuncId × Con) := [(182, .apart)]
def insObj (r : Row3) : AObj := .arr 3 .bool [] [[.int .i64 r.1, .int .i64 r.2.1, .int .i64 r.2.2]]
theorem ins1_ev {R : Type} (xs : List Row3) (i : Int) (r : Row3) (c : Nat) (K : Ex → St → Option R) : ev (env consA3) H.ins2 2 (LPof []) (preC 7 B.slices_Insert_dedup_Row_dedup_Row) (initSt [.hc 0 0 xs.length c, .int .i64 i, .hw 1] [.arr 3 rowT xs [], insObj r]) K = bif decide ((0 : Int) ≤ i) && decide (i ≤ (↑xs.length : Int)) then bif i == (↑xs.length : Int) then bif decide ((List.take xs.length xs ++ [r]).length * 24 ≤ 140737488355328) then K Ex.ret { slots := [(6, AV.hw 3), (25, AV.hw 3), (24, AV.hw 1), (23, AV.hc 0 0 xs.length c), (22, AV.bool (i == (↑xs.length : Int))), (21, AV.int IntKind.i64 (↑xs.length : Int)), (20, AV.int IntKind.i64 i), (8, AV.int IntKind.i64 (↑xs.length : Int)), (19, AV.int IntKind.i64 (↑xs.length : Int)), (18, AV.hc 0 0 xs.length c), (16, AV.bool false), (15, AV.int IntKind.i64 (1 : Int)), (7, AV.int IntKind.i64 (1 : Int)), (14, AV.int IntKind.i64 (1 : Int)), (13, AV.hw 1), (12, AV.hc 0 i.toNat (xs.length - i.toNat) (cutCap c (some i.toNat))), (11, AV.int IntKind.i64 i), (10, AV.hc 0 0 xs.length c), (6, AV.hw 2), (0, AV.hc 0 0 xs.length c), (1, AV.int IntKind.i64 i), (2, AV.hw 1)], objs := [(3, AObj.arr 3 ((Ty.int IntKind.i64).pair ((Ty.int IntKind.i64).pair (Ty.int IntKind.i64))) (List.take xs.length xs ++ [r]) []), (0, AObj.dead), (2, AObj.arr 3 ((Ty.int IntKind.i64).pair ((Ty.int IntKind.i64).pair (Ty.int IntKind.i64))) [] []), (0, AObj.arr 3 ((Ty.int IntKind.i64).pair ((Ty.int IntKind.i64).pair (Ty.int IntKind.i64))) xs []), (1, AObj.arr 3 Ty.bool [] [[AV.int IntKind.i64 r.fst, AV.int IntKind.i64 r.snd.fst, AV.int IntKind.i64 r.snd.snd]])], nx := 4 } else none else bif decide (IntKind.i64.wrap ((↑xs.length : Int) + (1 : Int)) > (↑c : Int)) then bif decide ((0 : Int) ≤ i) && decide (i ≤ (↑xs.length : Int)) then bif decide ((0 : Int) < IntKind.i64.wrap (IntKind.i64.wrap ((↑xs.length : Int) + (1 : Int)) - i)) && decide (c < i.toNat + (IntKind.i64.wrap (IntKind.i64.wrap ((↑xs.length : Int) + (1 : Int)) - i)).toNat) && decide (0 + i.toNat ≤ xs.length) && decide ((i.toNat + (IntKind.i64.wrap (IntKind.i64.wrap ((↑xs.length : Int) + (1 : Int)) - i)).toNat) * 24 ≤ 140737488355328) then bif decide ((0 : Int) ≤ i) && decide (i ≤ (↑(List.take i.toNat xs ++ List.replicate (IntKind.i64.wrap (IntKind.i64.wrap ((↑xs.length : Int) + (1 : Int)) - i)).toNat ((Ty.int IntKind.i64).pair ((Ty.int IntKind.i64).pair (Ty.int IntKind.i64))).zero).length : Int)) then bif decide (1 ≤ (List.take i.toNat xs ++ List.replicate (IntKind.i64.wrap (IntKind.i64.wrap ((↑xs.length : Int) + (1 : Int)) - i)).toNat ((Ty.int IntKind.i64).pair ((Ty.int IntKind.i64).pair (Ty.int IntKind.i64))).zero).length - i.toNat) && decide (i.toNat + 1 ≤ (List.take i.toNat xs ++ List.replicate (IntKind.i64.wrap (IntKind.i64.wrap ((↑xs.length : Int) + (1 : Int)) - i)).toNat ((Ty.int IntKind.i64).pair ((Ty.int IntKind.i64).pair (Ty.int IntKind.i64))).zero).length) then bif decide ((0 : Int) ≤ IntKind.i64.wrap (i + (1 : Int))) && decide (IntKind.i64.wrap (i + (1 : Int)) ≤ (↑(List.take i.toNat (List.take i.toNat xs ++ List.replicate (IntKind.i64.wrap (IntKind.i64.wrap ((↑xs.length : Int) + (1 : Int)) - i)).toNat ((Ty.int IntKind.i64).pair ((Ty.int IntKind.i64).pair (Ty.int IntKind.i64))).zero) ++ [r] ++ List.drop (i.toNat + 1) (List.take i.toNat xs ++ List.replicate (IntKind.i64.wrap (IntKind.i64.wrap ((↑xs.length : Int) + (1 : Int)) - i)).toNat ((Ty.int IntKind.i64).pair ((Ty.int IntKind.i64).pair (Ty.int IntKind.i64))).zero)).length : Int)) then bif decide (xs.length = xs.length) && decide (0 < c) then bif decide ((0 : Int) ≤ i) && decide (i ≤ (↑xs.length : Int)) then bif decide ((List.drop i.toNat xs).length ≤ (List.take i.toNat (List.take i.toNat xs ++ List.replicate (IntKind.i64.wrap (IntKind.i64.wrap ((↑xs.length : Int) + (1 : Int)) - i)).toNat ((Ty.int IntKind.i64).pair ((Ty.int IntKind.i64).pair (Ty.int IntKind.i64))).zero) ++ [r] ++ List.drop (i.toNat + 1) (List.take i.toNat xs ++ List.replicate (IntKind.i64.wrap (IntKind.i64.wrap ((↑xs.length : Int) + (1 : Int)) - i)).toNat ((Ty.int IntKind.i64).pair ((Ty.int IntKind.i64).pair (Ty.int IntKind.i64))).zero)).length - (IntKind.i64.wrap (i + (1 : Int))).toNat) && decide ((IntKind.i64.wrap (i + (1 : Int))).toNat + (List.drop i.toNat xs).length ≤ (List.take i.toNat (List.take i.toNat xs ++ List.replicate (IntKind.i64.wrap (IntKind.i64.wrap ((↑xs.length : Int) + (1 : Int)) - i)).toNat ((Ty.int IntKind.i64).pair ((Ty.int IntKind.i64).pair (Ty.int IntKind.i64))).zero) ++ [r] ++ List.drop (i.toNat + 1) (List.take i.toNat xs ++ List.replicate (IntKind.i64.wrap (IntKind.i64.wrap ((↑xs.length : Int) + (1 : Int)) - i)).toNat ((Ty.int IntKind.i64).pair ((Ty.int IntKind.i64).pair (Ty.int IntKind.i64))).zero)).length) then K Ex.ret { slots := [(6, AV.hw 3), (55, AV.hw 3), (54, AV.int IntKind.i64 (↑(List.drop i.toNat xs).length : Int)), (53, AV.vl ((Ty.int IntKind.i64).pair ((Ty.int IntKind.i64).pair (Ty.int IntKind.i64))) (List.drop i.toNat xs)), (52, AV.int IntKind.i64 i), (51, AV.vl ((Ty.int IntKind.i64).pair ((Ty.int IntKind.i64).pair (Ty.int IntKind.i64))) xs), (50, AV.hs 3 (IntKind.i64.wrap (i + (1 : Int))).toNat ((List.take i.toNat (List.take i.toNat xs ++ List.replicate (IntKind.i64.wrap (IntKind.i64.wrap ((↑xs.length : Int) + (1 : Int)) - i)).toNat ((Ty.int IntKind.i64).pair ((Ty.int IntKind.i64).pair (Ty.int IntKind.i64))).zero) ++ [r] ++ List.drop (i.toNat + 1) (List.take i.toNat xs ++ List.replicate (IntKind.i64.wrap (IntKind.i64.wrap ((↑xs.length : Int) + (1 : Int)) - i)).toNat ((Ty.int IntKind.i64).pair ((Ty.int IntKind.i64).pair (Ty.int IntKind.i64))).zero)).length - (IntKind.i64.wrap (i + (1 : Int))).toNat)), (49, AV.int IntKind.i64 (IntKind.i64.wrap (i + (1 : Int)))), (48, AV.int IntKind.i64 (1 : Int)), (47, AV.int IntKind.i64 i), (46, AV.hw 3), (45, AV.int IntKind.i64 (1 : Int)), (44, AV.hw 1), (43, AV.hs 3 i.toNat ((List.take i.toNat xs ++ List.replicate (IntKind.i64.wrap (IntKind.i64.wrap ((↑xs.length : Int) + (1 : Int)) - i)).toNat ((Ty.int IntKind.i64).pair ((Ty.int IntKind.i64).pair (Ty.int IntKind.i64))).zero).length - i.toNat)), (42, AV.int IntKind.i64 i), (41, AV.hw 3), (9, AV.hw 3), (40, AV.hw 3), (39, AV.int IntKind.i64 (IntKind.i64.wrap (IntKind.i64.wrap ((↑xs.length : Int) + (1 : Int)) - i))), (38, AV.int IntKind.i64 i), (37, AV.int IntKind.i64 (IntKind.i64.wrap ((↑xs.length : Int) + (1 : Int)))), (36, AV.int IntKind.i64 (1 : Int)), (35, AV.int IntKind.i64 (↑xs.length : Int)), (34, AV.hc 0 0 i.toNat c), (33, AV.int IntKind.i64 i), (32, AV.hc 0 0 xs.length c), (31, AV.bool (decide (IntKind.i64.wrap ((↑xs.length : Int) + (1 : Int)) > (↑c : Int)))), (30, AV.int IntKind.i64 (↑c : Int)), (29, AV.hc 0 0 xs.length c), (28, AV.int IntKind.i64 (IntKind.i64.wrap ((↑xs.length : Int) + (1 : Int)))), (27, AV.int IntKind.i64 (1 : Int)), (26, AV.int IntKind.i64 (↑xs.length : Int)), (22, AV.bool (i == (↑xs.length : Int))), (21, AV.int IntKind.i64 (↑xs.length : Int)), (20, AV.int IntKind.i64 i), (8, AV.int IntKind.i64 (↑xs.length : Int)), (19, AV.int IntKind.i64 (↑xs.length : Int)), (18, AV.hc 0 0 xs.length c), (16, AV.bool false), (15, AV.int IntKind.i64 (1 : Int)), (7, AV.int IntKind.i64 (1 : Int)), (14, AV.int IntKind.i64 (1 : Int)), (13, AV.hw 1), (12, AV.hc 0 i.toNat (xs.length - i.toNat) (cutCap c (some i.toNat))), (11, AV.int IntKind.i64 i), (10, AV.hc 0 0 xs.length c), (6, AV.hw 2), (0, AV.hc 0 0 xs.length c), (1, AV.int IntKind.i64 i), (2, AV.hw 1)], objs := [(3, AObj.arr 3 ((Ty.int IntKind.i64).pair ((Ty.int IntKind.i64).pair (Ty.int IntKind.i64))) (List.take (IntKind.i64.wrap (i + (1 : Int))).toNat (List.take i.toNat (List.take i.toNat xs ++ List.replicate (IntKind.i64.wrap (IntKind.i64.wrap ((↑xs.length : Int) + (1 : Int)) - i)).toNat ((Ty.int IntKind.i64).pair ((Ty.int IntKind.i64).pair (Ty.int IntKind.i64))).zero) ++ [r] ++ List.drop (i.toNat + 1) (List.take i.toNat xs ++ List.replicate (IntKind.i64.wrap (IntKind.i64.wrap ((↑xs.length : Int) + (1 : Int)) - i)).toNat ((Ty.int IntKind.i64).pair ((Ty.int IntKind.i64).pair (Ty.int IntKind.i64))).zero)) ++ List.drop i.toNat xs ++ List.drop ((IntKind.i64.wrap (i + (1 : Int))).toNat + (List.drop i.toNat xs).length) (List.take i.toNat (List.take i.toNat xs ++ List.replicate (IntKind.i64.wrap (IntKind.i64.wrap ((↑xs.length : Int) + (1 : Int)) - i)).toNat ((Ty.int IntKind.i64).pair ((Ty.int IntKind.i64).pair (Ty.int IntKind.i64))).zero) ++ [r] ++ List.drop (i.toNat + 1) (List.take i.toNat xs ++ List.replicate (IntKind.i64.wrap (IntKind.i64.wrap ((↑xs.length : Int) + (1 : Int)) - i)).toNat ((Ty.int IntKind.i64).pair ((Ty.int IntKind.i64).pair (Ty.int IntKind.i64))).zero))) []), (0, AObj.dead), (3, AObj.arr 3 ((Ty.int IntKind.i64).pair ((Ty.int IntKind.i64).pair (Ty.int IntKind.i64))) (List.take i.toNat (List.take i.toNat xs ++ List.replicate (IntKind.i64.wrap (IntKind.i64.wrap ((↑xs.length : Int) + (1 : Int)) - i)).toNat ((Ty.int IntKind.i64).pair ((Ty.int IntKind.i64).pair (Ty.int IntKind.i64))).zero) ++ [r] ++ List.drop (i.toNat + 1) (List.take i.toNat xs ++ List.replicate (IntKind.i64.wrap (IntKind.i64.wrap ((↑xs.length : Int) + (1 : Int)) - i)).toNat ((Ty.int IntKind.i64).pair ((Ty.int IntKind.i64).pair (Ty.int IntKind.i64))).zero)) []), (3, AObj.arr 3 ((Ty.int IntKind.i64).pair ((Ty.int IntKind.i64).pair (Ty.int IntKind.i64))) (List.take i.toNat xs ++ List.replicate (IntKind.i64.wrap (IntKind.i64.wrap ((↑xs.length : Int) + (1 : Int)) - i)).toNat ((Ty.int IntKind.i64).pair ((Ty.int IntKind.i64).pair (Ty.int IntKind.i64))).zero) []), (2, AObj.arr 3 ((Ty.int IntKind.i64).pair ((Ty.int IntKind.i64).pair (Ty.int IntKind.i64))) [] []), (0, AObj.arr 3 ((Ty.int IntKind.i64).pair ((Ty.int IntKind.i64).pair (Ty.int IntKind.i64))) xs []), (1, AObj.arr 3 Ty.bool [] [[AV.int IntKind.i64 r.fst, AV.int IntKind.i64 r.snd.fst, AV.int IntKind.i64 r.snd.snd]])], nx := 4 } else none else none else none else none else none else none else none else bif decide (i = (↑xs.length : Int) + (1 : Int)) && decide (xs.length + 1 ≤ c) && decide (0 + xs.length = xs.length) && decide (xs.length < 9223372036854775807) && true then none else none else K Ex.normal { slots := [(31, AV.bool (decide (IntKind.i64.wrap ((↑xs.length : Int) + (1 : Int)) > (↑c : Int)))), (30, AV.int IntKind.i64 (↑c : Int)), (29, AV.hc 0 0 xs.length c), (28, AV.int IntKind.i64 (IntKind.i64.wrap ((↑xs.length : Int) + (1 : Int)))), (27, AV.int IntKind.i64 (1 : Int)), (26, AV.int IntKind.i64 (↑xs.length : Int)), (22, AV.bool (i == (↑xs.length : Int))), (21, AV.int IntKind.i64 (↑xs.length : Int)), (20, AV.int IntKind.i64 i), (8, AV.int IntKind.i64 (↑xs.length : Int)), (19, AV.int IntKind.i64 (↑xs.length : Int)), (18, AV.hc 0 0 xs.length c), (16, AV.bool false), (15, AV.int IntKind.i64 (1 : Int)), (7, AV.int IntKind.i64 (1 : Int)), (14, AV.int IntKind.i64 (1 : Int)), (13, AV.hw 1), (12, AV.hc 0 i.toNat (xs.length - i.toNat) (cutCap c (some i.toNat))), (11, AV.int IntKind.i64 i), (10, AV.hc 0 0 xs.length c), (6, AV.hw 2), (0, AV.hc 0 0 xs.length c), (1, AV.int IntKind.i64 i), (2, AV.hw 1)], objs := [(2, AObj.arr 3 ((Ty.int IntKind.i64).pair ((Ty.int IntKind.i64).pair (Ty.int IntKind.i64))) [] []), (0, AObj.arr 3 ((Ty.int IntKind.i64).pair ((Ty.int IntKind.i64).pair (Ty.int IntKind.i64))) xs []), (1, AObj.arr 3 Ty.bool [] [[AV.int IntKind.i64 r.fst, AV.int IntKind.i64 r.snd.fst, AV.int IntKind.i64 r.snd.snd]])], nx := 3 } else none := by kernel_rfl

end Go.Sim.XD
namespace Go.Sim.XD
set_option linter.unusedSimpArgs false
set_option linter.unusedVariables false
set_option maxRecDepth 10000
def insR1 (xs : List Row3) (i : Int) (r : Row3) (c : Nat) : St := { slots := [(6, AV.hw 3), (25, AV.hw 3), (24, AV.hw 1), (23, AV.hc 0 0 xs.length c), (22, AV.bool (i == (↑xs.length : Int))), (21, AV.int IntKind.i64 (↑xs.length : Int)), (20, AV.int IntKind.i64 i), (8, AV.int IntKind.i64 (↑xs.length : Int)), (19, AV.int IntKind.i64 (↑xs.length : Int)), (18, AV.hc 0 0 xs.length c), (16, AV.bool false), (15, AV.int IntKind.i64 (1 : Int)), (7, AV.int IntKind.i64 (1 : Int)), (14, AV.int IntKind.i64 (1 : Int)), (13, AV.hw 1), (12, AV.hc 0 i.toNat (xs.length - i.toNat) (cutCap c (some i.toNat))), (11, AV.int IntKind.i64 i), (10, AV.hc 0 0 xs.length c), (6, AV.hw 2), (0, AV.hc 0 0 xs.length c), (1, AV.int IntKind.i64 i), (2, AV.hw 1)], objs := [(3, AObj.arr 3 ((Ty.int IntKind.i64).pair ((Ty.int IntKind.i64).pair (Ty.int IntKind.i64))) (List.take xs.length xs ++ [r]) []), (0, AObj.dead), (2, AObj.arr 3 ((Ty.int IntKind.i64).pair ((Ty.int IntKind.i64).pair (Ty.int IntKind.i64))) [] []), (0, AObj.arr 3 ((Ty.int IntKind.i64).pair ((Ty.int IntKind.i64).pair (Ty.int IntKind.i64))) xs []), (1, AObj.arr 3 Ty.bool [] [[AV.int IntKind.i64 r.fst, AV.int IntKind.i64 r.snd.fst, AV.int IntKind.i64 r.snd.snd]])], nx := 4 }
def insR2 (xs : List Row3) (i : Int) (r : Row3) (c : Nat) : St := { slots := [(6, AV.hw 3), (55, AV.hw 3), (54, AV.int IntKind.i64 (↑(List.drop i.toNat xs).length : Int)), (53, AV.vl ((Ty.int IntKind.i64).pair ((Ty.int IntKind.i64).pair (Ty.int IntKind.i64))) (List.drop i.toNat xs)), (52, AV.int IntKind.i64 i), (51, AV.vl ((Ty.int IntKind.i64).pair ((Ty.int IntKind.i64).pair (Ty.int IntKind.i64))) xs), (50, AV.hs 3 (IntKind.i64.wrap (i + (1 : Int))).toNat ((List.take i.toNat (List.take i.toNat xs ++ List.replicate (IntKind.i64.wrap (IntKind.i64.wrap ((↑xs.length : Int) + (1 : Int)) - i)).toNat ((Ty.int IntKind.i64).pair ((Ty.int IntKind.i64).pair (Ty.int IntKind.i64))).zero) ++ [r] ++ List.drop (i.toNat + 1) (List.take i.toNat xs ++ List.replicate (IntKind.i64.wrap (IntKind.i64.wrap ((↑xs.length : Int) + (1 : Int)) - i)).toNat ((Ty.int IntKind.i64).pair ((Ty.int IntKind.i64).pair (Ty.int IntKind.i64))).zero)).length - (IntKind.i64.wrap (i + (1 : Int))).toNat)), (49, AV.int IntKind.i64 (IntKind.i64.wrap (i + (1 : Int)))), (48, AV.int IntKind.i64 (1 : Int)), (47, AV.int IntKind.i64 i), (46, AV.hw 3), (45, AV.int IntKind.i64 (1 : Int)), (44, AV.hw 1), (43, AV.hs 3 i.toNat ((List.take i.toNat xs ++ List.replicate (IntKind.i64.wrap (IntKind.i64.wrap ((↑xs.length : Int) + (1 : Int)) - i)).toNat ((Ty.int IntKind.i64).pair ((Ty.int IntKind.i64).pair (Ty.int IntKind.i64))).zero).length - i.toNat)), (42, AV.int IntKind.i64 i), (41, AV.hw 3), (9, AV.hw 3), (40, AV.hw 3), (39, AV.int IntKind.i64 (IntKind.i64.wrap (IntKind.i64.wrap ((↑xs.length : Int) + (1 : Int)) - i))), (38, AV.int IntKind.i64 i), (37, AV.int IntKind.i64 (IntKind.i64.wrap ((↑xs.length : Int) + (1 : Int)))), (36, AV.int IntKind.i64 (1 : Int)), (35, AV.int IntKind.i64 (↑xs.length : Int)), (34, AV.hc 0 0 i.toNat c), (33, AV.int IntKind.i64 i), (32, AV.hc 0 0 xs.length c), (31, AV.bool (decide (IntKind.i64.wrap ((↑xs.length : Int) + (1 : Int)) > (↑c : Int)))), (30, AV.int IntKind.i64 (↑c : Int)), (29, AV.hc 0 0 xs.length c), (28, AV.int IntKind.i64 (IntKind.i64.wrap ((↑xs.length : Int) + (1 : Int)))), (27, AV.int IntKind.i64 (1 : Int)), (26, AV.int IntKind.i64 (↑xs.length : Int)), (22, AV.bool (i == (↑xs.length : Int))), (21, AV.int IntKind.i64 (↑xs.length : Int)), (20, AV.int IntKind.i64 i), (8, AV.int IntKind.i64 (↑xs.length : Int)), (19, AV.int IntKind.i64 (↑xs.length : Int)), (18, AV.hc 0 0 xs.length c), (16, AV.bool false), (15, AV.int IntKind.i64 (1 : Int)), (7, AV.int IntKind.i64 (1 : Int)), (14, AV.int IntKind.i64 (1 : Int)), (13, AV.hw 1), (12, AV.hc 0 i.toNat (xs.length - i.toNat) (cutCap c (some i.toNat))), (11, AV.int IntKind.i64 i), (10, AV.hc 0 0 xs.length c), (6, AV.hw 2), (0, AV.hc 0 0 xs.length c), (1, AV.int IntKind.i64 i), (2, AV.hw 1)], objs := [(3, AObj.arr 3 ((Ty.int IntKind.i64).pair ((Ty.int IntKind.i64).pair (Ty.int IntKind.i64))) (List.take (IntKind.i64.wrap (i + (1 : Int))).toNat (List.take i.toNat (List.take i.toNat xs ++ List.replicate (IntKind.i64.wrap (IntKind.i64.wrap ((↑xs.length : Int) + (1 : Int)) - i)).toNat ((Ty.int IntKind.i64).pair ((Ty.int IntKind.i64).pair (Ty.int IntKind.i64))).zero) ++ [r] ++ List.drop (i.toNat + 1) (List.take i.toNat xs ++ List.replicate (IntKind.i64.wrap (IntKind.i64.wrap ((↑xs.length : Int) + (1 : Int)) - i)).toNat ((Ty.int IntKind.i64).pair ((Ty.int IntKind.i64).pair (Ty.int IntKind.i64))).zero)) ++ List.drop i.toNat xs ++ List.drop ((IntKind.i64.wrap (i + (1 : Int))).toNat + (List.drop i.toNat xs).length) (List.take i.toNat (List.take i.toNat xs ++ List.replicate (IntKind.i64.wrap (IntKind.i64.wrap ((↑xs.length : Int) + (1 : Int)) - i)).toNat ((Ty.int IntKind.i64).pair ((Ty.int IntKind.i64).pair (Ty.int IntKind.i64))).zero) ++ [r] ++ List.drop (i.toNat + 1) (List.take i.toNat xs ++ List.replicate (IntKind.i64.wrap (IntKind.i64.wrap ((↑xs.length : Int) + (1 : Int)) - i)).toNat ((Ty.int IntKind.i64).pair ((Ty.int IntKind.i64).pair (Ty.int IntKind.i64))).zero))) []), (0, AObj.dead), (3, AObj.arr 3 ((Ty.int IntKind.i64).pair ((Ty.int IntKind.i64).pair (Ty.int IntKind.i64))) (List.take i.toNat (List.take i.toNat xs ++ List.replicate (IntKind.i64.wrap (IntKind.i64.wrap ((↑xs.length : Int) + (1 : Int)) - i)).toNat ((Ty.int IntKind.i64).pair ((Ty.int IntKind.i64).pair (Ty.int IntKind.i64))).zero) ++ [r] ++ List.drop (i.toNat + 1) (List.take i.toNat xs ++ List.replicate (IntKind.i64.wrap (IntKind.i64.wrap ((↑xs.length : Int) + (1 : Int)) - i)).toNat ((Ty.int IntKind.i64).pair ((Ty.int IntKind.i64).pair (Ty.int IntKind.i64))).zero)) []), (3, AObj.arr 3 ((Ty.int IntKind.i64).pair ((Ty.int IntKind.i64).pair (Ty.int IntKind.i64))) (List.take i.toNat xs ++ List.replicate (IntKind.i64.wrap (IntKind.i64.wrap ((↑xs.length : Int) + (1 : Int)) - i)).toNat ((Ty.int IntKind.i64).pair ((Ty.int IntKind.i64).pair (Ty.int IntKind.i64))).zero) []), (2, AObj.arr 3 ((Ty.int IntKind.i64).pair ((Ty.int IntKind.i64).pair (Ty.int IntKind.i64))) [] []), (0, AObj.arr 3 ((Ty.int IntKind.i64).pair ((Ty.int IntKind.i64).pair (Ty.int IntKind.i64))) xs []), (1, AObj.arr 3 Ty.bool [] [[AV.int IntKind.i64 r.fst, AV.int IntKind.i64 r.snd.fst, AV.int IntKind.i64 r.snd.snd]])], nx := 4 }
def insN (xs : List Row3) (i : Int) (r : Row3) (c : Nat) : St := { slots := [(31, AV.bool (decide (IntKind.i64.wrap ((↑xs.length : Int) + (1 : Int)) > (↑c : Int)))), (30, AV.int IntKind.i64 (↑c : Int)), (29, AV.hc 0 0 xs.length c), (28, AV.int IntKind.i64 (IntKind.i64.wrap ((↑xs.length : Int) + (1 : Int)))), (27, AV.int IntKind.i64 (1 : Int)), (26, AV.int IntKind.i64 (↑xs.length : Int)), (22, AV.bool (i == (↑xs.length : Int))), (21, AV.int IntKind.i64 (↑xs.length : Int)), (20, AV.int IntKind.i64 i), (8, AV.int IntKind.i64 (↑xs.length : Int)), (19, AV.int IntKind.i64 (↑xs.length : Int)), (18, AV.hc 0 0 xs.length c), (16, AV.bool false), (15, AV.int IntKind.i64 (1 : Int)), (7, AV.int IntKind.i64 (1 : Int)), (14, AV.int IntKind.i64 (1 : Int)), (13, AV.hw 1), (12, AV.hc 0 i.toNat (xs.length - i.toNat) (cutCap c (some i.toNat))), (11, AV.int IntKind.i64 i), (10, AV.hc 0 0 xs.length c), (6, AV.hw 2), (0, AV.hc 0 0 xs.length c), (1, AV.int IntKind.i64 i), (2, AV.hw 1)], objs := [(2, AObj.arr 3 ((Ty.int IntKind.i64).pair ((Ty.int IntKind.i64).pair (Ty.int IntKind.i64))) [] []), (0, AObj.arr 3 ((Ty.int IntKind.i64).pair ((Ty.int IntKind.i64).pair (Ty.int IntKind.i64))) xs []), (1, AObj.arr 3 Ty.bool [] [[AV.int IntKind.i64 r.fst, AV.int IntKind.i64 r.snd.fst, AV.int IntKind.i64 r.snd.snd]])], nx := 3 }
theorem ins2_ev {R : Type} (xs : List Row3) (i : Int) (r : Row3) (c : Nat) (K : Ex → St → Option R) : ev (env consA3) H.ins2 2 (LPof []) (preC 1 (sufC 7 B.slices_Insert_dedup_Row_dedup_Row)) (insN xs i r c) K = bif decide ((0 : Int) ≤ IntKind.i64.wrap ((↑xs.length : Int) + (1 : Int))) && decide (IntKind.i64.wrap ((↑xs.length : Int) + (1 : Int)) ≤ (↑xs.length : Int)) then K Ex.normal { slots := [(0, AV.hc 0 0 (IntKind.i64.wrap ((↑xs.length : Int) + (1 : Int))).toNat c), (60, AV.hc 0 0 (IntKind.i64.wrap ((↑xs.length : Int) + (1 : Int))).toNat c), (59, AV.int IntKind.i64 (IntKind.i64.wrap ((↑xs.length : Int) + (1 : Int)))), (58, AV.int IntKind.i64 (1 : Int)), (57, AV.int IntKind.i64 (↑xs.length : Int)), (56, AV.hc 0 0 xs.length c), (31, AV.bool (decide (IntKind.i64.wrap ((↑xs.length : Int) + (1 : Int)) > (↑c : Int)))), (30, AV.int IntKind.i64 (↑c : Int)), (29, AV.hc 0 0 xs.length c), (28, AV.int IntKind.i64 (IntKind.i64.wrap ((↑xs.length : Int) + (1 : Int)))), (27, AV.int IntKind.i64 (1 : Int)), (26, AV.int IntKind.i64 (↑xs.length : Int)), (22, AV.bool (i == (↑xs.length : Int))), (21, AV.int IntKind.i64 (↑xs.length : Int)), (20, AV.int IntKind.i64 i), (8, AV.int IntKind.i64 (↑xs.length : Int)), (19, AV.int IntKind.i64 (↑xs.length : Int)), (18, AV.hc 0 0 xs.length c), (16, AV.bool false), (15, AV.int IntKind.i64 (1 : Int)), (7, AV.int IntKind.i64 (1 : Int)), (14, AV.int IntKind.i64 (1 : Int)), (13, AV.hw 1), (12, AV.hc 0 i.toNat (xs.length - i.toNat) (cutCap c (some i.toNat))), (11, AV.int IntKind.i64 i), (10, AV.hc 0 0 xs.length c), (6, AV.hw 2), (0, AV.hc 0 0 xs.length c), (1, AV.int IntKind.i64 i), (2, AV.hw 1)], objs := [(2, AObj.arr 3 ((Ty.int IntKind.i64).pair ((Ty.int IntKind.i64).pair (Ty.int IntKind.i64))) [] []), (0, AObj.arr 3 ((Ty.int IntKind.i64).pair ((Ty.int IntKind.i64).pair (Ty.int IntKind.i64))) xs []), (1, AObj.arr 3 Ty.bool [] [[AV.int IntKind.i64 r.fst, AV.int IntKind.i64 r.snd.fst, AV.int IntKind.i64 r.snd.snd]])], nx := 3 } else bif decide (IntKind.i64.wrap ((↑xs.length : Int) + (1 : Int)) = (↑xs.length : Int) + (1 : Int)) && decide (xs.length + 1 ≤ c) && decide (0 + xs.length = xs.length) && decide (xs.length < 9223372036854775807) && true then K Ex.normal { slots := [(0, AV.hc 3 0 (xs.length + 1) c), (60, AV.hc 3 0 (xs.length + 1) c), (59, AV.int IntKind.i64 (IntKind.i64.wrap ((↑xs.length : Int) + (1 : Int)))), (58, AV.int IntKind.i64 (1 : Int)), (57, AV.int IntKind.i64 (↑xs.length : Int)), (56, AV.hc 0 0 xs.length c), (31, AV.bool (decide (IntKind.i64.wrap ((↑xs.length : Int) + (1 : Int)) > (↑c : Int)))), (30, AV.int IntKind.i64 (↑c : Int)), (29, AV.hc 0 0 xs.length c), (28, AV.int IntKind.i64 (IntKind.i64.wrap ((↑xs.length : Int) + (1 : Int)))), (27, AV.int IntKind.i64 (1 : Int)), (26, AV.int IntKind.i64 (↑xs.length : Int)), (22, AV.bool (i == (↑xs.length : Int))), (21, AV.int IntKind.i64 (↑xs.length : Int)), (20, AV.int IntKind.i64 i), (8, AV.int IntKind.i64 (↑xs.length : Int)), (19, AV.int IntKind.i64 (↑xs.length : Int)), (18, AV.hc 0 0 xs.length c), (16, AV.bool false), (15, AV.int IntKind.i64 (1 : Int)), (7, AV.int IntKind.i64 (1 : Int)), (14, AV.int IntKind.i64 (1 : Int)), (13, AV.hw 1), (12, AV.hc 0 i.toNat (xs.length - i.toNat) (cutCap c (some i.toNat))), (11, AV.int IntKind.i64 i), (10, AV.hc 0 0 xs.length c), (6, AV.hw 2), (0, AV.hc 0 0 xs.length c), (1, AV.int IntKind.i64 i), (2, AV.hw 1)], objs := [(3, AObj.arr 3 ((Ty.int IntKind.i64).pair ((Ty.int IntKind.i64).pair (Ty.int IntKind.i64))) xs [[AV.undef, AV.undef, AV.undef]]), (0, AObj.dead), (2, AObj.arr 3 ((Ty.int IntKind.i64).pair ((Ty.int IntKind.i64).pair (Ty.int IntKind.i64))) [] []), (0, AObj.arr 3 ((Ty.int IntKind.i64).pair ((Ty.int IntKind.i64).pair (Ty.int IntKind.i64))) xs []), (1, AObj.arr 3 Ty.bool [] [[AV.int IntKind.i64 r.fst, AV.int IntKind.i64 r.snd.fst, AV.int IntKind.i64 r.snd.snd]])], nx := 4 } else none := by kernel_rfl

end Go.Sim.XD
namespace Go.Sim.XD
set_option linter.unusedSimpArgs false
set_option linter.unusedVariables false
set_option maxRecDepth 10000
def insM (xs : List Row3) (i : Int) (r : Row3) (c : Nat) : St := { slots := [(0, AV.hc 3 0 (xs.length + 1) c), (60, AV.hc 3 0 (xs.length + 1) c), (59, AV.int IntKind.i64 (IntKind.i64.wrap ((↑xs.length : Int) + (1 : Int)))), (58, AV.int IntKind.i64 (1 : Int)), (57, AV.int IntKind.i64 (↑xs.length : Int)), (56, AV.hc 0 0 xs.length c), (31, AV.bool (decide (IntKind.i64.wrap ((↑xs.length : Int) + (1 : Int)) > (↑c : Int)))), (30, AV.int IntKind.i64 (↑c : Int)), (29, AV.hc 0 0 xs.length c), (28, AV.int IntKind.i64 (IntKind.i64.wrap ((↑xs.length : Int) + (1 : Int)))), (27, AV.int IntKind.i64 (1 : Int)), (26, AV.int IntKind.i64 (↑xs.length : Int)), (22, AV.bool (i == (↑xs.length : Int))), (21, AV.int IntKind.i64 (↑xs.length : Int)), (20, AV.int IntKind.i64 i), (8, AV.int IntKind.i64 (↑xs.length : Int)), (19, AV.int IntKind.i64 (↑xs.length : Int)), (18, AV.hc 0 0 xs.length c), (16, AV.bool false), (15, AV.int IntKind.i64 (1 : Int)), (7, AV.int IntKind.i64 (1 : Int)), (14, AV.int IntKind.i64 (1 : Int)), (13, AV.hw 1), (12, AV.hc 0 i.toNat (xs.length - i.toNat) (cutCap c (some i.toNat))), (11, AV.int IntKind.i64 i), (10, AV.hc 0 0 xs.length c), (6, AV.hw 2), (0, AV.hc 0 0 xs.length c), (1, AV.int IntKind.i64 i), (2, AV.hw 1)], objs := [(3, AObj.arr 3 ((Ty.int IntKind.i64).pair ((Ty.int IntKind.i64).pair (Ty.int IntKind.i64))) xs [[AV.undef, AV.undef, AV.undef]]), (0, AObj.dead), (2, AObj.arr 3 ((Ty.int IntKind.i64).pair ((Ty.int IntKind.i64).pair (Ty.int IntKind.i64))) [] []), (0, AObj.arr 3 ((Ty.int IntKind.i64).pair ((Ty.int IntKind.i64).pair (Ty.int IntKind.i64))) xs []), (1, AObj.arr 3 Ty.bool [] [[AV.int IntKind.i64 r.fst, AV.int IntKind.i64 r.snd.fst, AV.int IntKind.i64 r.snd.snd]])], nx := 4 }
theorem ins3_ev {R : Type} (xs : List Row3) (i : Int) (r : Row3) (c : Nat) (K : Ex → St → Option R) : ev (env consA3) H.ins2 2 (LPof []) (sufC 8 B.slices_Insert_dedup_Row_dedup_Row) (insM xs i r c) K = bif decide ((0 : Int) ≤ IntKind.i64.wrap (i + (1 : Int))) && decide (IntKind.i64.wrap (i + (1 : Int)) ≤ (↑(xs.length + 1) : Int)) then bif decide (0 < cutCap c (some (IntKind.i64.wrap (i + (1 : Int))).toNat)) then bif decide ((0 : Int) ≤ IntKind.i64.wrap (i + (1 : Int))) && decide (IntKind.i64.wrap (i + (1 : Int)) ≤ (↑(xs.length + 1) : Int)) then bif decide ((0 : Int) ≤ i) && decide (i ≤ (↑(xs.length + 1) : Int)) then bif decide ((IntKind.i64.wrap (i + (1 : Int))).toNat + (xs.length + 1 - (IntKind.i64.wrap (i + (1 : Int))).toNat) = xs.length + 1) && decide ((IntKind.i64.wrap (i + (1 : Int))).toNat ≤ xs.length) && decide (i.toNat + (xs.length + 1 - (IntKind.i64.wrap (i + (1 : Int))).toNat) ≤ xs.length) && decide (xs.length + 1 - (IntKind.i64.wrap (i + (1 : Int))).toNat ≤ xs.length + 1 - i.toNat) then bif decide ((0 : Int) ≤ i) && decide (i ≤ (↑(xs.length + 1) : Int)) then bif decide (1 ≤ xs.length + 1 - i.toNat) && decide (i.toNat + 1 ≤ (List.take xs.length (List.take (IntKind.i64.wrap (i + (1 : Int))).toNat xs ++ List.take (xs.length + 1 - (IntKind.i64.wrap (i + (1 : Int))).toNat) (List.drop i.toNat xs))).length) then bif decide (xs.length + 1 = (List.take i.toNat (List.take xs.length (List.take (IntKind.i64.wrap (i + (1 : Int))).toNat xs ++ List.take (xs.length + 1 - (IntKind.i64.wrap (i + (1 : Int))).toNat) (List.drop i.toNat xs))) ++ [r] ++ List.drop (i.toNat + 1) (List.take xs.length (List.take (IntKind.i64.wrap (i + (1 : Int))).toNat xs ++ List.take (xs.length + 1 - (IntKind.i64.wrap (i + (1 : Int))).toNat) (List.drop i.toNat xs)))).length + 1) && decide (0 < c) then K Ex.ret { slots := [(6, AV.hw 4), (83, AV.hw 3), (82, AV.int IntKind.i64 (1 : Int)), (81, AV.hw 1), (80, AV.hc 3 i.toNat (xs.length + 1 - i.toNat) (cutCap c (some i.toNat))), (79, AV.int IntKind.i64 i), (78, AV.hc 3 0 (xs.length + 1) c), (77, AV.int IntKind.i64 (↑(xs.length + 1 - (IntKind.i64.wrap (i + (1 : Int))).toNat) : Int)), (76, AV.hc 3 i.toNat (xs.length + 1 - i.toNat) (cutCap c (some i.toNat))), (75, AV.int IntKind.i64 i), (74, AV.hc 3 0 (xs.length + 1) c), (73, AV.hc 3 (IntKind.i64.wrap (i + (1 : Int))).toNat (xs.length + 1 - (IntKind.i64.wrap (i + (1 : Int))).toNat) (cutCap c (some (IntKind.i64.wrap (i + (1 : Int))).toNat))), (72, AV.int IntKind.i64 (IntKind.i64.wrap (i + (1 : Int)))), (71, AV.int IntKind.i64 (1 : Int)), (70, AV.int IntKind.i64 i), (69, AV.hc 3 0 (xs.length + 1) c), (68, AV.bool true), (67, AV.bool false), (66, AV.hc 3 (IntKind.i64.wrap (i + (1 : Int))).toNat (xs.length + 1 - (IntKind.i64.wrap (i + (1 : Int))).toNat) (cutCap c (some (IntKind.i64.wrap (i + (1 : Int))).toNat))), (65, AV.int IntKind.i64 (IntKind.i64.wrap (i + (1 : Int)))), (64, AV.int IntKind.i64 (1 : Int)), (63, AV.int IntKind.i64 i), (62, AV.hc 3 0 (xs.length + 1) c), (61, AV.hw 1), (0, AV.hc 3 0 (xs.length + 1) c), (60, AV.hc 3 0 (xs.length + 1) c), (59, AV.int IntKind.i64 (IntKind.i64.wrap ((↑xs.length : Int) + (1 : Int)))), (58, AV.int IntKind.i64 (1 : Int)), (57, AV.int IntKind.i64 (↑xs.length : Int)), (56, AV.hc 0 0 xs.length c), (31, AV.bool (decide (IntKind.i64.wrap ((↑xs.length : Int) + (1 : Int)) > (↑c : Int)))), (30, AV.int IntKind.i64 (↑c : Int)), (29, AV.hc 0 0 xs.length c), (28, AV.int IntKind.i64 (IntKind.i64.wrap ((↑xs.length : Int) + (1 : Int)))), (27, AV.int IntKind.i64 (1 : Int)), (26, AV.int IntKind.i64 (↑xs.length : Int)), (22, AV.bool (i == (↑xs.length : Int))), (21, AV.int IntKind.i64 (↑xs.length : Int)), (20, AV.int IntKind.i64 i), (8, AV.int IntKind.i64 (↑xs.length : Int)), (19, AV.int IntKind.i64 (↑xs.length : Int)), (18, AV.hc 0 0 xs.length c), (16, AV.bool false), (15, AV.int IntKind.i64 (1 : Int)), (7, AV.int IntKind.i64 (1 : Int)), (14, AV.int IntKind.i64 (1 : Int)), (13, AV.hw 1), (12, AV.hc 0 i.toNat (xs.length - i.toNat) (cutCap c (some i.toNat))), (11, AV.int IntKind.i64 i), (10, AV.hc 0 0 xs.length c), (6, AV.hw 2), (0, AV.hc 0 0 xs.length c), (1, AV.int IntKind.i64 i), (2, AV.hw 1)], objs := [(4, AObj.arr 3 ((Ty.int IntKind.i64).pair ((Ty.int IntKind.i64).pair (Ty.int IntKind.i64))) (List.take i.toNat (List.take xs.length (List.take (IntKind.i64.wrap (i + (1 : Int))).toNat xs ++ List.take (xs.length + 1 - (IntKind.i64.wrap (i + (1 : Int))).toNat) (List.drop i.toNat xs))) ++ [r] ++ List.drop (i.toNat + 1) (List.take xs.length (List.take (IntKind.i64.wrap (i + (1 : Int))).toNat xs ++ List.take (xs.length + 1 - (IntKind.i64.wrap (i + (1 : Int))).toNat) (List.drop i.toNat xs))) ++ [(List.take (IntKind.i64.wrap (i + (1 : Int))).toNat xs ++ List.take (xs.length + 1 - (IntKind.i64.wrap (i + (1 : Int))).toNat) (List.drop i.toNat xs)).getD xs.length ((Ty.int IntKind.i64).pair ((Ty.int IntKind.i64).pair (Ty.int IntKind.i64))).zero]) []), (3, AObj.dead), (3, AObj.arr 3 ((Ty.int IntKind.i64).pair ((Ty.int IntKind.i64).pair (Ty.int IntKind.i64))) (List.take i.toNat (List.take xs.length (List.take (IntKind.i64.wrap (i + (1 : Int))).toNat xs ++ List.take (xs.length + 1 - (IntKind.i64.wrap (i + (1 : Int))).toNat) (List.drop i.toNat xs))) ++ [r] ++ List.drop (i.toNat + 1) (List.take xs.length (List.take (IntKind.i64.wrap (i + (1 : Int))).toNat xs ++ List.take (xs.length + 1 - (IntKind.i64.wrap (i + (1 : Int))).toNat) (List.drop i.toNat xs)))) [[AV.int IntKind.i64 ((List.take (IntKind.i64.wrap (i + (1 : Int))).toNat xs ++ List.take (xs.length + 1 - (IntKind.i64.wrap (i + (1 : Int))).toNat) (List.drop i.toNat xs)).getD xs.length ((Ty.int IntKind.i64).pair ((Ty.int IntKind.i64).pair (Ty.int IntKind.i64))).zero).fst, AV.int IntKind.i64 ((List.take (IntKind.i64.wrap (i + (1 : Int))).toNat xs ++ List.take (xs.length + 1 - (IntKind.i64.wrap (i + (1 : Int))).toNat) (List.drop i.toNat xs)).getD xs.length ((Ty.int IntKind.i64).pair ((Ty.int IntKind.i64).pair (Ty.int IntKind.i64))).zero).snd.fst, AV.int IntKind.i64 ((List.take (IntKind.i64.wrap (i + (1 : Int))).toNat xs ++ List.take (xs.length + 1 - (IntKind.i64.wrap (i + (1 : Int))).toNat) (List.drop i.toNat xs)).getD xs.length ((Ty.int IntKind.i64).pair ((Ty.int IntKind.i64).pair (Ty.int IntKind.i64))).zero).snd.snd]]), (3, AObj.arr 3 ((Ty.int IntKind.i64).pair ((Ty.int IntKind.i64).pair (Ty.int IntKind.i64))) (List.take xs.length (List.take (IntKind.i64.wrap (i + (1 : Int))).toNat xs ++ List.take (xs.length + 1 - (IntKind.i64.wrap (i + (1 : Int))).toNat) (List.drop i.toNat xs))) [[AV.int IntKind.i64 ((List.take (IntKind.i64.wrap (i + (1 : Int))).toNat xs ++ List.take (xs.length + 1 - (IntKind.i64.wrap (i + (1 : Int))).toNat) (List.drop i.toNat xs)).getD xs.length ((Ty.int IntKind.i64).pair ((Ty.int IntKind.i64).pair (Ty.int IntKind.i64))).zero).fst, AV.int IntKind.i64 ((List.take (IntKind.i64.wrap (i + (1 : Int))).toNat xs ++ List.take (xs.length + 1 - (IntKind.i64.wrap (i + (1 : Int))).toNat) (List.drop i.toNat xs)).getD xs.length ((Ty.int IntKind.i64).pair ((Ty.int IntKind.i64).pair (Ty.int IntKind.i64))).zero).snd.fst, AV.int IntKind.i64 ((List.take (IntKind.i64.wrap (i + (1 : Int))).toNat xs ++ List.take (xs.length + 1 - (IntKind.i64.wrap (i + (1 : Int))).toNat) (List.drop i.toNat xs)).getD xs.length ((Ty.int IntKind.i64).pair ((Ty.int IntKind.i64).pair (Ty.int IntKind.i64))).zero).snd.snd]]), (3, AObj.arr 3 ((Ty.int IntKind.i64).pair ((Ty.int IntKind.i64).pair (Ty.int IntKind.i64))) xs [[AV.undef, AV.undef, AV.undef]]), (0, AObj.dead), (2, AObj.arr 3 ((Ty.int IntKind.i64).pair ((Ty.int IntKind.i64).pair (Ty.int IntKind.i64))) [] []), (0, AObj.arr 3 ((Ty.int IntKind.i64).pair ((Ty.int IntKind.i64).pair (Ty.int IntKind.i64))) xs []), (1, AObj.arr 3 Ty.bool [] [[AV.int IntKind.i64 r.fst, AV.int IntKind.i64 r.snd.fst, AV.int IntKind.i64 r.snd.snd]])], nx := 5 } else none else none else none else none else none else none else none else none := by kernel_rfl

end Go.Sim.XD
namespace Go.Sim.XD
set_option linter.unusedSimpArgs false
set_option linter.unusedVariables false
set_option maxRecDepth 10000
def insR3 (xs : List Row3) (i : Int) (r : Row3) (c : Nat) : St := { slots := [(6, AV.hw 4), (83, AV.hw 3), (82, AV.int IntKind.i64 (1 : Int)), (81, AV.hw 1), (80, AV.hc 3 i.toNat (xs.length + 1 - i.toNat) (cutCap c (some i.toNat))), (79, AV.int IntKind.i64 i), (78, AV.hc 3 0 (xs.length + 1) c), (77, AV.int IntKind.i64 (↑(xs.length + 1 - (IntKind.i64.wrap (i + (1 : Int))).toNat) : Int)), (76, AV.hc 3 i.toNat (xs.length + 1 - i.toNat) (cutCap c (some i.toNat))), (75, AV.int IntKind.i64 i), (74, AV.hc 3 0 (xs.length + 1) c), (73, AV.hc 3 (IntKind.i64.wrap (i + (1 : Int))).toNat (xs.length + 1 - (IntKind.i64.wrap (i + (1 : Int))).toNat) (cutCap c (some (IntKind.i64.wrap (i + (1 : Int))).toNat))), (72, AV.int IntKind.i64 (IntKind.i64.wrap (i + (1 : Int)))), (71, AV.int IntKind.i64 (1 : Int)), (70, AV.int IntKind.i64 i), (69, AV.hc 3 0 (xs.length + 1) c), (68, AV.bool true), (67, AV.bool false), (66, AV.hc 3 (IntKind.i64.wrap (i + (1 : Int))).toNat (xs.length + 1 - (IntKind.i64.wrap (i + (1 : Int))).toNat) (cutCap c (some (IntKind.i64.wrap (i + (1 : Int))).toNat))), (65, AV.int IntKind.i64 (IntKind.i64.wrap (i + (1 : Int)))), (64, AV.int IntKind.i64 (1 : Int)), (63, AV.int IntKind.i64 i), (62, AV.hc 3 0 (xs.length + 1) c), (61, AV.hw 1), (0, AV.hc 3 0 (xs.length + 1) c), (60, AV.hc 3 0 (xs.length + 1) c), (59, AV.int IntKind.i64 (IntKind.i64.wrap ((↑xs.length : Int) + (1 : Int)))), (58, AV.int IntKind.i64 (1 : Int)), (57, AV.int IntKind.i64 (↑xs.length : Int)), (56, AV.hc 0 0 xs.length c), (31, AV.bool (decide (IntKind.i64.wrap ((↑xs.length : Int) + (1 : Int)) > (↑c : Int)))), (30, AV.int IntKind.i64 (↑c : Int)), (29, AV.hc 0 0 xs.length c), (28, AV.int IntKind.i64 (IntKind.i64.wrap ((↑xs.length : Int) + (1 : Int)))), (27, AV.int IntKind.i64 (1 : Int)), (26, AV.int IntKind.i64 (↑xs.length : Int)), (22, AV.bool (i == (↑xs.length : Int))), (21, AV.int IntKind.i64 (↑xs.length : Int)), (20, AV.int IntKind.i64 i), (8, AV.int IntKind.i64 (↑xs.length : Int)), (19, AV.int IntKind.i64 (↑xs.length : Int)), (18, AV.hc 0 0 xs.length c), (16, AV.bool false), (15, AV.int IntKind.i64 (1 : Int)), (7, AV.int IntKind.i64 (1 : Int)), (14, AV.int IntKind.i64 (1 : Int)), (13, AV.hw 1), (12, AV.hc 0 i.toNat (xs.length - i.toNat) (cutCap c (some i.toNat))), (11, AV.int IntKind.i64 i), (10, AV.hc 0 0 xs.length c), (6, AV.hw 2), (0, AV.hc 0 0 xs.length c), (1, AV.int IntKind.i64 i), (2, AV.hw 1)], objs := [(4, AObj.arr 3 ((Ty.int IntKind.i64).pair ((Ty.int IntKind.i64).pair (Ty.int IntKind.i64))) (List.take i.toNat (List.take xs.length (List.take (IntKind.i64.wrap (i + (1 : Int))).toNat xs ++ List.take (xs.length + 1 - (IntKind.i64.wrap (i + (1 : Int))).toNat) (List.drop i.toNat xs))) ++ [r] ++ List.drop (i.toNat + 1) (List.take xs.length (List.take (IntKind.i64.wrap (i + (1 : Int))).toNat xs ++ List.take (xs.length + 1 - (IntKind.i64.wrap (i + (1 : Int))).toNat) (List.drop i.toNat xs))) ++ [(List.take (IntKind.i64.wrap (i + (1 : Int))).toNat xs ++ List.take (xs.length + 1 - (IntKind.i64.wrap (i + (1 : Int))).toNat) (List.drop i.toNat xs)).getD xs.length ((Ty.int IntKind.i64).pair ((Ty.int IntKind.i64).pair (Ty.int IntKind.i64))).zero]) []), (3, AObj.dead), (3, AObj.arr 3 ((Ty.int IntKind.i64).pair ((Ty.int IntKind.i64).pair (Ty.int IntKind.i64))) (List.take i.toNat (List.take xs.length (List.take (IntKind.i64.wrap (i + (1 : Int))).toNat xs ++ List.take (xs.length + 1 - (IntKind.i64.wrap (i + (1 : Int))).toNat) (List.drop i.toNat xs))) ++ [r] ++ List.drop (i.toNat + 1) (List.take xs.length (List.take (IntKind.i64.wrap (i + (1 : Int))).toNat xs ++ List.take (xs.length + 1 - (IntKind.i64.wrap (i + (1 : Int))).toNat) (List.drop i.toNat xs)))) [[AV.int IntKind.i64 ((List.take (IntKind.i64.wrap (i + (1 : Int))).toNat xs ++ List.take (xs.length + 1 - (IntKind.i64.wrap (i + (1 : Int))).toNat) (List.drop i.toNat xs)).getD xs.length ((Ty.int IntKind.i64).pair ((Ty.int IntKind.i64).pair (Ty.int IntKind.i64))).zero).fst, AV.int IntKind.i64 ((List.take (IntKind.i64.wrap (i + (1 : Int))).toNat xs ++ List.take (xs.length + 1 - (IntKind.i64.wrap (i + (1 : Int))).toNat) (List.drop i.toNat xs)).getD xs.length ((Ty.int IntKind.i64).pair ((Ty.int IntKind.i64).pair (Ty.int IntKind.i64))).zero).snd.fst, AV.int IntKind.i64 ((List.take (IntKind.i64.wrap (i + (1 : Int))).toNat xs ++ List.take (xs.length + 1 - (IntKind.i64.wrap (i + (1 : Int))).toNat) (List.drop i.toNat xs)).getD xs.length ((Ty.int IntKind.i64).pair ((Ty.int IntKind.i64).pair (Ty.int IntKind.i64))).zero).snd.snd]]), (3, AObj.arr 3 ((Ty.int IntKind.i64).pair ((Ty.int IntKind.i64).pair (Ty.int IntKind.i64))) (List.take xs.length (List.take (IntKind.i64.wrap (i + (1 : Int))).toNat xs ++ List.take (xs.length + 1 - (IntKind.i64.wrap (i + (1 : Int))).toNat) (List.drop i.toNat xs))) [[AV.int IntKind.i64 ((List.take (IntKind.i64.wrap (i + (1 : Int))).toNat xs ++ List.take (xs.length + 1 - (IntKind.i64.wrap (i + (1 : Int))).toNat) (List.drop i.toNat xs)).getD xs.length ((Ty.int IntKind.i64).pair ((Ty.int IntKind.i64).pair (Ty.int IntKind.i64))).zero).fst, AV.int IntKind.i64 ((List.take (IntKind.i64.wrap (i + (1 : Int))).toNat xs ++ List.take (xs.length + 1 - (IntKind.i64.wrap (i + (1 : Int))).toNat) (List.drop i.toNat xs)).getD xs.length ((Ty.int IntKind.i64).pair ((Ty.int IntKind.i64).pair (Ty.int IntKind.i64))).zero).snd.fst, AV.int IntKind.i64 ((List.take (IntKind.i64.wrap (i + (1 : Int))).toNat xs ++ List.take (xs.length + 1 - (IntKind.i64.wrap (i + (1 : Int))).toNat) (List.drop i.toNat xs)).getD xs.length ((Ty.int IntKind.i64).pair ((Ty.int IntKind.i64).pair (Ty.int IntKind.i64))).zero).snd.snd]]), (3, AObj.arr 3 ((Ty.int IntKind.i64).pair ((Ty.int IntKind.i64).pair (Ty.int IntKind.i64))) xs [[AV.undef, AV.undef, AV.undef]]), (0, AObj.dead), (2, AObj.arr 3 ((Ty.int IntKind.i64).pair ((Ty.int IntKind.i64).pair (Ty.int IntKind.i64))) [] []), (0, AObj.arr 3 ((Ty.int IntKind.i64).pair ((Ty.int IntKind.i64).pair (Ty.int IntKind.i64))) xs []), (1, AObj.arr 3 Ty.bool [] [[AV.int IntKind.i64 r.fst, AV.int IntKind.i64 r.snd.fst, AV.int IntKind.i64 r.snd.snd]])], nx := 5 }
abbrev insOut : List OPat := [.dead, .box 3 [[.int .i64, .int .i64, .int .i64]], .arr 3 rowT []]
noncomputable def insFin (e : Ex) (s : St) : Option ((Pat.lit (.hw 2)).den × opatsDen insOut) := match e with
  | .exit _ => none
  | _ => (resultsOf (env consA3) s F.slices_Insert_dedup_Row_dedup_Row.results.toList).bind fun vs => finV (.lit (.hw 2)) insOut 2 (oneOr vs) s
theorem fin1_ev (xs : List Row3) (i : Int) (r : Row3) (c : Nat) : insFin .ret (insR1 xs i r c) = some ((), (), ((r.fst, r.snd.fst, r.snd.snd, ()), ()), (List.take xs.length xs ++ [r], ()), ()) := by kernel_rfl

theorem fin2_ev (xs : List Row3) (i : Int) (r : Row3) (c : Nat) : insFin .ret (insR2 xs i r c) = some ((), (), ((r.fst, r.snd.fst, r.snd.snd, ()), ()), (List.take (IntKind.i64.wrap (i + (1 : Int))).toNat (List.take i.toNat (List.take i.toNat xs ++ List.replicate (IntKind.i64.wrap (IntKind.i64.wrap ((↑xs.length : Int) + (1 : Int)) - i)).toNat ((Ty.int IntKind.i64).pair ((Ty.int IntKind.i64).pair (Ty.int IntKind.i64))).zero) ++ [r] ++ List.drop (i.toNat + 1) (List.take i.toNat xs ++ List.replicate (IntKind.i64.wrap (IntKind.i64.wrap ((↑xs.length : Int) + (1 : Int)) - i)).toNat ((Ty.int IntKind.i64).pair ((Ty.int IntKind.i64).pair (Ty.int IntKind.i64))).zero)) ++ List.drop i.toNat xs ++ List.drop ((IntKind.i64.wrap (i + (1 : Int))).toNat + (List.drop i.toNat xs).length) (List.take i.toNat (List.take i.toNat xs ++ List.replicate (IntKind.i64.wrap (IntKind.i64.wrap ((↑xs.length : Int) + (1 : Int)) - i)).toNat ((Ty.int IntKind.i64).pair ((Ty.int IntKind.i64).pair (Ty.int IntKind.i64))).zero) ++ [r] ++ List.drop (i.toNat + 1) (List.take i.toNat xs ++ List.replicate (IntKind.i64.wrap (IntKind.i64.wrap ((↑xs.length : Int) + (1 : Int)) - i)).toNat ((Ty.int IntKind.i64).pair ((Ty.int IntKind.i64).pair (Ty.int IntKind.i64))).zero)), ()), ()) := by kernel_rfl

theorem fin3_ev (xs : List Row3) (i : Int) (r : Row3) (c : Nat) : insFin .ret (insR3 xs i r c) = some ((), (), ((r.fst, r.snd.fst, r.snd.snd, ()), ()), (List.take i.toNat (List.take xs.length (List.take (IntKind.i64.wrap (i + (1 : Int))).toNat xs ++ List.take (xs.length + 1 - (IntKind.i64.wrap (i + (1 : Int))).toNat) (List.drop i.toNat xs))) ++ [r] ++ List.drop (i.toNat + 1) (List.take xs.length (List.take (IntKind.i64.wrap (i + (1 : Int))).toNat xs ++ List.take (xs.length + 1 - (IntKind.i64.wrap (i + (1 : Int))).toNat) (List.drop i.toNat xs))) ++ [(List.take (IntKind.i64.wrap (i + (1 : Int))).toNat xs ++ List.take (xs.length + 1 - (IntKind.i64.wrap (i + (1 : Int))).toNat) (List.drop i.toNat xs)).getD xs.length ((Ty.int IntKind.i64).pair ((Ty.int IntKind.i64).pair (Ty.int IntKind.i64))).zero], ()), ()) := by kernel_rfl

theorem cond_t {α : Type _} {b : Bool} {x y : α} (h : b = true) : cond b x y = x := by rw [h]; rfl
theorem cond_f {α : Type _} {b : Bool} {x y : α} (h : b = false) : cond b x y = y := by rw [h]; rfl
theorem suf_skip : ∀ m, sufC m .skip = .skip
  | 0 => rfl
  | _ + 1 => rfl
theorem suf_suf : ∀ (n m : Nat) (c : Code), sufC m (sufC n c) = sufC (n + m) c
  | 0, m, c => by rw [Nat.zero_add]; rfl
  | n + 1, m, c => by
    rw [show n + 1 + m = (n + m) + 1 by omega]
    cases c <;> first | exact suf_suf n m _ | exact suf_skip m
theorem ins_grow (xs : List Row3) (z r : Row3) (k : Nat) (hk : k ≤ xs.length) : List.take (k + 1) (List.take k (List.take k xs ++ List.replicate (xs.length + 1 - k) z) ++ [r] ++ List.drop (k + 1) (List.take k xs ++ List.replicate (xs.length + 1 - k) z)) ++ List.drop k xs ++
    List.drop (k + 1 + (List.drop k xs).length) (List.take k (List.take k xs ++ List.replicate (xs.length + 1 - k) z) ++ [r] ++ List.drop (k + 1) (List.take k xs ++ List.replicate (xs.length + 1 - k) z)) = putAt xs k k r := by
  have hl : (List.take k xs).length = k := by simp; omega
  have e1 : List.take k (List.take k xs ++ List.replicate (xs.length + 1 - k) z) = List.take k xs := by
    rw [List.take_append_of_le_length (by omega), List.take_take, Nat.min_self]
  have e2 : List.drop (k + 1) (List.take k xs ++ List.replicate (xs.length + 1 - k) z) = List.replicate (xs.length - k) z := by
    rw [List.drop_append, List.drop_of_length_le (by omega), hl, Nat.add_sub_cancel_left, List.drop_replicate, List.nil_append]
    congr 1
    omega
  rw [e1, e2]
  have hl1 : (List.take k xs ++ [r]).length = k + 1 := by rw [List.length_append, hl]; rfl
  have e3 : List.take (k + 1) (List.take k xs ++ [r] ++ List.replicate (xs.length - k) z) = List.take k xs ++ [r] := by
    rw [List.take_append_of_le_length (by omega), List.take_of_length_le (by omega)]
  have e4 : List.drop (k + 1 + (List.drop k xs).length) (List.take k xs ++ [r] ++ List.replicate (xs.length - k) z) = [] :=
    List.drop_of_length_le (by rw [List.length_append, hl1, List.length_replicate, List.length_drop]; omega)
  rw [e3, e4]
  unfold putAt
  simp
theorem ins_move (xs : List Row3) (z r : Row3) (k : Nat) (hk : k < xs.length) : List.take k (List.take xs.length (List.take (k + 1) xs ++ List.take (xs.length + 1 - (k + 1)) (List.drop k xs))) ++ [r] ++
    List.drop (k + 1) (List.take xs.length (List.take (k + 1) xs ++ List.take (xs.length + 1 - (k + 1)) (List.drop k xs))) ++ [(List.take (k + 1) xs ++ List.take (xs.length + 1 - (k + 1)) (List.drop k xs)).getD xs.length z] = putAt xs k k r := by
  have eA : List.take (xs.length + 1 - (k + 1)) (List.drop k xs) = List.drop k xs := List.take_of_length_le (by simp only [List.length_drop]; omega)
  rw [eA]
  have hl : (List.take (k + 1) xs).length = k + 1 := by simp; omega
  obtain ⟨A, hA⟩ : ∃ A, A = List.take (k + 1) xs ++ List.drop k xs := ⟨_, rfl⟩
  have hAl : A.length = xs.length + 1 := by rw [hA, List.length_append, hl, List.length_drop]; omega
  rw [← hA]
  have h1 : List.take k (List.take xs.length A) = List.take k xs := by
    rw [List.take_take, Nat.min_eq_left (by omega), hA, List.take_append_of_le_length (by omega), List.take_take, Nat.min_eq_left (by omega)]
  have h2 : List.take xs.length A ++ [A.getD xs.length z] = A := by
    have hget : A.getD xs.length z = A[xs.length]'(by omega) := by rw [List.getD_eq_getElem?_getD, List.getElem?_eq_getElem (by omega)]; rfl
    rw [hget, List.take_append_getElem, List.take_of_length_le (by omega)]
  have h3 : List.drop (k + 1) (List.take xs.length A) ++ [A.getD xs.length z] = List.drop k xs := by
    have : List.drop (k + 1) (List.take xs.length A ++ [A.getD xs.length z]) = List.drop (k + 1) (List.take xs.length A) ++ [A.getD xs.length z] := List.drop_append_of_le_length (by rw [List.length_take, hAl]; omega)
    rw [← this, h2, hA, List.drop_append, hl, Nat.sub_self, List.drop_of_length_le (by omega)]
    simp
  rw [h1, List.append_assoc, List.append_assoc, h3]
  unfold putAt
  simp
theorem mv_len (A : List Row3) (r : Row3) (n k : Nat) (hA : A.length = n + 1) (hk : k < n) : (List.take k (List.take n A) ++ [r] ++ List.drop (k + 1) (List.take n A)).length = n := by
  simp only [List.length_append, List.length_take, List.length_drop, List.length_cons, List.length_nil, hA]
  omega
theorem ins_val (xs : List Row3) (r : Row3) (c k : Nat) (hk : k ≤ xs.length) (hn : xs.length ≤ 1000000) (hc : xs.length ≤ c) (hM : c ≤ maxL) :
    evFn (env consA3) H.ins2 (LPof []) F.slices_Insert_dedup_Row_dedup_Row [.hc 0 0 xs.length c, .int .i64 (k : Int), .hw 1] [.arr 3 rowT xs [], insObj r] (finV (.lit (.hw 2)) insOut 2) = some ((), (), ((r.1, r.2.1, r.2.2, ()), ()), (putAt xs k k r, ()), ()) := by
  have h0 : evFn (env consA3) H.ins2 (LPof []) F.slices_Insert_dedup_Row_dedup_Row [.hc 0 0 xs.length c, .int .i64 (k : Int), .hw 1] [.arr 3 rowT xs [], insObj r] (finV (.lit (.hw 2)) insOut 2) =
    ev (env consA3) H.ins2 2 (LPof []) B.slices_Insert_dedup_Row_dedup_Row (initSt [.hc 0 0 xs.length c, .int .i64 (k : Int), .hw 1] [.arr 3 rowT xs [], insObj r]) insFin := by
    unfold evFn
    rw [Bd.slices_Insert_dedup_Row_dedup_Row]
    rfl
  have w1 : IntKind.i64.wrap ((xs.length : Int) + 1) = (xs.length : Int) + 1 := wrap64 (by omega) (by omega)
  have w2 : IntKind.i64.wrap ((xs.length : Int) + 1 - (k : Int)) = (xs.length : Int) + 1 - (k : Int) := wrap64 (by omega) (by omega)
  have w3 : IntKind.i64.wrap ((k : Int) + 1) = (k : Int) + 1 := wrap64 (by omega) (by omega)
  have t1 : ((xs.length : Int) + 1 - (k : Int)).toNat = xs.length + 1 - k := by omega
  have t2 : ((k : Int) + 1).toNat = k + 1 := by omega
  rw [h0, ev_cut (by rfl) 7, ins1_ev]
  rw [cond_pos2 (by omega) (by omega)]
  by_cases he : k = xs.length
  · subst he
    rw [show (((xs.length : Int) == (xs.length : Int))) = true by simp, cond_true, cond_pos (by simp; omega)]
    refine (fin1_ev xs (xs.length : Int) r c).trans ?_
    congr 1
    unfold putAt
    simp
  · have hne : ((k : Int) == (xs.length : Int)) = false := by simp; omega
    rw [cond_f hne]
    by_cases hg : xs.length + 1 > c
    · have hl0 : (List.take k xs ++ List.replicate (xs.length + 1 - k) rowT.zero).length = xs.length + 1 := by simp only [List.length_append, List.length_take, List.length_replicate]; omega
      have hd : (List.drop k xs).length = xs.length - k := List.length_drop
      have hl1 : (List.take k (List.take k xs ++ List.replicate (xs.length + 1 - k) rowT.zero) ++ [r] ++ List.drop (k + 1) (List.take k xs ++ List.replicate (xs.length + 1 - k) rowT.zero)).length = xs.length + 1 := by
        rw [List.length_append, List.length_append, List.length_take, List.length_drop, hl0]
        simp only [List.length_cons, List.length_nil]
        omega
      rw [cond_t (by first | (simp only [w1, w2, w3, t1, t2, Int.toNat_natCast, hl0, hl1, hd, decide_true, Bool.and_true, Bool.true_and, Bool.and_eq_true, decide_eq_true_eq]; done) | (simp only [w1, w2, w3, t1, t2, Int.toNat_natCast, hl0, hl1, hd, decide_true, Bool.and_true, Bool.true_and, Bool.and_eq_true, decide_eq_true_eq]; omega)), cond_t (by first | (simp only [w1, w2, w3, t1, t2, Int.toNat_natCast, hl0, hl1, hd, decide_true, Bool.and_true, Bool.true_and, Bool.and_eq_true, decide_eq_true_eq]; done) | (simp only [w1, w2, w3, t1, t2, Int.toNat_natCast, hl0, hl1, hd, decide_true, Bool.and_true, Bool.true_and, Bool.and_eq_true, decide_eq_true_eq]; omega)), cond_t (by first | (simp only [w1, w2, w3, t1, t2, Int.toNat_natCast, hl0, hl1, hd, decide_true, Bool.and_true, Bool.true_and, Bool.and_eq_true, decide_eq_true_eq]; done) | (simp only [w1, w2, w3, t1, t2, Int.toNat_natCast, hl0, hl1, hd, decide_true, Bool.and_true, Bool.true_and, Bool.and_eq_true, decide_eq_true_eq]; omega)), cond_t (by first | (simp only [w1, w2, w3, t1, t2, Int.toNat_natCast, hl0, hl1, hd, decide_true, Bool.and_true, Bool.true_and, Bool.and_eq_true, decide_eq_true_eq]; done) | (simp only [w1, w2, w3, t1, t2, Int.toNat_natCast, hl0, hl1, hd, decide_true, Bool.and_true, Bool.true_and, Bool.and_eq_true, decide_eq_true_eq]; omega)), cond_t (by first | (simp only [w1, w2, w3, t1, t2, Int.toNat_natCast, hl0, hl1, hd, decide_true, Bool.and_true, Bool.true_and, Bool.and_eq_true, decide_eq_true_eq]; done) | (simp only [w1, w2, w3, t1, t2, Int.toNat_natCast, hl0, hl1, hd, decide_true, Bool.and_true, Bool.true_and, Bool.and_eq_true, decide_eq_true_eq]; omega)), cond_t (by first | (simp only [w1, w2, w3, t1, t2, Int.toNat_natCast, hl0, hl1, hd, decide_true, Bool.and_true, Bool.true_and, Bool.and_eq_true, decide_eq_true_eq]; done) | (simp only [w1, w2, w3, t1, t2, Int.toNat_natCast, hl0, hl1, hd, decide_true, Bool.and_true, Bool.true_and, Bool.and_eq_true, decide_eq_true_eq]; omega)), cond_t (by first | (simp only [w1, w2, w3, t1, t2, Int.toNat_natCast, hl0, hl1, hd, decide_true, Bool.and_true, Bool.true_and, Bool.and_eq_true, decide_eq_true_eq]; done) | (simp only [w1, w2, w3, t1, t2, Int.toNat_natCast, hl0, hl1, hd, decide_true, Bool.and_true, Bool.true_and, Bool.and_eq_true, decide_eq_true_eq]; omega)), cond_t (by first | (simp only [w1, w2, w3, t1, t2, Int.toNat_natCast, hl0, hl1, hd, decide_true, Bool.and_true, Bool.true_and, Bool.and_eq_true, decide_eq_true_eq]; done) | (simp only [w1, w2, w3, t1, t2, Int.toNat_natCast, hl0, hl1, hd, decide_true, Bool.and_true, Bool.true_and, Bool.and_eq_true, decide_eq_true_eq]; omega)), cond_t (by first | (simp only [w1, w2, w3, t1, t2, Int.toNat_natCast, hl0, hl1, hd, decide_true, Bool.and_true, Bool.true_and, Bool.and_eq_true, decide_eq_true_eq]; done) | (simp only [w1, w2, w3, t1, t2, Int.toNat_natCast, hl0, hl1, hd, decide_true, Bool.and_true, Bool.true_and, Bool.and_eq_true, decide_eq_true_eq]; omega))]
      refine (fin2_ev xs (k : Int) r c).trans ?_
      simp only [w1, w2, w3, t1, t2, Int.toNat_natCast]
      rw [ins_grow xs _ r k hk]
    · have hA : List.take (xs.length + 1 - (k + 1)) (List.drop k xs) = List.drop k xs := List.take_of_length_le (by simp only [List.length_drop]; omega)
      have hA2 : (List.take xs.length (List.take (k + 1) xs ++ List.drop k xs)).length = xs.length := by simp only [List.length_take, List.length_append, List.length_drop]; omega
      have hA3 : True := trivial
      rw [cond_f (by simp only [w1, decide_eq_false_iff_not]; omega)]
      show ev (env consA3) H.ins2 2 (LPof []) (sufC 7 B.slices_Insert_dedup_Row_dedup_Row) (insN xs (k : Int) r c) insFin = _
      rw [ev_cut (by rfl) 1, ins2_ev, cond_f (by simp only [w1, Bool.and_eq_false_iff, decide_eq_false_iff_not]; omega), cond_t (by first | (simp only [w1, w3, t2, Int.toNat_natCast, hA, hA2, hA3, cutCap, decide_true, Bool.and_true, Bool.true_and, Bool.and_eq_true, decide_eq_true_eq]; done) | (simp only [w1, w3, t2, Int.toNat_natCast, hA, hA2, hA3, cutCap, decide_true, Bool.and_true, Bool.true_and, Bool.and_eq_true, decide_eq_true_eq]; omega))]
      rw [suf_suf]
      show ev (env consA3) H.ins2 2 (LPof []) (sufC 8 B.slices_Insert_dedup_Row_dedup_Row) (insM xs (k : Int) r c) insFin = _
      rw [ins3_ev, cond_t (by first | (simp only [w1, w3, t2, Int.toNat_natCast, hA, hA2, hA3, cutCap, decide_true, Bool.and_true, Bool.true_and, Bool.and_eq_true, decide_eq_true_eq]; done) | (simp only [w1, w3, t2, Int.toNat_natCast, hA, hA2, hA3, cutCap, decide_true, Bool.and_true, Bool.true_and, Bool.and_eq_true, decide_eq_true_eq]; omega)), cond_t (by first | (simp only [w1, w3, t2, Int.toNat_natCast, hA, hA2, hA3, cutCap, decide_true, Bool.and_true, Bool.true_and, Bool.and_eq_true, decide_eq_true_eq]; done) | (simp only [w1, w3, t2, Int.toNat_natCast, hA, hA2, hA3, cutCap, decide_true, Bool.and_true, Bool.true_and, Bool.and_eq_true, decide_eq_true_eq]; omega)), cond_t (by first | (simp only [w1, w3, t2, Int.toNat_natCast, hA, hA2, hA3, cutCap, decide_true, Bool.and_true, Bool.true_and, Bool.and_eq_true, decide_eq_true_eq]; done) | (simp only [w1, w3, t2, Int.toNat_natCast, hA, hA2, hA3, cutCap, decide_true, Bool.and_true, Bool.true_and, Bool.and_eq_true, decide_eq_true_eq]; omega)), cond_t (by first | (simp only [w1, w3, t2, Int.toNat_natCast, hA, hA2, hA3, cutCap, decide_true, Bool.and_true, Bool.true_and, Bool.and_eq_true, decide_eq_true_eq]; done) | (simp only [w1, w3, t2, Int.toNat_natCast, hA, hA2, hA3, cutCap, decide_true, Bool.and_true, Bool.true_and, Bool.and_eq_true, decide_eq_true_eq]; omega)), cond_t (by first | (simp only [w1, w3, t2, Int.toNat_natCast, hA, hA2, hA3, cutCap, decide_true, Bool.and_true, Bool.true_and, Bool.and_eq_true, decide_eq_true_eq]; done) | (simp only [w1, w3, t2, Int.toNat_natCast, hA, hA2, hA3, cutCap, decide_true, Bool.and_true, Bool.true_and, Bool.and_eq_true, decide_eq_true_eq]; omega)), cond_t (by first | (simp only [w1, w3, t2, Int.toNat_natCast, hA, hA2, hA3, cutCap, decide_true, Bool.and_true, Bool.true_and, Bool.and_eq_true, decide_eq_true_eq]; done) | (simp only [w1, w3, t2, Int.toNat_natCast, hA, hA2, hA3, cutCap, decide_true, Bool.and_true, Bool.true_and, Bool.and_eq_true, decide_eq_true_eq]; omega)), cond_t (by first | (simp only [w1, w3, t2, Int.toNat_natCast, hA, hA2, hA3, cutCap, decide_true, Bool.and_true, Bool.true_and, Bool.and_eq_true, decide_eq_true_eq]; done) | (simp only [w1, w3, t2, Int.toNat_natCast, hA, hA2, hA3, cutCap, decide_true, Bool.and_true, Bool.true_and, Bool.and_eq_true, decide_eq_true_eq]; omega))]
      rw [cond_t (by
        rw [Bool.and_eq_true]
        refine ⟨?_, decide_eq_true (by omega)⟩
        rw [decide_eq_true_eq]
        have hml := mv_len (List.take (k + 1) xs ++ List.drop k xs) r xs.length k (by simp only [List.length_append, List.length_take, List.length_drop]; omega) (by omega)
        rw [w3, t2, Int.toNat_natCast, hA]
        rw [hml])]
      refine (fin3_ev xs (k : Int) r c).trans ?_
      simp only [w3, t2, Int.toNat_natCast]
      rw [ins_move xs _ r k (by omega)]
end Go.Sim.XD
namespace Go.Sim.XD
set_option linter.unusedSimpArgs false
set_option linter.unusedVariables false
set_option maxRecDepth 10000
theorem row36 : P0.underlying 104 = some (.slice 145) := by kernel_rfl
theorem size65 (w : World) : (Go.sizeOf 145).run P0 w = .ok 3 w := by
  have h : (P0.info? 145).map (fun x => x.size) = some 3 := by kernel_rfl
  obtain ⟨i0, hi0, h1⟩ := Option.map_eq_some_iff.1 h
  simp [sizeOf, typeInfo, hi0, h1]
theorem apart28 : ApartOK P0 182 := fun w a b la ca lb cb tA tB kA kB h1 h2 h3 h4 h5 h6 => by
  rw [run_callFunc_extern (P := P0) (f := 182) (fn := Proofs.Tryz.f182) Proofs.Tryz.func182 (by kernel_rfl) (by kernel_rfl) (by kernel_rfl) (e := Extern.SlicesOverlaps.overlaps #[104, 104] #[4]) (by kernel_rfl),
    Lib.run_overlaps_apart w 104 4 145 row36 3 size65 a b la ca lb cb h1 tA tB kA kB h2 h3 h4 h5 h6]
  rfl
theorem consA3_ok : ∀ x ∈ consA3, HoldsC P0 x.1 x.2 := by
  intro x hx
  simp at hx
  subst hx
  exact apart28
def caseIns : VCase := ⟨[.lit (.hw 0), .int .i64, .lit (.hw 1)], [.arr 3 rowT [], .box 3 [[.int .i64, .int .i64, .int .i64]]], .lit (.hw 2), insOut,
  fun ⟨_, i, _⟩ ⟨⟨xs, _⟩, ⟨⟨a, b, c, _⟩, _⟩, _⟩ => [(decide (0 ≤ i) && decide (i ≤ (List.length xs : Int)) && decide (List.length xs ≤ 1000000), ((), ((), ((a, b, c, ()), ()), (putAt xs i.toNat i.toNat (a, b, c), ()), ())))]⟩
theorem ins_ok : caseIns.e.ok P0 I.slices_Insert_dedup_Row_dedup_Row := fun ⟨_, i, _, _⟩ ⟨⟨xs, _⟩, ⟨⟨a, b, c, _⟩, _⟩, _⟩ r objs' hxy hw1 hw2 => by
  obtain ⟨z, hz, e0⟩ := pick_mapAlt hxy
  cases e0
  obtain ⟨hc, rfl⟩ := pick_pre hz
  simp only [Bool.and_eq_true, decide_eq_true_eq] at hc
  obtain ⟨k, rfl⟩ := Int.eq_ofNat_of_zero_le hc.1.1
  refine EffGood.of_cap (n := I.slices_Insert_dedup_Row_dedup_Row) (t := rowT) (xs := xs) fun cp h1 h2 => ?_
  exact eff_of_ev (H := H.ins2) (E := env consA3) (env_ok consA3_ok) glob0 mixed0 G.slices_Insert_dedup_Row_dedup_Row Bd.slices_Insert_dedup_Row_dedup_Row (by kernel_rfl) noLoops (out := .lit (.hw 2)) (outs := insOut) (ins_val xs (a, b, c) cp k (Int.ofNat_le.1 hc.1.2) hc.2 h1 h2)
def caseFind1 : PCase := ⟨[.ty rowT, .ty (.int .i64)], [.int .i64], fun x => (fun (r : Row3) (p : Int) => [(true, (cmpI r.1 p, ()))]) x.1 x.2.1⟩
theorem find1_val (r : Row3) (p : Int) : evFn (env consA2) H.dedup_Table_find_1 (LPof []) F.dedup_Table_find_1 [valOf rowT r, .int .i64 p] [] (finT [.int .i64]) = some (cmpI r.1 p, ()) := by
  rw [find1_ev]
theorem find1_ok : caseFind1.ok P0 I.dedup_Table_find_1 := case_ok2 (H := H.dedup_Table_find_1) (E := env consA2) (env_ok consA2_ok) glob0 mixed0 G.dedup_Table_find_1 Bd.dedup_Table_find_1 (by kernel_rfl) noLoops fun ⟨r, p, ()⟩ y h hw => by
  obtain ⟨hc, rfl⟩ := pick_pre h
  exact find1_val r p
noncomputable abbrev consA4 : List (FuncId × Con) := [(I.dedup_Table_find_1, .pure (pureOf [caseFind1]))]
theorem consA4_ok : ∀ x ∈ consA4, HoldsC P0 x.1 x.2 := by
  intro x hx
  simp at hx
  subst hx
  exact ⟨pureOf_holds (by simp; exact find1_ok), C.dedup_Table_find_1⟩
theorem bs_rd {R : Type} (xs : List Row3) (p n i j : Int) (K : Ex → St → Option R) : roundK (env consA4) H.slices_BinarySearchFunc_dedup_Row_dedup_Row_int 1 (LPof []) V.slices_BinarySearchFunc_dedup_Row_dedup_Row_int_3 L.slices_BinarySearchFunc_dedup_Row_dedup_Row_int_3 ⟨[(0, .hw 0), (1, .int .i64 p), (2, .fn (.func I.dedup_Table_find_1) [] []), (8, .int .i64 n), (9, .int .i64 i), (10, .int .i64 j)], [(0, .arr 3 rowT xs [])], 1⟩ K = bif decide (i < j) then bif decide ((0 : Int) ≤ IntKind.i64.wrap ((IntKind.u64.wrap (IntKind.i64.wrap (i + j))).fdiv (2 : Int))) && decide (IntKind.i64.wrap ((IntKind.u64.wrap (IntKind.i64.wrap (i + j))).fdiv (2 : Int)) < (↑xs.length : Int)) then bif decide (cmpI (xs.getD (IntKind.i64.wrap ((IntKind.u64.wrap (IntKind.i64.wrap (i + j))).fdiv (2 : Int))).toNat rowT.zero).fst p < (0 : Int)) then K Ex.normal { slots := [(0, AV.hw 0), (1, AV.int IntKind.i64 p), (2, AV.fn (Fn.func 180) [] []), (8, AV.int IntKind.i64 n), (9, AV.int IntKind.i64 (IntKind.i64.wrap (IntKind.i64.wrap ((IntKind.u64.wrap (IntKind.i64.wrap (i + j))).fdiv (2 : Int)) + (1 : Int)))), (10, AV.int IntKind.i64 j)], objs := [(0, AObj.arr 3 ((Ty.int IntKind.i64).pair ((Ty.int IntKind.i64).pair (Ty.int IntKind.i64))) xs [])], nx := 1 } else K Ex.normal { slots := [(0, AV.hw 0), (1, AV.int IntKind.i64 p), (2, AV.fn (Fn.func 180) [] []), (8, AV.int IntKind.i64 n), (9, AV.int IntKind.i64 i), (10, AV.int IntKind.i64 (IntKind.i64.wrap ((IntKind.u64.wrap (IntKind.i64.wrap (i + j))).fdiv (2 : Int))))], objs := [(0, AObj.arr 3 ((Ty.int IntKind.i64).pair ((Ty.int IntKind.i64).pair (Ty.int IntKind.i64))) xs [])], nx := 1 } else none else K (Ex.exit 0) { slots := [(0, AV.hw 0), (1, AV.int IntKind.i64 p), (2, AV.fn (Fn.func 180) [] []), (8, AV.int IntKind.i64 n), (9, AV.int IntKind.i64 i), (10, AV.int IntKind.i64 j)], objs := [(0, AObj.arr 3 ((Ty.int IntKind.i64).pair ((Ty.int IntKind.i64).pair (Ty.int IntKind.i64))) xs [])], nx := 1 } := by kernel_rfl

def bsSt (xs : List Row3) (p : Int) (i j : Nat) : St := ⟨[(0, .hw 0), (1, .int .i64 p), (2, .fn (.func I.dedup_Table_find_1) [] []), (8, .int .i64 xs.length), (9, .int .i64 i), (10, .int .i64 j)], [(0, .arr 3 rowT xs [])], 1⟩
theorem cmp_lt (a b : Int) : decide (cmpI a b < 0) = decide (a < b) := by
  unfold cmpI
  by_cases h : a < b
  · simp [h]
  · by_cases g : a > b <;> simp [h, g]
theorem cmp_eq (a b : Int) : (cmpI a b == 0) = (a == b) := by
  unfold cmpI
  by_cases h : a < b
  · have : ¬ a = b := by omega
    simp [h, this]
  · by_cases g : a > b
    · have : ¬ a = b := by omega
      simp [h, g, this]
    · have : a = b := by omega
      simp [h, g, this]
theorem bs_rounds {R : Type} (xs : List Row3) (p : Int) (hs : sortedL xs = true) (hn : xs.length ≤ 1000000) (K : Ex → St → Option R) : ∀ (d i j : Nat), j - i ≤ d → i ≤ j → j ≤ xs.length → (∀ a, a < i → (atL xs a).1 < p) → (∀ a, j ≤ a → a < xs.length → p ≤ (atL xs a).1) →
    ∃ m, rounds (env consA4) H.slices_BinarySearchFunc_dedup_Row_dedup_Row_int 1 (LPof []) V.slices_BinarySearchFunc_dedup_Row_dedup_Row_int_3 L.slices_BinarySearchFunc_dedup_Row_dedup_Row_int_3 m (bsSt xs p i j) K = K (.exit 0) (bsSt xs p (posL xs p) (posL xs p)) := by
  intro d
  induction d with
  | zero =>
    intro i j hd hij hj h1 h2
    obtain rfl : i = j := by omega
    have hp := pos_eq hj h1 (fun h => h2 i (Nat.le_refl _) h)
    refine ⟨1, ?_⟩
    rw [rounds_succ']
    refine (bs_rd _ _ _ _ _ _).trans ?_
    rw [cond_neg (by omega), hp]
    rfl
  | succ d ih =>
    intro i j hd hij hj h1 h2
    by_cases hlt : i < j
    · have e1 : IntKind.i64.wrap ((i : Int) + (j : Int)) = (i : Int) + (j : Int) := wrap64 (by omega) (by omega)
      have e2 : IntKind.u64.wrap ((i : Int) + (j : Int)) = (i : Int) + (j : Int) := wrapu64 (by omega) (by omega)
      have e3 : ((i : Int) + (j : Int)).fdiv 2 = (((i + j) / 2 : Nat) : Int) := by rw [Int.fdiv_eq_ediv_of_nonneg _ (by omega)]; omega
      have e4 : IntKind.i64.wrap ((((i + j) / 2 : Nat)) : Int) = (((i + j) / 2 : Nat) : Int) := wrap64 (by omega) (by omega)
      have e5 : IntKind.i64.wrap ((((i + j) / 2 : Nat) : Int) + 1) = (((i + j) / 2 + 1 : Nat) : Int) := by rw [wrap64 (by omega) (by omega)]; omega
      by_cases hc : (atL xs ((i + j) / 2)).1 < p
      · obtain ⟨m, hm⟩ := ih ((i + j) / 2 + 1) j (by omega) (by omega) hj (fun a ha => by
          rcases Nat.lt_or_ge a ((i + j) / 2) with h | h
          · have := sorted_lt hs h (by omega); omega
          · have : a = (i + j) / 2 := by omega
            subst this; exact hc) h2
        refine ⟨m + 1, ?_⟩
        rw [rounds_succ']
        refine (bs_rd _ _ _ _ _ _).trans ?_
        rw [cond_pos (by omega), e1, e2, e3, e4, cond_pos2 (by omega) (by omega), Int.toNat_natCast, cmp_lt, cond_pos (show (xs.getD ((i + j) / 2) rowT.zero).1 < p from hc), e5]
        exact hm
      · obtain ⟨m, hm⟩ := ih i ((i + j) / 2) (by omega) (by omega) (by omega) h1 (fun a ha hx => by
          rcases Nat.lt_or_ge ((i + j) / 2) a with h | h
          · have := sorted_lt hs h hx; omega
          · have : a = (i + j) / 2 := by omega
            subst this; omega)
        refine ⟨m + 1, ?_⟩
        rw [rounds_succ']
        refine (bs_rd _ _ _ _ _ _).trans ?_
        rw [cond_pos (by omega), e1, e2, e3, e4, cond_pos2 (by omega) (by omega), Int.toNat_natCast, cmp_lt, cond_neg (show ¬ (xs.getD ((i + j) / 2) rowT.zero).1 < p from hc)]
        exact hm
    · obtain ⟨m, hm⟩ := ih i j (by omega) hij hj h1 h2
      exact ⟨m, hm⟩
abbrev bsLC : LoopC := LoopC.of ⟨[(0, .lit (.hw 0)), (1, .int .i64), (2, .fn I.dedup_Table_find_1 []), (8, .int .i64), (9, .int .i64), (10, .int .i64)], [.arr 3 rowT []]⟩
    (fun x => decide (x.1.2.2.2.1 = (List.length x.2.1.1 : Int)) && decide (x.1.2.2.2.2.1 = 0) && decide (x.1.2.2.2.2.2.1 = (List.length x.2.1.1 : Int)) && sortedL x.2.1.1 && decide (List.length x.2.1.1 ≤ 1000000))
    fun x => [(true, .exit 0, bsSt x.2.1.1 x.1.2.1 (posL x.2.1.1 x.1.2.1) (posL x.2.1.1 x.1.2.1))]
theorem bs_lok : LoopOK P0 H.slices_BinarySearchFunc_dedup_Row_dedup_Row_int 1 L.slices_BinarySearchFunc_dedup_Row_dedup_Row_int_3 bsLC :=
  loop_ok_of (env_ok consA4_ok) glob0 mixed0 noLoops V.slices_BinarySearchFunc_dedup_Row_dedup_Row_int_3 (by decide) fun ⟨⟨_, p, _, n, i, j, _⟩, ⟨xs, _⟩, _⟩ h hw => by
    simp only [Bool.and_eq_true, decide_eq_true_eq] at h
    obtain ⟨⟨⟨⟨rfl, rfl⟩, rfl⟩, h4⟩, h5⟩ := h
    exact bs_rounds xs p h4 h5 _ (List.length xs) 0 (List.length xs) (by omega) (by omega) (Nat.le_refl _) (fun a ha => absurd ha (Nat.not_lt_zero _)) (fun a h1 h2 => absurd h2 (Nat.not_lt.2 h1))
theorem bs_ev (xs : List Row3) (p : Int) : evFn (env consA4) H.slices_BinarySearchFunc_dedup_Row_dedup_Row_int (LPof [(3, bsLC)]) F.slices_BinarySearchFunc_dedup_Row_dedup_Row_int [.hw 0, .int .i64 p, .fn (.func I.dedup_Table_find_1) [] []] [.arr 3 rowT xs []] (finV (.tup [.int .i64, .bool]) [.arr 3 rowT []] 1) = bif decide ((↑xs.length : Int) = (↑xs.length : Int)) && true && decide ((↑xs.length : Int) = (↑xs.length : Int)) && sortedL xs && decide (xs.length ≤ 1000000) && true then bif decide ((↑(posL xs p) : Int) < (↑xs.length : Int)) then bif decide ((0 : Int) ≤ (↑(posL xs p) : Int)) && decide ((↑(posL xs p) : Int) < (↑xs.length : Int)) then some (((↑(posL xs p) : Int), cmpI (xs.getD (posL xs p) rowT.zero).fst p == (0 : Int), ()), (xs, ()), ()) else none else some (((↑(posL xs p) : Int), false, ()), (xs, ()), ()) else none := by kernel_rfl

def caseBs : VCase := ⟨[.lit (.hw 0), .int .i64, .fn I.dedup_Table_find_1 []], [.arr 3 rowT []], .tup [.int .i64, .bool], [.arr 3 rowT []], fun ⟨_, p, _, ()⟩ ⟨⟨xs, ()⟩, ()⟩ => [(sortedL xs && decide (List.length xs ≤ 1000000), ((((posL xs p : Nat) : Int), hasL xs p, ()), ((xs, ()), ())))]⟩
theorem bs_val (xs : List Row3) (p : Int) (hc : (sortedL xs && decide (List.length xs ≤ 1000000)) = true) : evFn (env consA4) H.slices_BinarySearchFunc_dedup_Row_dedup_Row_int (LPof [(3, bsLC)]) F.slices_BinarySearchFunc_dedup_Row_dedup_Row_int [.hw 0, .int .i64 p, .fn (.func I.dedup_Table_find_1) [] []] [.arr 3 rowT xs []] (finV (.tup [.int .i64, .bool]) [.arr 3 rowT []] 1) = some ((((posL xs p : Nat) : Int), hasL xs p, ()), ((xs, ()), ())) := by
  simp only [Bool.and_eq_true, decide_eq_true_eq] at hc
  rw [bs_ev, hc.1, decide_eq_true hc.2, decide_eq_true rfl]
  simp only [Bool.and_self, cond_true]
  unfold hasL
  by_cases h : posL xs p < xs.length
  · rw [cond_pos (by omega), cond_pos2 (by omega) (by omega), decide_eq_true h, cmp_eq, Bool.true_and]
    rfl
  · rw [cond_neg (by omega), decide_eq_false h, Bool.false_and]
theorem bs_ok : caseBs.e.ok P0 I.slices_BinarySearchFunc_dedup_Row_dedup_Row_int := vcase_ok (c := caseBs) (H := H.slices_BinarySearchFunc_dedup_Row_dedup_Row_int) (E := env consA4) (env_ok consA4_ok) glob0 mixed0 G.slices_BinarySearchFunc_dedup_Row_dedup_Row_int Bd.slices_BinarySearchFunc_dedup_Row_dedup_Row_int (by kernel_rfl) (loops_good (tab := [(3, bsLC)]) (by kernel_rfl) (fun x hx => by simp at hx; subst hx; exact bs_lok)) fun ⟨_, p, _, ()⟩ ⟨⟨xs, ()⟩, ()⟩ r h hw1 hw2 => by
  obtain ⟨hc, rfl⟩ := pick_pre h
  exact bs_val xs p hc
theorem bs0_ev (p : Int) : evFn (env consA4) H.slices_BinarySearchFunc_dedup_Row_dedup_Row_int (loopsF (env consA4) H.slices_BinarySearchFunc_dedup_Row_dedup_Row_int 0 B.slices_BinarySearchFunc_dedup_Row_dedup_Row_int 3) F.slices_BinarySearchFunc_dedup_Row_dedup_Row_int [.nils, .int .i64 p, .fn (.func I.dedup_Table_find_1) [] []] [] (finV (.tup [.int .i64, .bool]) [] 0) = some (((0 : Int), false, ()), ()) := by kernel_rfl

theorem ins0_ev (r : Row3) : evFn (env consA3) H.ins2 (LPof []) F.slices_Insert_dedup_Row_dedup_Row [.nils, .int .i64 0, .hw 0] [insObj r] (finV (.lit (.hw 1)) [.box 3 [[.int .i64, .int .i64, .int .i64]], .arr 3 rowT []] 1) = some ((), ((r.fst, r.snd.fst, r.snd.snd, ()), ()), ([r], ()), ()) := by kernel_rfl

def caseBs0 : VCase := ⟨[.lit .nils, .int .i64, .fn I.dedup_Table_find_1 []], [], .tup [.int .i64, .bool], [], fun ⟨_, p, _, ()⟩ () => [(true, (((0 : Int), false, ()), ()))]⟩
theorem bs0_val (p : Int) : evFn (env consA4) H.slices_BinarySearchFunc_dedup_Row_dedup_Row_int (loopsF (env consA4) H.slices_BinarySearchFunc_dedup_Row_dedup_Row_int 0 B.slices_BinarySearchFunc_dedup_Row_dedup_Row_int 3) F.slices_BinarySearchFunc_dedup_Row_dedup_Row_int [.nils, .int .i64 p, .fn (.func I.dedup_Table_find_1) [] []] [] (finV (.tup [.int .i64, .bool]) [] 0) = some (((0 : Int), false, ()), ()) := by
  exact bs0_ev p
theorem bs0_ok : caseBs0.e.ok P0 I.slices_BinarySearchFunc_dedup_Row_dedup_Row_int := vcase_ok (c := caseBs0) (H := H.slices_BinarySearchFunc_dedup_Row_dedup_Row_int) (E := env consA4) (env_ok consA4_ok) glob0 mixed0 G.slices_BinarySearchFunc_dedup_Row_dedup_Row_int Bd.slices_BinarySearchFunc_dedup_Row_dedup_Row_int (by kernel_rfl) (loopsF_good (env_ok consA4_ok) glob0 mixed0 (by kernel_rfl) 3) fun ⟨_, p, _, ()⟩ () r h hw1 hw2 => by
  obtain ⟨hc, rfl⟩ := pick_pre h
  exact bs0_val p
def caseIns0 : VCase := ⟨[.lit .nils, .lit (.int .i64 0), .lit (.hw 0)], [.box 3 [[.int .i64, .int .i64, .int .i64]]], .lit (.hw 1), [.box 3 [[.int .i64, .int .i64, .int .i64]], .arr 3 rowT []],
  fun _ ⟨⟨⟨a, b, c, _⟩, _⟩, _⟩ => [(true, ((), (((a, b, c, ()), ()), ([(a, b, c)], ()), ())))]⟩
theorem ins0_ok : caseIns0.e.ok P0 I.slices_Insert_dedup_Row_dedup_Row := vcase_ok (c := caseIns0) (H := H.ins2) (E := env consA3) (env_ok consA3_ok) glob0 mixed0 G.slices_Insert_dedup_Row_dedup_Row Bd.slices_Insert_dedup_Row_dedup_Row (by kernel_rfl) noLoops fun _ ⟨⟨⟨a, b, c, _⟩, _⟩, _⟩ r h hw1 hw2 => by
  obtain ⟨hc, rfl⟩ := pick_pre h
  exact ins0_ev (a, b, c)
noncomputable abbrev consB1 : List (FuncId × Con) := [(I.slices_BinarySearchFunc_dedup_Row_dedup_Row_int, .eff (effOf [caseBs.e, caseBs0.e])), (I.slices_Insert_dedup_Row_dedup_Row, .eff (effOf [caseIns.e, caseIns0.e]))]
theorem consB1_ok : ∀ x ∈ consB1, HoldsC P0 x.1 x.2 := by
  intro x hx
  simp at hx
  rcases hx with rfl | rfl
  · exact ⟨fun args objs r objs2 h _ => effOf_holds (by simp; exact ⟨bs_ok, bs0_ok⟩) args objs r objs2 h, C.slices_BinarySearchFunc_dedup_Row_dedup_Row_int⟩
  · exact ⟨fun args objs r objs2 h _ => effOf_holds (by simp; exact ⟨ins_ok, ins0_ok⟩) args objs r objs2 h, C.slices_Insert_dedup_Row_dedup_Row⟩
noncomputable abbrev consB2 : List (FuncId × Con) := [(I.dedup_Table_find, inl (env consB1) H.dedup_Table_find F.dedup_Table_find (fun R k0 => loopsF (env consB1) H.dedup_Table_find k0 B.dedup_Table_find 1))] ++ consB1
theorem consB2_ok : ∀ x ∈ consB2, HoldsC P0 x.1 x.2 := by
  intro x hx
  rcases List.mem_append.1 hx with hx | hx
  · simp at hx
    subst hx
    exact inl_ok (env_ok consB1_ok) glob0 mixed0 G.dedup_Table_find Bd.dedup_Table_find C.dedup_Table_find (fun R k0 => loopsF_good (env_ok consB1_ok) glob0 mixed0 (by kernel_rfl) 1)
  · exact consB1_ok x hx
end Go.Sim.XD
namespace Go.Sim.XD
set_option linter.unusedSimpArgs false
set_option linter.unusedVariables false
set_option maxRecDepth 10000
def H.set2 : Hint := { H.dedup_Table_Set with vs := [] }
theorem ask_ev (xs : List Row3) (p s : Int) : evFn (env consB2) H.dedup_Table_Ask (LPof []) F.dedup_Table_Ask [.ptr 0 (.tl 0) 0, .int .i64 p, .int .i64 s] [.arr 1 .bool [] [[.hw 1]], .arr 3 rowT xs []] (finV (.tup [.int .i64, .int .i64]) [.box 1 [[.lit (.hw 1)]], .arr 3 rowT []] 2) = bif sortedL xs && decide (xs.length ≤ 1000000) then Option.bind (bif !hasL xs p then some (s == (0 : Int)) else some false) fun v => bif v then some (((0 : Int), (0 : Int), ()), (((), ()), ()), (xs, ()), ()) else bif !hasL xs p then some (((2 : Int), (0 : Int), ()), (((), ()), ()), (xs, ()), ()) else bif decide ((0 : Int) ≤ (↑(posL xs p) : Int)) && decide ((↑(posL xs p) : Int) < (↑xs.length : Int)) then bif (xs.getD (posL xs p) rowT.zero).snd.fst == s then bif decide ((0 : Int) ≤ (↑(posL xs p) : Int)) && decide ((↑(posL xs p) : Int) < (↑xs.length : Int)) then some (((1 : Int), (xs.getD (posL xs p) rowT.zero).snd.snd, ()), (((), ()), ()), (xs, ()), ()) else none else Option.bind (bif decide ((0 : Int) ≤ (↑(posL xs p) : Int)) && decide ((↑(posL xs p) : Int) < (↑xs.length : Int)) then bif decide ((xs.getD (posL xs p) rowT.zero).snd.fst < s) then bif decide ((0 : Int) ≤ (↑(posL xs p) : Int)) && decide ((↑(posL xs p) : Int) < (↑xs.length : Int)) then some (IntKind.i64.wrap ((xs.getD (posL xs p) rowT.zero).snd.fst + (1 : Int)) == s) else none else some false else none) fun v => bif v then some (((0 : Int), (0 : Int), ()), (((), ()), ()), (xs, ()), ()) else some (((2 : Int), (0 : Int), ()), (((), ()), ()), (xs, ()), ()) else none else none := by kernel_rfl

theorem ask0_ev (p s : Int) : evFn (env consB2) H.dedup_Table_Ask (LPof []) F.dedup_Table_Ask [.ptr 0 (.tl 0) 0, .int .i64 p, .int .i64 s] [.arr 1 .bool [] [[.nils]]] (finV (.tup [.int .i64, .int .i64]) [.box 1 [[.lit .nils]]] 1) = bif s == (0 : Int) then some (((0 : Int), (0 : Int), ()), (((), ()), ()), ()) else some (((2 : Int), (0 : Int), ()), (((), ()), ()), ()) := by kernel_rfl

theorem seto_ev (xs : List Row3) (p s o : Int) : evFn (env consB2) H.set2 (LPof []) F.dedup_Table_Set [.ptr 0 (.tl 0) 0, .int .i64 p, .int .i64 s, .int .i64 o] [.arr 1 .bool [] [[.hw 1]], .arr 3 rowT xs []] (finV (.int .i64) [.box 1 [[.lit (.hw 1)]], .arr 3 rowT []] 2) = bif sortedL xs && decide (xs.length ≤ 1000000) then bif hasL xs p then bif decide ((0 : Int) ≤ (↑(posL xs p) : Int)) && decide ((↑(posL xs p) : Int) < (↑xs.length : Int)) then some ((0 : Int), (((), ()), ()), (xs.set (posL xs p) (p, s, o), ()), ()) else none else bif decide ((↑xs.length : Int) ≥ (100 : Int)) then some ((7 : Int), (((), ()), ()), (xs, ()), ()) else bif decide ((0 : (Pat.int IntKind.i64).den) ≤ (↑(posL xs p) : Int)) && decide ((↑(posL xs p) : Int) ≤ (↑xs.length : Int)) && decide (xs.length ≤ 1000000) then none else none else none := by kernel_rfl

theorem setn_ev (xs : List Row3) (p s o : Int) : evFn (env consB2) H.set2 (LPof []) F.dedup_Table_Set [.ptr 0 (.tl 0) 0, .int .i64 p, .int .i64 s, .int .i64 o] [.arr 1 .bool [] [[.hw 1]], .arr 3 rowT xs []] (finV (.int .i64) [.box 1 [[.lit (.hw 2)]], .dead, .arr 3 rowT []] 2) = bif sortedL xs && decide (xs.length ≤ 1000000) then bif hasL xs p then bif decide ((0 : Int) ≤ (↑(posL xs p) : Int)) && decide ((↑(posL xs p) : Int) < (↑xs.length : Int)) then none else none else bif decide ((↑xs.length : Int) ≥ (100 : Int)) then none else bif decide ((0 : (Pat.int IntKind.i64).den) ≤ (↑(posL xs p) : Int)) && decide ((↑(posL xs p) : Int) ≤ (↑xs.length : Int)) && decide (xs.length ≤ 1000000) then some ((0 : Int), (((), ()), ()), (), (putAt xs (posL xs p) (posL xs p) (p, s, o), ()), ()) else none else none := by kernel_rfl

theorem set0_ev (p s o : Int) : evFn (env consB2) H.set2 (LPof []) F.dedup_Table_Set [.ptr 0 (.tl 0) 0, .int .i64 p, .int .i64 s, .int .i64 o] [.arr 1 .bool [] [[.nils]]] (finV (.int .i64) [.box 1 [[.lit (.hw 1)]], .arr 3 rowT []] 1) = some ((0 : Int), (((), ()), ()), ([(p, s, o)], ()), ()) := by kernel_rfl

theorem wrap_next {a b : Int} (ha : In .i64 a) (h : a < b) (hb : In .i64 b) : (IntKind.i64.wrap (a + 1) == b) = (a == b - 1) := by
  have h1 := In.i64.1 ha
  have h2 := In.i64.1 hb
  rw [wrap64 (by omega) (by omega)]
  apply Bool.eq_iff_iff.2
  simp only [beq_iff_eq]
  omega
theorem at_in {xs : List Row3} (h : ∀ r ∈ xs, wfT rowT r) {i : Nat} (hi : i < xs.length) : wfT rowT (xs.getD i rowT.zero) := by
  rw [List.getD_eq_getElem?_getD, List.getElem?_eq_getElem hi]
  exact h _ (List.getElem_mem hi)
theorem has_lt {xs : List Row3} {p : Int} (h : hasL xs p = true) : posL xs p < xs.length := by
  unfold hasL at h
  simp only [Bool.and_eq_true, decide_eq_true_eq] at h
  exact h.1
theorem set_putAt (xs : List Row3) (k : Nat) (r : Row3) (h : k < xs.length) : xs.set k r = putAt xs k (k + 1) r := by
  unfold putAt
  rw [List.set_eq_take_append_cons_drop, if_pos h]
def caseAsk : VCase := ⟨[.lit (.ptr 0 (.tl 0) 0), .int .i64, .int .i64], [.box 1 [[.lit (.hw 1)]], .arr 3 rowT []], .tup [.int .i64, .int .i64], [.box 1 [[.lit (.hw 1)]], .arr 3 rowT []], fun ⟨_, p, s, ()⟩ ⟨_, ⟨xs, ()⟩, ()⟩ => [(sortedL xs && decide (List.length xs ≤ 1000000), (((askL xs p s).1, (askL xs p s).2, ()), ((((), ()), ()), (xs, ()), ())))]⟩
theorem ask_val (xs : List Row3) (p s : Int) (hc : (sortedL xs && decide (List.length xs ≤ 1000000)) = true) (hs : In .i64 s) (hx : ∀ r ∈ xs, wfT rowT r) : evFn (env consB2) H.dedup_Table_Ask (LPof []) F.dedup_Table_Ask [.ptr 0 (.tl 0) 0, .int .i64 p, .int .i64 s] [.arr 1 .bool [] [[.hw 1]], .arr 3 rowT xs []] (finV (.tup [.int .i64, .int .i64]) [.box 1 [[.lit (.hw 1)]], .arr 3 rowT []] 2) = some (((askL xs p s).1, (askL xs p s).2, ()), ((((), ()), ()), (xs, ()), ())) := by
  rw [ask_ev, hc, cond_true]
  unfold askL
  cases hh : hasL xs p with
  | false => cases s == 0 <;> rfl
  | true =>
    have hk := has_lt hh
    have hi := at_in hx hk
    simp only [Bool.not_true, cond_false, cond_true, Option.bind_some]
    rw [cond_pos2 (by omega) (by omega)]
    by_cases h1 : (xs.getD (posL xs p) rowT.zero).2.1 = s
    · have e1 : ((xs.getD (posL xs p) rowT.zero).2.1 == s) = true := by simpa using h1
      have e2 : ((atL xs (posL xs p)).2.1 == s) = true := e1
      rw [e1, e2, cond_true, cond_pos2 (by omega) (by omega)]
      rfl
    · have e1 : ((xs.getD (posL xs p) rowT.zero).2.1 == s) = false := by simpa using h1
      have e2 : ((atL xs (posL xs p)).2.1 == s) = false := e1
      rw [e1, e2, cond_false, cond_false, cond_pos2 (by omega) (by omega)]
      by_cases h2 : (xs.getD (posL xs p) rowT.zero).2.1 < s
      · have h2' : (atL xs (posL xs p)).2.1 < s := h2
        rw [cond_pos h2, cond_pos2 (by omega) (by omega), wrap_next hi.2.1 h2 hs, Option.bind_some, decide_eq_true h2', Bool.true_and]
        show (bif (atL xs (posL xs p)).2.1 == s - 1 then _ else _) = _
        cases (atL xs (posL xs p)).2.1 == s - 1 <;> rfl
      · have h2' : ¬ (atL xs (posL xs p)).2.1 < s := h2
        rw [cond_neg h2, decide_eq_false h2']
        rfl
theorem ask_ok : caseAsk.e.ok P0 I.dedup_Table_Ask := vcase_ok (c := caseAsk) (H := H.dedup_Table_Ask) (E := env consB2) (env_ok consB2_ok) glob0 mixed0 G.dedup_Table_Ask Bd.dedup_Table_Ask (by kernel_rfl) noLoops fun ⟨_, p, s, ()⟩ ⟨_, ⟨xs, ()⟩, ()⟩ r h hw1 hw2 => by
  obtain ⟨hc, rfl⟩ := pick_pre h
  exact ask_val xs p s hc hw1.2.2.1 hw2.2.1.1.2
def caseAsk0 : VCase := ⟨[.lit (.ptr 0 (.tl 0) 0), .int .i64, .int .i64], [.box 1 [[.lit .nils]]], .tup [.int .i64, .int .i64], [.box 1 [[.lit .nils]]], fun ⟨_, p, s, ()⟩ _ => [(true, (((askL [] p s).1, (askL [] p s).2, ()), ((((), ()), ()), ())))]⟩
theorem ask0_val (p s : Int) : evFn (env consB2) H.dedup_Table_Ask (LPof []) F.dedup_Table_Ask [.ptr 0 (.tl 0) 0, .int .i64 p, .int .i64 s] [.arr 1 .bool [] [[.nils]]] (finV (.tup [.int .i64, .int .i64]) [.box 1 [[.lit .nils]]] 1) = some (((askL [] p s).1, (askL [] p s).2, ()), ((((), ()), ()), ())) := by
  rw [ask0_ev]
  have : askL [] p s = bif s == 0 then (0, 0) else (2, 0) := rfl
  rw [this]
  cases s == 0 <;> rfl
theorem ask0_ok : caseAsk0.e.ok P0 I.dedup_Table_Ask := vcase_ok (c := caseAsk0) (H := H.dedup_Table_Ask) (E := env consB2) (env_ok consB2_ok) glob0 mixed0 G.dedup_Table_Ask Bd.dedup_Table_Ask (by kernel_rfl) noLoops fun ⟨_, p, s, ()⟩ _ r h hw1 hw2 => by
  obtain ⟨hc, rfl⟩ := pick_pre h
  exact ask0_val p s
def caseSetO : VCase := ⟨[.lit (.ptr 0 (.tl 0) 0), .int .i64, .int .i64, .int .i64], [.box 1 [[.lit (.hw 1)]], .arr 3 rowT []], .int .i64, [.box 1 [[.lit (.hw 1)]], .arr 3 rowT []], fun ⟨_, p, s, o, _⟩ ⟨_, ⟨xs, _⟩, _⟩ =>
  [(sortedL xs && decide (List.length xs ≤ 1000000) && (hasL xs p || decide ((List.length xs : Int) ≥ 100)), ((setL xs (p, s, o)).2, ((((), ()), ()), ((setL xs (p, s, o)).1, ()), ())))]⟩
theorem seto_ok : caseSetO.e.ok P0 I.dedup_Table_Set := vcase_ok (c := caseSetO) (H := H.set2) (E := env consB2) (env_ok consB2_ok) glob0 mixed0 G.dedup_Table_Set Bd.dedup_Table_Set (by kernel_rfl) noLoops fun ⟨_, p, s, o, _⟩ ⟨_, ⟨xs, _⟩, _⟩ r h hw1 hw2 => by
  obtain ⟨hc, rfl⟩ := pick_pre h
  refine (seto_ev xs p s o).trans ?_
  cases h1 : sortedL xs && decide (List.length xs ≤ 1000000) with
  | false => rw [h1] at hc; cases hc
  | true =>
    rw [h1, Bool.true_and] at hc
    unfold setL
    simp only [cond_true]
    cases hh : hasL xs p with
    | true =>
      have hk := has_lt hh
      rw [cond_true, cond_true, cond_pos2 (by omega) (Int.ofNat_lt.2 hk), set_putAt xs _ _ hk]
      rfl
    | false =>
      rw [hh, Bool.false_or] at hc
      rw [cond_false, cond_false, hc]
      rfl
def caseSetN : VCase := ⟨[.lit (.ptr 0 (.tl 0) 0), .int .i64, .int .i64, .int .i64], [.box 1 [[.lit (.hw 1)]], .arr 3 rowT []], .int .i64, [.box 1 [[.lit (.hw 2)]], .dead, .arr 3 rowT []], fun ⟨_, p, s, o, _⟩ ⟨_, ⟨xs, _⟩, _⟩ =>
  [(sortedL xs && decide (List.length xs ≤ 1000000) && !(hasL xs p || decide ((List.length xs : Int) ≥ 100)), ((setL xs (p, s, o)).2, ((((), ()), ()), (), ((setL xs (p, s, o)).1, ()), ())))]⟩
theorem setn_ok : caseSetN.e.ok P0 I.dedup_Table_Set := vcase_ok (c := caseSetN) (H := H.set2) (E := env consB2) (env_ok consB2_ok) glob0 mixed0 G.dedup_Table_Set Bd.dedup_Table_Set (by kernel_rfl) noLoops fun ⟨_, p, s, o, _⟩ ⟨_, ⟨xs, _⟩, _⟩ r h hw1 hw2 => by
  obtain ⟨hc, rfl⟩ := pick_pre h
  refine (setn_ev xs p s o).trans ?_
  cases h1 : sortedL xs && decide (List.length xs ≤ 1000000) with
  | false => rw [h1] at hc; cases hc
  | true =>
    rw [h1, Bool.true_and] at hc
    have h2 : decide (List.length xs ≤ 1000000) = true := (Bool.and_eq_true_iff.1 h1).2
    unfold setL
    simp only [cond_true]
    cases hh : hasL xs p with
    | true => rw [hh, Bool.true_or] at hc; cases hc
    | false =>
      rw [hh, Bool.false_or] at hc
      have hc : decide ((List.length xs : Int) ≥ 100) = false := by simpa using hc
      have hp := pos_le xs p
      rw [cond_false, cond_false, hc, cond_false, h2, Bool.and_true]
      rw [cond_pos2 (Int.natCast_nonneg _) (Int.ofNat_le.2 hp)]
      rfl
def caseSet0 : VCase := ⟨[.lit (.ptr 0 (.tl 0) 0), .int .i64, .int .i64, .int .i64], [.box 1 [[.lit .nils]]], .int .i64, [.box 1 [[.lit (.hw 1)]], .arr 3 rowT []], fun ⟨_, p, s, o, _⟩ _ => [(true, ((0 : Int), ((((), ()), ()), ([(p, s, o)], ()), ())))]⟩
theorem set0_ok : caseSet0.e.ok P0 I.dedup_Table_Set := vcase_ok (c := caseSet0) (H := H.set2) (E := env consB2) (env_ok consB2_ok) glob0 mixed0 G.dedup_Table_Set Bd.dedup_Table_Set (by kernel_rfl) noLoops fun ⟨_, p, s, o, _⟩ _ r h hw1 hw2 => by
  obtain ⟨hc, rfl⟩ := pick_pre h
  exact set0_ev p s o
theorem pick_or {α : Type} {v : α} : ∀ {a b : List (Bool × α)}, pick (a ++ b) = some v → pick a = some v ∨ pick b = some v
  | [], _, h => .inr h
  | (true, u) :: _, _, h => .inl h
  | (false, u) :: a, b, h => pick_or (a := a) h
def caseSetE : ECase := ⟨caseSetO.ins, caseSetO.objs, fun x y => caseSetO.e.f x y ++ caseSetN.e.f x y⟩
theorem set_ok : caseSetE.ok P0 I.dedup_Table_Set := fun x y r objs' h hw1 hw2 => by
  rcases pick_or h with h | h
  · exact seto_ok x y r objs' h hw1 hw2
  · exact setn_ok x y r objs' h hw1 hw2
noncomputable abbrev consB3 : List (FuncId × Con) := [(I.dedup_Table_Ask, .eff (effOf [caseAsk.e, caseAsk0.e])), (I.dedup_Table_Set, .eff (effOf [caseSetE, caseSet0.e]))]
theorem consB3_ok : ∀ x ∈ consB3, HoldsC P0 x.1 x.2 := by
  intro x hx
  simp at hx
  rcases hx with rfl | rfl
  · exact ⟨fun args objs r objs2 h _ => effOf_holds (by simp; exact ⟨ask_ok, ask0_ok⟩) args objs r objs2 h, C.dedup_Table_Ask⟩
  · exact ⟨fun args objs r objs2 h _ => effOf_holds (by simp; exact ⟨set_ok, set0_ok⟩) args objs r objs2 h, C.dedup_Table_Set⟩
end Go.Sim.XD
namespace Go.Sim
set_option linter.unusedSimpArgs false
set_option linter.unusedVariables false
set_option maxRecDepth 10000
open Go.Sim.XU
theorem num16_ev (n : Int) : evFn (env []) H.cooperagelaw16_num (LPof []) F.cooperagelaw16_num [.int .i64 n] [] (finT [.int .i64]) = some (n, ()) := by kernel_rfl

def caseNum16 : PCase := ⟨[.ty (.int .i64)], [.int .i64], fun x => (fun (n : Int) => [(true, (n, ()))]) x.1⟩
theorem num16_val (n : Int) : evFn (env []) H.cooperagelaw16_num (LPof []) F.cooperagelaw16_num [.int .i64 n] [] (finT [.int .i64]) = some (n, ()) := by
  rw [num16_ev]
theorem num16_ok : caseNum16.ok P0 I.cooperagelaw16_num := case_ok2 (H := H.cooperagelaw16_num) (E := env []) (env_ok env_nil) glob0 mixed0 G.cooperagelaw16_num Bd.cooperagelaw16_num (by kernel_rfl) noLoops fun ⟨n, ()⟩ y h hw => by
  obtain ⟨hc, rfl⟩ := pick_pre h
  exact num16_val n
noncomputable abbrev consQ1 : List (FuncId × Con) := [(I.state_failed, inl (env []) H.state_failed F.state_failed (fun R k0 => loopsF (env []) H.state_failed k0 B.state_failed 1)), (I.dedup_Table_Ask, .eff (effOf [XD.caseAsk.e, XD.caseAsk0.e])), (I.dedup_Table_Set, .eff (effOf [XD.caseSetE, XD.caseSet0.e])), (I.segs_Log_Append, .eff (effOf [XU.caseAppend.e])), (I.segs_Log_High, .eff (effOf [XU.caseHigh.e])), (I.segs_Log_Low, .eff (effOf [XU.caseLow.e])), (I.segs_New, .eff (effOf [XU.caseNew.e]))]
theorem consQ1_ok : ∀ x ∈ consQ1, HoldsC P0 x.1 x.2 := by
  intro x hx
  simp at hx
  rcases hx with rfl | rfl | rfl | rfl | rfl | rfl | rfl
  · exact inl_ok (env_ok env_nil) glob0 mixed0 G.state_failed Bd.state_failed C.state_failed (fun R k0 => loopsF_good (env_ok env_nil) glob0 mixed0 (by kernel_rfl) 1)
  · exact ⟨fun args objs r objs2 h _ => effOf_holds (by simp; exact ⟨XD.ask_ok, XD.ask0_ok⟩) args objs r objs2 h, C.dedup_Table_Ask⟩
  · exact ⟨fun args objs r objs2 h _ => effOf_holds (by simp; exact ⟨XD.set_ok, XD.set0_ok⟩) args objs r objs2 h, C.dedup_Table_Set⟩
  · exact ⟨fun args objs r objs2 h _ => effOf_holds (by simp; exact XU.append_ok) args objs r objs2 h, C.segs_Log_Append⟩
  · exact ⟨fun args objs r objs2 h _ => effOf_holds (by simp; exact XU.high_ok) args objs r objs2 h, C.segs_Log_High⟩
  · exact ⟨fun args objs r objs2 h _ => effOf_holds (by simp; exact XU.low_ok) args objs r objs2 h, C.segs_Log_Low⟩
  · exact ⟨fun args objs r objs2 h _ => effOf_holds (by simp; exact XU.new_ok) args objs r objs2 h, C.segs_New⟩
noncomputable abbrev consQ2 : List (FuncId × Con) := [(I.state_typed, inl (env []) H.state_typed F.state_typed (fun R k0 => loopsF (env []) H.state_typed k0 B.state_typed 1)), (I.state_State_produce, inl (env consQ1) H.state_State_produce F.state_State_produce (fun R k0 => loopsF (env consQ1) H.state_State_produce k0 B.state_State_produce 1)), (I.state_State_tidy, inl (env consQ1) H.state_State_tidy F.state_State_tidy (fun R k0 => loopsF (env consQ1) H.state_State_tidy k0 B.state_State_tidy 1)), (I.command_Right, .pure (pureOf [XS.caseCright]))] ++ consQ1
theorem consQ2_ok : ∀ x ∈ consQ2, HoldsC P0 x.1 x.2 := by
  intro x hx
  rcases List.mem_append.1 hx with hx | hx
  · simp at hx
    rcases hx with rfl | rfl | rfl | rfl
    · exact inl_ok (env_ok env_nil) glob0 mixed0 G.state_typed Bd.state_typed C.state_typed (fun R k0 => loopsF_good (env_ok env_nil) glob0 mixed0 (by kernel_rfl) 1)
    · exact inl_ok (env_ok consQ1_ok) glob0 mixed0 G.state_State_produce Bd.state_State_produce C.state_State_produce (fun R k0 => loopsF_good (env_ok consQ1_ok) glob0 mixed0 (by kernel_rfl) 1)
    · exact inl_ok (env_ok consQ1_ok) glob0 mixed0 G.state_State_tidy Bd.state_State_tidy C.state_State_tidy (fun R k0 => loopsF_good (env_ok consQ1_ok) glob0 mixed0 (by kernel_rfl) 1)
    · exact ⟨pureOf_holds (by simp; exact XS.cright_ok), C.command_Right⟩
  · exact consQ1_ok x hx
noncomputable abbrev consQ3 : List (FuncId × Con) := [(I.cooperagelaw16_num, .pure (pureOf [caseNum16])), (I.state_New, inl (env consQ1) H.state_New F.state_New (fun R k0 => loopsF (env consQ1) H.state_New k0 B.state_New 1)), (I.state_State_Apply, inl (env consQ2) H.state_State_Apply F.state_State_Apply (fun R k0 => loopsF (env consQ2) H.state_State_Apply k0 B.state_State_Apply 1))] ++ consQ1
theorem consQ3_ok : ∀ x ∈ consQ3, HoldsC P0 x.1 x.2 := by
  intro x hx
  rcases List.mem_append.1 hx with hx | hx
  · simp at hx
    rcases hx with rfl | rfl | rfl
    · exact ⟨pureOf_holds (by simp; exact num16_ok), C.cooperagelaw16_num⟩
    · exact inl_ok (env_ok consQ1_ok) glob0 mixed0 G.state_New Bd.state_New C.state_New (fun R k0 => loopsF_good (env_ok consQ1_ok) glob0 mixed0 (by kernel_rfl) 1)
    · exact inl_ok (env_ok consQ2_ok) glob0 mixed0 G.state_State_Apply Bd.state_State_Apply C.state_State_Apply (fun R k0 => loopsF_good (env_ok consQ2_ok) glob0 mixed0 (by kernel_rfl) 1)
  · exact consQ1_ok x hx
def H.al16 : Hint := { H.cooperagelaw16_alive with vs := [9], join := [] }
theorem alive16_ev : evFn (env consQ3) H.al16 (LPof []) F.cooperagelaw16_alive [] [] (finT [.bool]) = some (true, ()) := by kernel_rfl

end Go.Sim
namespace Go.Sim
set_option linter.unusedSimpArgs false
set_option linter.unusedVariables false
set_option maxRecDepth 10000
open Go.Sim.XU
abbrev actT (b n z : Int) : List AV := [.int .i64 b, .int .i64 n, .int .i64 0, .int .i64 0, .hw 3, .bool false, .bool false, .bool false, .int .i64 z, .int .u32 0]
abbrev actTP : List Pat := [.int .i64, .int .i64, .lit (.int .i64 0), .lit (.int .i64 0), .lit (.hw 3), .lit (.bool false), .lit (.bool false), .lit (.bool false), .int .i64, .lit (.int .u32 0)]
abbrev boxP : OPat := .box 7 [[.lit (.ptr 1 (.tl 0) 0), .int .i64, .int .i64, .int .i64, .int .i64, .lit (.ptr 4 (.tl 0) 0), .lit (.ptr 5 (.tl 0) 0)]]
abbrev boxO (c1 c2 c3 c4 : Int) : AObj := .arr 7 .bool [] [[.ptr 1 (.tl 0) 0, .int .i64 c1, .int .i64 c2, .int .i64 c3, .int .i64 c4, .ptr 4 (.tl 0) 0, .ptr 5 (.tl 0) 0]]
/-! ### the plain law: from which segment on a time is there -/
def lateR (now : Int) (rs : List Rec) : Bool := rs.any fun r => decide (r.2.1 ≥ now)
def lateG (now : Int) (g : Seg) : Bool := bif g.2.2.2.2.2.1 then decide (g.2.2.1 ≥ now) else lateR now g.2.2.2.2.1
def lateB (now : Int) (L : LogS) : Option Int := ((segsL L).find? (lateG now)).map (·.1)
/-- What holds of the log, and of what the law wants, once i numbers are in. -/
structure InvS (now : Int) (c n i : Nat) (L : LogS) (w : Int) : Prop where
  next : L.2.2.1 = (i : Int)
  base : L.2.1 = ((i / c * c : Nat) : Int)
  bnd : ∀ b, lateB now L = some b → b ≤ L.2.1
  want : w = (lateB now L).getD (n : Int)
  low : lowP L = 0
  ok : okB (4 * i) L = true
theorem first_find (p : Seg → Bool) (l : List Seg) : ∀ (m i : Nat), i + m = l.length → (match firstFrom (fun k => p (l.getD k segTy.zero)) i m with
    | some k => some (l.getD k segTy.zero)
    | none => none) = (l.drop i).find? p
  | 0, i, h => by
    rw [List.drop_of_length_le (by omega)]
    rfl
  | m + 1, i, h => by
    have hi : i < l.length := by omega
    have e : l.drop i = l.getD i segTy.zero :: l.drop (i + 1) := by
      rw [List.drop_eq_getElem_cons hi, List.getD_eq_getElem?_getD, List.getElem?_eq_getElem hi]
      rfl
    have ih := first_find p l m (i + 1) (by omega)
    rw [e, List.find?_cons, firstFrom]
    cases p (l.getD i segTy.zero) with
    | true => rfl
    | false => exact ih
abbrev stAP : List OPat := [boxP, .box 1 [[.lit (.hw 2)]], .arr 10 segT [actTP], .log recT, .box 1 [[.lit .nils]], .box 1 [[.lit .nils]]]
def stAO (c1 c2 c3 c4 : Int) (f : List Seg) (b n z : Int) (rs : List Rec) : List (Nat × AObj) := [(0, boxO c1 c2 c3 c4), (1, .arr 1 .bool [] [[.hw 2]]), (2, .arr 10 segT f [actT b n z]), (3, .log recT rs), (4, .arr 1 .bool [] [[.nils]]), (5, .arr 1 .bool [] [[.nils]])]
end Go.Sim
namespace Go.Sim
set_option linter.unusedSimpArgs false
set_option linter.unusedVariables false
set_option maxRecDepth 10000
open Go.Sim.XU
def caseAlive16 : PCase := ⟨[], [.bool], fun _ => [(true, (true, ()))]⟩
theorem alive16_ok : caseAlive16.ok P0 I.cooperagelaw16_alive := case_ok2 (H := H.al16) (E := env consQ3) (env_ok consQ3_ok) glob0 mixed0 G.cooperagelaw16_alive Bd.cooperagelaw16_alive (by kernel_rfl) noLoops fun x y h hw => by
  obtain ⟨hc, rfl⟩ := pick_pre h
  exact alive16_ev
theorem rightF {t : Int} (h : 1 ≤ t) (h2 : t ≤ 1000) : rightC ((6 : Int), (0 : Int), (0 : Int), [], [], (0 : Int), (0 : Int), (0 : Int), (0 : Int), t, (0 : Int), (0 : Int), (0 : Int)) = true := by
  have e : confB (t, 0, 0, 0) = true := by
    unfold confB withinB
    simp
    omega
  simp [rightC, plainC, e]
end Go.Sim
namespace Go.Sim
set_option linter.unusedSectionVars false
section
variable {P : Program} [Tabs P] {E : Env} {H : Hint} {k0 : Nat} {R : Type}
end
end Go.Sim
namespace Go.Sim
set_option linter.unusedSimpArgs false
set_option linter.unusedVariables false
set_option maxRecDepth 10000
open Go.Sim.XU
end Go.Sim
namespace Go.Sim
set_option linter.unusedSimpArgs false
set_option linter.unusedVariables false
set_option maxRecDepth 10000
open Go.Sim.XU
/-- A batch of a producer. -/
abbrev cmdO (pid sq : Int) (l : List Rec) : Cmd := ((1 : Int), pid, sq, l, [], (0 : Int), (0 : Int), (0 : Int), (0 : Int), (0 : Int), (0 : Int), (0 : Int), (0 : Int))
theorem right_one (pid sq : Int) (l : List Rec) : rightC (cmdO pid sq l) = (withinB pid 0 1099511627776 && (withinB sq 0 1099511627776 && ((decide (pid > 0) || sq == 0) && recsB l))) := by
  unfold rightC
  have : plainC (cmdO pid sq l) = true := by unfold plainC; simp
  rw [this]
  rfl
theorem recs_ok {l : List Rec} (h : recsB l = true) : (1 ≤ l.length ∧ l.length ≤ 50) ∧ ∀ r ∈ l, r.1 = 0 ∧ recR (0, r.2) = true := by
  unfold recsB withinB at h
  simp only [Bool.and_eq_true, decide_eq_true_eq, Bool.not_eq_true', List.any_eq_false] at h
  refine ⟨by omega, fun r hr => ?_⟩
  have := h.2 r hr
  unfold badR1 at this
  simp only [Bool.or_eq_true, not_or, Bool.not_eq_true, bne_eq_false_iff_eq, Bool.not_eq_false'] at this
  obtain ⟨o, t⟩ := r
  simp only at this
  obtain ⟨rfl, h2⟩ := this
  exact ⟨rfl, h2⟩
theorem apR_next {most : Int} {L : LogS} {r : Rec} (h : recR (0, r.2) = true) : (apR most L r).2.2.1 = L.2.2.1 + 1 := by
  unfold apR
  rw [h, cond_true]
  cases decide (L.2.2.1 + 1 - L.2.1 ≥ mxI most) with
  | true => rw [cond_true, sealP_next]; rfl
  | false => rfl
theorem apR_low (most : Int) (L : LogS) (r : Rec) : lowP (apR most L r) = lowP L := by
  unfold apR
  cases recR (0, r.2) with
  | false => rfl
  | true =>
    rw [cond_true]
    cases decide (L.2.2.1 + 1 - L.2.1 ≥ mxI most) with
    | true => rw [cond_true, lowP_seal]; rfl
    | false => rfl
end Go.Sim
namespace Go.Sim
set_option linter.unusedSimpArgs false
set_option linter.unusedVariables false
set_option maxRecDepth 10000
open Go.Sim.XU
def nextG (off : Int) (g : Seg) : Bool := decide (g.2.1 > off)
def fndP (off : Int) (M : LogS) : Seg × Bool := bif decide (off < lowP M) then (segTy.zero, false) else match (segsL M).find? (nextG off) with
  | some g => (g, true)
  | none => (segTy.zero, false)
def segD (g : Seg) : segV.den := (g.1, g.2.1, g.2.2.1, g.2.2.2.1, g.2.2.2.2.1, g.2.2.2.2.2.1, g.2.2.2.2.2.2.1, g.2.2.2.2.2.2.2.1, g.2.2.2.2.2.2.2.2.1, g.2.2.2.2.2.2.2.2.2, ())
theorem id_find (off : Int) (M : LogS) : (match idAt off M with
    | some k => some ((segsL M).getD k segTy.zero)
    | none => none) = (segsL M).find? (nextG off) := by
  have h := first_find (nextG off) (segsL M) _ 0 (Nat.zero_add _)
  rw [segsL_len, List.drop_zero] at h
  exact h
theorem find_val (off : Int) (f : List Seg) (b n z : Int) (rs : List Rec) (h1 : smallL f = true) (h3 : rs.length ≤ 1000000000) : evFn (env consI2) H.segs_Log_Find (LPof []) F.segs_Log_Find [.ptr 0 (.tl 0) 0, .int .i64 off] [.arr 1 .bool [] [[.hw 1]], .arr 10 segT f [actC b n z], .log recT rs] (finV (.tup [segV, .bool]) logP 3) =
    some ((segD (fndP off (f, b, n, z, rs)).1, (fndP off (f, b, n, z, rs)).2, ()), ((((), ()), ()), (f, (b, n, (), (), (), (), (), (), z, (), ()), ()), rs, ())) := by
  have h0 : evFn (env consI2) H.segs_Log_Find (LPof []) F.segs_Log_Find [.ptr 0 (.tl 0) 0, .int .i64 off] [.arr 1 .bool [] [[.hw 1]], .arr 10 segT f [actC b n z], .log recT rs] (finV (.tup [segV, .bool]) logP 3) =
    ev (env consI2) H.segs_Log_Find 3 (LPof []) B.segs_Log_Find (initSt [.ptr 0 (.tl 0) 0, .int .i64 off] [.arr 1 .bool [] [[.hw 1]], .arr 10 segT f [actC b n z], .log recT rs]) fdFin := by
    unfold evFn
    rw [Bd.segs_Log_Find]
    rfl
  unfold smallL at h1
  simp only [Bool.and_eq_true, decide_eq_true_eq] at h1
  have hid := id_find off (f, b, n, z, rs)
  rw [h0, ev_cut (by rfl) 4, find1_ev]
  unfold fndP
  by_cases hlow : off < lowP (f, b, n, z, rs)
  · rw [cond_pos hlow, decide_eq_true hlow, cond_true]
    rfl
  · rw [cond_neg hlow, decide_eq_false hlow, cond_false, cond_pos h1.1, ← hid]
    cases hi : idAt off (f, b, n, z, rs) with
    | none =>
      have hv : idxV off (f, b, n, z, rs) = -1 := by unfold idxV; rw [hold_eq, hi]; rfl
      rw [hv]
      rfl
    | some k =>
      have hv : idxV off (f, b, n, z, rs) = (k : Int) := by unfold idxV; rw [hold_eq, hi]; rfl
      have hk : k < f.length + 1 := by
        have h9 : k < 0 + (f.length + 1) := (firstFrom_spec hi).2.1
        omega
      rw [hv, cond_neg (by omega)]
      have hst : decide (off < lowP (f, b, n, z, rs)) = false := decide_eq_false hlow
      refine Eq.trans (b := ev (env consI2) H.segs_Log_Find 3 (LPof []) (sufC 4 B.segs_Log_Find) (fdS off k f b n z rs) fdFin) ?_ ?_
      · unfold fdS
        rw [hst]
      rw [find2_ev, cond_pos2 (by omega) (by omega), Int.toNat_natCast]
      by_cases h : k < f.length
      · have := small_at h1.2 h
        rw [cond_pos h, cond_pos this]
        have e : (segsL (f, b, n, z, rs)).getD k segTy.zero = f.getD k segTy.zero := segsL_lt (L := (f, b, n, z, rs)) h
        simp only [e]
        rfl
      · obtain rfl : k = f.length := by omega
        rw [cond_neg h, cond_pos (by omega), cond_pos h3]
        have e : (segsL (f, b, n, z, rs)).getD f.length segTy.zero = actS (f, b, n, z, rs) := segsL_last (f, b, n, z, rs)
        simp only [e]
        rfl
def caseFind : VCase := ⟨[.lit (.ptr 0 (.tl 0) 0), .int .i64], logP, .tup [segV, .bool], logP, fun ⟨_, off, _⟩ ⟨_, ⟨f, ⟨b, n, _, _, _, _, _, _, z, _, _⟩, _⟩, rs, _⟩ => [(smallL f && decide (List.length rs ≤ 1000000000), ((segD (fndP off (f, b, n, z, rs)).1, (fndP off (f, b, n, z, rs)).2, ()), ((((), ()), ()), (f, (b, n, (), (), (), (), (), (), z, (), ()), ()), rs, ())))]⟩
theorem find_ok : caseFind.e.ok P0 I.segs_Log_Find := vcase_ok (c := caseFind) (H := H.segs_Log_Find) (E := env consI2) (env_ok consI2_ok) glob0 mixed0 G.segs_Log_Find Bd.segs_Log_Find (by kernel_rfl) noLoops fun ⟨_, off, _⟩ ⟨_, ⟨f, ⟨b, n, _, _, _, _, _, _, z, _, _⟩, _⟩, rs, _⟩ r h hw1 hw2 => by
  obtain ⟨hc, rfl⟩ := pick_pre h
  have hc : (smallL f && decide (List.length rs ≤ 1000000000)) = true := hc
  simp only [Bool.and_eq_true, decide_eq_true_eq] at hc
  exact find_val off f b n z rs hc.1 hc.2
end Go.Sim
namespace Go.Sim
set_option linter.unusedSimpArgs false
set_option linter.unusedVariables false
set_option maxRecDepth 10000
open Go.Sim.XU
def recO (l : List Rec) (j : Nat) : Rec := ((j : Int), (l.getD j recTy.zero).2)
def slO (l : List Rec) (a k : Nat) : List Rec := (List.range k).map fun j => recO l (a + j)
theorem slO_len (l : List Rec) (a k : Nat) : (slO l a k).length = k := by simp [slO]
theorem slO_succ (l : List Rec) (a k : Nat) : slO l a (k + 1) = slO l a k ++ [recO l (a + k)] := by simp [slO, List.range_succ]
theorem slO_at {l : List Rec} {a k j : Nat} (h : j < k) : (slO l a k).getD j recTy.zero = recO l (a + j) := by
  unfold slO
  rw [List.getD_eq_getElem?_getD, List.getElem?_map, List.getElem?_range h]
  rfl
theorem fromI_slO (l : List Rec) (a k d M : Nat) : ∀ i, i ≤ k → fromI ((a + d : Nat) : Int) (M : Int) (slO l a k) i = slO l (a + d) (min M (i - d))
  | 0, _ => by simp [fromI, slO]
  | i + 1, hi => by
    have ih := fromI_slO l a k d M i (by omega)
    have hl := slO_len l (a + d) (min M (i - d))
    unfold fromI
    rw [ih, slO_at (by omega), hl]
    have e : (recO l (a + i)).1 = ((a + i : Nat) : Int) := rfl
    rw [e]
    by_cases h1 : d ≤ i
    · rw [decide_eq_true (show ((a + i : Nat) : Int) ≥ ((a + d : Nat) : Int) by omega), Bool.true_and]
      by_cases h2 : i - d < M
      · rw [decide_eq_true (show ((min M (i - d) : Nat) : Int) < (M : Int) by omega), cond_true, show min M (i + 1 - d) = min M (i - d) + 1 by omega, slO_succ, show a + d + min M (i - d) = a + i by omega]
      · rw [decide_eq_false (show ¬ ((min M (i - d) : Nat) : Int) < (M : Int) by omega), cond_false, show min M (i + 1 - d) = min M (i - d) by omega]
    · rw [decide_eq_false (show ¬ ((a + i : Nat) : Int) ≥ ((a + d : Nat) : Int) by omega), Bool.false_and, cond_false, show min M (i + 1 - d) = min M (i - d) by omega]
theorem fromS_slO (l : List Rec) (a k d M : Nat) : fromS ((a + d : Nat) : Int) (M : Int) (slO l a k) = slO l (a + d) (min M (k - d)) := by
  unfold fromS
  rw [slO_len]
  exact fromI_slO l a k d M k (Nat.le_refl _)
def segOK (l : List Rec) (g : Seg) (a k : Nat) : Prop := g.1 = (a : Int) ∧ g.2.1 = ((a + k : Nat) : Int) ∧ g.2.2.2.2.1 = slO l a k ∧ g.2.2.2.2.2.2.2.1 = false
def chainO (l : List Rec) : Nat → List Seg → Nat → Prop
  | a, [], e => a = e
  | a, g :: r, e => ∃ k, 0 < k ∧ segOK l g a k ∧ chainO l (a + k) r e
theorem chainO_snoc {l : List Rec} {g : Seg} {k : Nat} (hk : 0 < k) : ∀ {f : List Seg} {a e : Nat}, chainO l a f e → segOK l g e k → chainO l a (f ++ [g]) (e + k)
  | [], a, e, h, hg => by
    obtain rfl : a = e := h
    exact ⟨k, hk, hg, rfl⟩
  | x :: f, a, e, h, hg => by
    obtain ⟨j, h1, h2, h3⟩ := h
    exact ⟨j, h1, h2, chainO_snoc hk h3 hg⟩
theorem chainO_le {l : List Rec} : ∀ {f : List Seg} {a e : Nat}, chainO l a f e → a ≤ e
  | [], a, e, h => by
    obtain rfl : a = e := h
    exact Nat.le_refl _
  | x :: f, a, e, h => by
    obtain ⟨j, h1, h2, h3⟩ := h
    have := chainO_le h3
    omega
theorem chainO_find {l : List Rec} {t : Nat} : ∀ {f : List Seg} {a e : Nat}, chainO l a f e → a ≤ t → (t < e → ∃ g b k, f.find? (nextG t) = some g ∧ segOK l g b k ∧ b ≤ t ∧ t < b + k ∧ b + k ≤ e) ∧ (e ≤ t → f.find? (nextG t) = none)
  | [], a, e, h, ha => by
    obtain rfl : a = e := h
    exact ⟨fun h => by omega, fun _ => rfl⟩
  | x :: f, a, e, h, ha => by
    obtain ⟨j, h1, h2, h3⟩ := h
    have hle := chainO_le h3
    have hn : x.2.1 = ((a + j : Nat) : Int) := h2.2.1
    rw [List.find?_cons]
    by_cases hx : t < a + j
    · have : nextG t x = true := decide_eq_true (by rw [hn]; omega)
      rw [this]
      exact ⟨fun _ => ⟨x, a, j, rfl, h2, ha, hx, hle⟩, fun h => by omega⟩
    · have : nextG t x = false := decide_eq_false (by rw [hn]; omega)
      rw [this]
      exact chainO_find h3 (by omega)
/-- What holds of the log once i records are in. -/
structure InvR (l : List Rec) (i : Nat) (M : LogS) : Prop where
  next : M.2.2.1 = (i : Int)
  parts : ∃ e : Nat, M.2.1 = (e : Int) ∧ e ≤ i ∧ M.2.2.2.2 = slO l e (i - e) ∧ chainO l 0 M.1 e
  low : lowP M = 0
  ok : okB (2 * i) M = true
theorem InvR_zero (l : List Rec) : InvR l 0 ([], 0, 0, 0, []) := ⟨rfl, ⟨0, rfl, Nat.le_refl _, rfl, rfl⟩, rfl, rfl⟩
theorem InvR_step {l : List Rec} {i : Nat} {M : LogS} {c : Int} (hi : i < 1000) (hr : recR (0, (l.getD i recTy.zero).2) = true) (h : InvR l i M) : InvR l (i + 1) (apR c M (l.getD i recTy.zero)) := by
  have hok := apR_ok c (l.getD i recTy.zero) h.ok (by omega)
  have hlow := (apR_low c M (l.getD i recTy.zero)).trans h.low
  have hnx := (apR_next (most := c) (L := M) hr).trans (by rw [h.next]; omega : M.2.2.1 + 1 = ((i + 1 : Nat) : Int))
  obtain ⟨f, b, n, z, rs⟩ := M
  have hn : n = (i : Int) := h.next
  subst hn
  obtain ⟨e, h1, h2, h3, h4⟩ := h.parts
  have h1 : b = (e : Int) := h1
  have h3 : rs = slO l e (i - e) := h3
  subst h1 h3
  have e1 : slO l e (i - e) ++ [((i : Int), (l.getD i recTy.zero).2)] = slO l e (i + 1 - e) := by
    rw [show i + 1 - e = i - e + 1 by omega, slO_succ, show e + (i - e) = i by omega]
    rfl
  refine ⟨hnx, ?_, hlow, hok⟩
  unfold apR
  rw [hr, cond_true]
  unfold pushP
  simp only
  rw [e1]
  cases decide ((i : Int) + 1 - (e : Int) ≥ mxI c) with
  | true =>
    rw [cond_true]
    unfold sealP
    have : ((e : Int) == (i : Int) + 1) = false := by simp; omega
    simp only
    rw [this, cond_false]
    refine ⟨i + 1, by show (i : Int) + 1 = _; omega, Nat.le_refl _, by simp [slO], ?_⟩
    have := chainO_snoc (g := ((e : Int), (i : Int) + 1, latS (slO l e (i + 1 - e)), 0, slO l e (i + 1 - e), true, false, false, z + ((bytS [((i : Int), (l.getD i recTy.zero).2)]).length : Nat), 0)) (k := i + 1 - e) (by omega) h4 ⟨rfl, by show (i : Int) + 1 = _; omega, rfl, rfl⟩
    rw [show e + (i + 1 - e) = i + 1 by omega] at this
    exact this
  | false =>
    rw [cond_false]
    exact ⟨e, rfl, by omega, rfl, h4⟩
/-- What Find tells. -/
theorem find_at {l : List Rec} {n t : Nat} {M : LogS} (h : InvR l n M) (ht : t ≤ n) : (t < n → ∃ g b k, fndP t M = (g, true) ∧ segOK l g b k ∧ b ≤ t ∧ t < b + k ∧ b + k ≤ n) ∧ (t = n → fndP t M = (segTy.zero, false)) := by
  obtain ⟨e, h1, h2, h3, h4⟩ := h.parts
  have hc := chainO_find (t := t) h4 (Nat.zero_le _)
  have hnx : (actS M).2.1 = (n : Int) := h.next
  have hlow : decide ((t : Int) < lowP M) = false := decide_eq_false (by rw [h.low]; omega)
  unfold fndP segsL
  rw [hlow, cond_false, List.find?_append, List.find?_cons, List.find?_nil]
  constructor
  · intro hlt
    by_cases hte : t < e
    · obtain ⟨g, b, k, g1, g2, g3, g4, g5⟩ := hc.1 hte
      rw [g1]
      exact ⟨g, b, k, rfl, g2, g3, g4, by omega⟩
    · rw [hc.2 (by omega)]
      have : nextG t (actS M) = true := decide_eq_true (by rw [hnx]; omega)
      rw [this]
      refine ⟨actS M, e, n - e, rfl, ⟨h1, by rw [hnx]; omega, h3, rfl⟩, by omega, by omega, by omega⟩
  · intro heq
    subst heq
    rw [hc.2 (by omega)]
    have : nextG t (actS M) = false := decide_eq_false (by rw [hnx]; omega)
    rw [this]
    rfl
end Go.Sim
namespace Go.Sim
set_option linter.unusedSimpArgs false
set_option linter.unusedVariables false
set_option maxRecDepth 10000
open Go.Sim.XU
noncomputable abbrev consW1 : List (FuncId × Con) := [(I.segs_Log_Find, .eff (effOf [caseFind.e])), (I.segment_From, .pure (pureOf [caseFrom]))] ++ consQ1
theorem consW1_ok : ∀ x ∈ consW1, HoldsC P0 x.1 x.2 := by
  intro x hx
  rcases List.mem_append.1 hx with hx | hx
  · simp at hx
    rcases hx with rfl | rfl
    · exact ⟨fun args objs r objs2 h _ => effOf_holds (by simp; exact find_ok) args objs r objs2 h, C.segs_Log_Find⟩
    · exact ⟨pureOf_holds (by simp; exact from_ok), C.segment_From⟩
  · exact consQ1_ok x hx
def H.out2 : Hint := { H.state_State_out with join := [] }
noncomputable abbrev consW2 : List (FuncId × Con) := [(I.state_State_out, inl (env consW1) H.out2 F.state_State_out (fun R k0 => loopsF (env consW1) H.out2 k0 B.state_State_out 1))] ++ consW1
theorem consW2_ok : ∀ x ∈ consW2, HoldsC P0 x.1 x.2 := by
  intro x hx
  rcases List.mem_append.1 hx with hx | hx
  · simp at hx
    subst hx
    exact inl_ok (env_ok consW1_ok) glob0 mixed0 G.state_State_out Bd.state_State_out C.state_State_out (fun R k0 => loopsF_good (env_ok consW1_ok) glob0 mixed0 (by kernel_rfl) 1)
  · exact consW1_ok x hx
noncomputable abbrev consW3 : List (FuncId × Con) := [(I.state_typed, inl (env []) H.state_typed F.state_typed (fun R k0 => loopsF (env []) H.state_typed k0 B.state_typed 1)), (I.state_State_produce, inl (env consQ1) H.state_State_produce F.state_State_produce (fun R k0 => loopsF (env consQ1) H.state_State_produce k0 B.state_State_produce 1)), (I.state_State_tidy, inl (env consQ1) H.state_State_tidy F.state_State_tidy (fun R k0 => loopsF (env consQ1) H.state_State_tidy k0 B.state_State_tidy 1)), (I.state_State_fetch, inl (env consW2) H.state_State_fetch F.state_State_fetch (fun R k0 => loopsF (env consW2) H.state_State_fetch k0 B.state_State_fetch 1)), (I.command_Right, .pure (pureOf [XS.caseCright]))] ++ consQ1
theorem consW3_ok : ∀ x ∈ consW3, HoldsC P0 x.1 x.2 := by
  intro x hx
  rcases List.mem_append.1 hx with hx | hx
  · simp at hx
    rcases hx with rfl | rfl | rfl | rfl | rfl
    · exact inl_ok (env_ok env_nil) glob0 mixed0 G.state_typed Bd.state_typed C.state_typed (fun R k0 => loopsF_good (env_ok env_nil) glob0 mixed0 (by kernel_rfl) 1)
    · exact inl_ok (env_ok consQ1_ok) glob0 mixed0 G.state_State_produce Bd.state_State_produce C.state_State_produce (fun R k0 => loopsF_good (env_ok consQ1_ok) glob0 mixed0 (by kernel_rfl) 1)
    · exact inl_ok (env_ok consQ1_ok) glob0 mixed0 G.state_State_tidy Bd.state_State_tidy C.state_State_tidy (fun R k0 => loopsF_good (env_ok consQ1_ok) glob0 mixed0 (by kernel_rfl) 1)
    · exact inl_ok (env_ok consW2_ok) glob0 mixed0 G.state_State_fetch Bd.state_State_fetch C.state_State_fetch (fun R k0 => loopsF_good (env_ok consW2_ok) glob0 mixed0 (by kernel_rfl) 1)
    · exact ⟨pureOf_holds (by simp; exact XS.cright_ok), C.command_Right⟩
  · exact consQ1_ok x hx
noncomputable abbrev consW4 : List (FuncId × Con) := [(I.cooperagelaw16_alive, .pure (pureOf [caseAlive16])), (I.cooperagelaw16_num, .pure (pureOf [caseNum16])), (I.state_New, inl (env consQ1) H.state_New F.state_New (fun R k0 => loopsF (env consQ1) H.state_New k0 B.state_New 1)), (I.state_State_Apply, inl (env consW3) H.state_State_Apply F.state_State_Apply (fun R k0 => loopsF (env consW3) H.state_State_Apply k0 B.state_State_Apply 1))] ++ consQ1
theorem consW4_ok : ∀ x ∈ consW4, HoldsC P0 x.1 x.2 := by
  intro x hx
  rcases List.mem_append.1 hx with hx | hx
  · simp at hx
    rcases hx with rfl | rfl | rfl | rfl
    · exact ⟨pureOf_holds (by simp; exact alive16_ok), C.cooperagelaw16_alive⟩
    · exact ⟨pureOf_holds (by simp; exact num16_ok), C.cooperagelaw16_num⟩
    · exact inl_ok (env_ok consQ1_ok) glob0 mixed0 G.state_New Bd.state_New C.state_New (fun R k0 => loopsF_good (env_ok consQ1_ok) glob0 mixed0 (by kernel_rfl) 1)
    · exact inl_ok (env_ok consW3_ok) glob0 mixed0 G.state_State_Apply Bd.state_State_Apply C.state_State_Apply (fun R k0 => loopsF_good (env_ok consW3_ok) glob0 mixed0 (by kernel_rfl) 1)
  · exact consQ1_ok x hx
def H.rea2 : Hint := { H.cooperagelaw16_StateReads with join := [(2, 46), (9, 75)] }
theorem rd7_rd {R : Type} (l : List Rec) (cf mx fr i : Int) (q : Bool) (c1 c2 c3 c4 : Int) (f : List Seg) (b n z : Int) (rs : List Rec) (K : Ex → St → Option R) : roundK (env consW4) H.rea2 0 (LPof []) V.cooperagelaw16_StateReads_7 L.cooperagelaw16_StateReads_7 ⟨[(0, .vl recT l), (2, .int .i64 mx), (3, .int .i64 fr), (8, .bool q), (10, .ptr 0 (.tl 0) 0), (11, .int .i64 i)], stAO c1 c2 c3 c4 f b n z rs, 6⟩ K = bif decide (i < (↑l.length : Int)) then Option.bind (bif decide ((0 : Int) ≤ i) && decide (i < (↑l.length : Int)) then bif decide ((↑(List.length (l.getD i.toNat recTy.zero).snd.snd.snd.fst) : Int) > (300 : Int)) then some true else bif decide ((0 : Int) ≤ i) && decide (i < (↑l.length : Int)) then some (decide ((↑(List.length (l.getD i.toNat recTy.zero).snd.snd.fst) : Int) > (200 : Int))) else none else none) fun v => bif v then K Ex.ret { slots := [(0, AV.vl recTy l), (2, AV.int IntKind.i64 mx), (3, AV.int IntKind.i64 fr), (8, AV.bool true), (10, AV.ptr 0 (Elt.tl 0) 0), (11, AV.int IntKind.i64 i)], objs := [(0, AObj.arr 7 Ty.bool [] [[AV.ptr 1 (Elt.tl 0) 0, AV.int IntKind.i64 c1, AV.int IntKind.i64 c2, AV.int IntKind.i64 c3, AV.int IntKind.i64 c4, AV.ptr 4 (Elt.tl 0) 0, AV.ptr 5 (Elt.tl 0) 0]]), (1, AObj.arr 1 Ty.bool [] [[AV.hw 2]]), (2, AObj.arr 10 segTy f [[AV.int IntKind.i64 b, AV.int IntKind.i64 n, AV.int IntKind.i64 (0 : Int), AV.int IntKind.i64 (0 : Int), AV.hw 3, AV.bool false, AV.bool false, AV.bool false, AV.int IntKind.i64 z, AV.int IntKind.u32 (0 : Int)]]), (3, AObj.log recTy rs), (4, AObj.arr 1 Ty.bool [] [[AV.nils]]), (5, AObj.arr 1 Ty.bool [] [[AV.nils]])], nx := 6 } else bif decide ((0 : Int) ≤ IntKind.i64.wrap (i + (1 : Int))) && decide (IntKind.i64.wrap (i + (1 : Int)) ≤ (↑l.length : Int)) then bif decide ((0 : Int) ≤ i) && decide (i ≤ IntKind.i64.wrap (i + (1 : Int))) then bif !rightC ((1 : Int), (0 : Int), (0 : Int), List.drop i.toNat (List.take (IntKind.i64.wrap (i + (1 : Int))).toNat l), [], (0 : Int), (0 : Int), (0 : Int), (0 : Int), (0 : Int), (0 : Int), (0 : Int), (0 : Int)) then K Ex.ret { slots := [(0, AV.vl recTy l), (2, AV.int IntKind.i64 mx), (3, AV.int IntKind.i64 fr), (8, AV.bool true), (10, AV.ptr 0 (Elt.tl 0) 0), (11, AV.int IntKind.i64 i)], objs := [(0, AObj.arr 7 Ty.bool [] [[AV.ptr 1 (Elt.tl 0) 0, AV.int IntKind.i64 c1, AV.int IntKind.i64 c2, AV.int IntKind.i64 c3, AV.int IntKind.i64 c4, AV.ptr 4 (Elt.tl 0) 0, AV.ptr 5 (Elt.tl 0) 0]]), (1, AObj.arr 1 Ty.bool [] [[AV.hw 2]]), (2, AObj.arr 10 segTy f [[AV.int IntKind.i64 b, AV.int IntKind.i64 n, AV.int IntKind.i64 (0 : Int), AV.int IntKind.i64 (0 : Int), AV.hw 3, AV.bool false, AV.bool false, AV.bool false, AV.int IntKind.i64 z, AV.int IntKind.u32 (0 : Int)]]), (3, AObj.log recTy rs), (4, AObj.arr 1 Ty.bool [] [[AV.nils]]), (5, AObj.arr 1 Ty.bool [] [[AV.nils]])], nx := 6 } else bif decide ((List.drop i.toNat (List.take (IntKind.i64.wrap (i + (1 : Int))).toNat l)).length ≤ 200000000) && okB 500000000 (f, b, n, z, rs) then K Ex.normal { slots := [(0, AV.vl recTy l), (2, AV.int IntKind.i64 mx), (3, AV.int IntKind.i64 fr), (8, AV.bool q), (10, AV.ptr 0 (Elt.tl 0) 0), (11, AV.int IntKind.i64 (IntKind.i64.wrap (i + (1 : Int))))], objs := [(0, AObj.arr 7 Ty.bool [] [[AV.ptr 1 (Elt.tl 0) 0, AV.int IntKind.i64 c1, AV.int IntKind.i64 c2, AV.int IntKind.i64 c3, AV.int IntKind.i64 c4, AV.ptr 4 (Elt.tl 0) 0, AV.ptr 5 (Elt.tl 0) 0]]), (1, AObj.arr 1 Ty.bool [] [[AV.hw 2]]), (2, AObj.arr 10 segTy (apL c1 (List.drop i.toNat (List.take (IntKind.i64.wrap (i + (1 : Int))).toNat l)) (f, b, n, z, rs) (List.drop i.toNat (List.take (IntKind.i64.wrap (i + (1 : Int))).toNat l)).length).fst [[AV.int IntKind.i64 (apL c1 (List.drop i.toNat (List.take (IntKind.i64.wrap (i + (1 : Int))).toNat l)) (f, b, n, z, rs) (List.drop i.toNat (List.take (IntKind.i64.wrap (i + (1 : Int))).toNat l)).length).snd.fst, AV.int IntKind.i64 (apL c1 (List.drop i.toNat (List.take (IntKind.i64.wrap (i + (1 : Int))).toNat l)) (f, b, n, z, rs) (List.drop i.toNat (List.take (IntKind.i64.wrap (i + (1 : Int))).toNat l)).length).snd.snd.fst, AV.int IntKind.i64 (0 : Int), AV.int IntKind.i64 (0 : Int), AV.hw 3, AV.bool false, AV.bool false, AV.bool false, AV.int IntKind.i64 (apL c1 (List.drop i.toNat (List.take (IntKind.i64.wrap (i + (1 : Int))).toNat l)) (f, b, n, z, rs) (List.drop i.toNat (List.take (IntKind.i64.wrap (i + (1 : Int))).toNat l)).length).snd.snd.snd.fst, AV.int IntKind.u32 (0 : Int)]]), (3, AObj.log recTy (apL c1 (List.drop i.toNat (List.take (IntKind.i64.wrap (i + (1 : Int))).toNat l)) (f, b, n, z, rs) (List.drop i.toNat (List.take (IntKind.i64.wrap (i + (1 : Int))).toNat l)).length).snd.snd.snd.snd), (4, AObj.arr 1 Ty.bool [] [[AV.nils]]), (5, AObj.arr 1 Ty.bool [] [[AV.nils]])], nx := 6 } else none else none else none else K (Ex.exit 0) { slots := [(0, AV.vl recTy l), (2, AV.int IntKind.i64 mx), (3, AV.int IntKind.i64 fr), (8, AV.bool q), (10, AV.ptr 0 (Elt.tl 0) 0), (11, AV.int IntKind.i64 i)], objs := [(0, AObj.arr 7 Ty.bool [] [[AV.ptr 1 (Elt.tl 0) 0, AV.int IntKind.i64 c1, AV.int IntKind.i64 c2, AV.int IntKind.i64 c3, AV.int IntKind.i64 c4, AV.ptr 4 (Elt.tl 0) 0, AV.ptr 5 (Elt.tl 0) 0]]), (1, AObj.arr 1 Ty.bool [] [[AV.hw 2]]), (2, AObj.arr 10 segTy f [[AV.int IntKind.i64 b, AV.int IntKind.i64 n, AV.int IntKind.i64 (0 : Int), AV.int IntKind.i64 (0 : Int), AV.hw 3, AV.bool false, AV.bool false, AV.bool false, AV.int IntKind.i64 z, AV.int IntKind.u32 (0 : Int)]]), (3, AObj.log recTy rs), (4, AObj.arr 1 Ty.bool [] [[AV.nils]]), (5, AObj.arr 1 Ty.bool [] [[AV.nils]])], nx := 6 } := by kernel_rfl

abbrev resBO (e o lo hi : Int) (rr : List Rec) (ba ge su : Int) (aw : Bool) : AObj := .arr 9 .bool [] [[.int .i64 e, .int .i64 o, .int .i64 lo, .int .i64 hi, .vl recT rr, .int .i64 ba, .int .i64 ge, .int .u32 su, .bool aw]]
abbrev resBP : OPat := .box 9 [[.int .i64, .int .i64, .int .i64, .int .i64, .vl recT, .int .i64, .int .i64, .int .u32, .bool]]
abbrev stA6 (c1 c2 c3 c4 : Int) (f : List Seg) (b n z : Int) (rs : List Rec) (r : AObj) : List (Nat × AObj) := [(0, boxO c1 c2 c3 c4), (1, .arr 1 .bool [] [[.hw 2]]), (2, .arr 10 segT f [actT b n z]), (3, .log recT rs), (4, .arr 1 .bool [] [[.nils]]), (5, .arr 1 .bool [] [[.nils]]), (6, r)]
theorem rd23_rd {R : Type} (l : List Rec) (mx t n2 k i : Int) (q : Bool) (c1 c2 c3 c4 : Int) (f : List Seg) (b n z : Int) (rs : List Rec) (e o lo hi : Int) (rr : List Rec) (ba ge su : Int) (aw : Bool) (K : Ex → St → Option R) : roundK (env consW4) H.rea2 0 (LPof []) V.cooperagelaw16_StateReads_23 L.cooperagelaw16_StateReads_23 ⟨[(0, .vl recT l), (2, .int .i64 mx), (8, .bool q), (10, .ptr 0 (.tl 0) 0), (13, .int .i64 t), (14, .int .i64 n2), (15, .int .i64 k), (16, .ptr 6 (.tl 0) 0), (17, .int .i64 i)], stA6 c1 c2 c3 c4 f b n z rs (resBO e o lo hi rr ba ge su aw), 7⟩ K = bif decide (i < (↑rr.length : Int)) then bif decide (n2 ≥ (↑l.length : Int)) then K Ex.ret { slots := [(0, AV.vl recTy l), (2, AV.int IntKind.i64 mx), (8, AV.bool false), (10, AV.ptr 0 (Elt.tl 0) 0), (13, AV.int IntKind.i64 t), (14, AV.int IntKind.i64 n2), (15, AV.int IntKind.i64 k), (16, AV.ptr 6 (Elt.tl 0) 0), (17, AV.int IntKind.i64 i)], objs := [(0, AObj.arr 7 Ty.bool [] [[AV.ptr 1 (Elt.tl 0) 0, AV.int IntKind.i64 c1, AV.int IntKind.i64 c2, AV.int IntKind.i64 c3, AV.int IntKind.i64 c4, AV.ptr 4 (Elt.tl 0) 0, AV.ptr 5 (Elt.tl 0) 0]]), (1, AObj.arr 1 Ty.bool [] [[AV.hw 2]]), (2, AObj.arr 10 segTy f [[AV.int IntKind.i64 b, AV.int IntKind.i64 n, AV.int IntKind.i64 (0 : Int), AV.int IntKind.i64 (0 : Int), AV.hw 3, AV.bool false, AV.bool false, AV.bool false, AV.int IntKind.i64 z, AV.int IntKind.u32 (0 : Int)]]), (3, AObj.log recTy rs), (4, AObj.arr 1 Ty.bool [] [[AV.nils]]), (5, AObj.arr 1 Ty.bool [] [[AV.nils]]), (6, AObj.arr 9 Ty.bool [] [[AV.int IntKind.i64 e, AV.int IntKind.i64 o, AV.int IntKind.i64 lo, AV.int IntKind.i64 hi, AV.vl recTy rr, AV.int IntKind.i64 ba, AV.int IntKind.i64 ge, AV.int IntKind.u32 su, AV.bool aw]])], nx := 7 } else bif decide ((0 : Int) ≤ n2) && decide (n2 < (↑l.length : Int)) then bif decide ((0 : Int) ≤ i) && decide (i < (↑rr.length : Int)) then bif !((rr.getD i.toNat recTy.zero).fst == n2 && ((rr.getD i.toNat recTy.zero).snd.fst == (l.getD n2.toNat recTy.zero).snd.fst && ((rr.getD i.toNat recTy.zero).snd.snd.fst == (l.getD n2.toNat recTy.zero).snd.snd.fst && ((rr.getD i.toNat recTy.zero).snd.snd.snd.fst == (l.getD n2.toNat recTy.zero).snd.snd.snd.fst && ((rr.getD i.toNat recTy.zero).snd.snd.snd.snd == (l.getD n2.toNat recTy.zero).snd.snd.snd.snd && true))))) then K Ex.ret { slots := [(0, AV.vl recTy l), (2, AV.int IntKind.i64 mx), (8, AV.bool false), (10, AV.ptr 0 (Elt.tl 0) 0), (13, AV.int IntKind.i64 t), (14, AV.int IntKind.i64 n2), (15, AV.int IntKind.i64 k), (16, AV.ptr 6 (Elt.tl 0) 0), (17, AV.int IntKind.i64 i)], objs := [(0, AObj.arr 7 Ty.bool [] [[AV.ptr 1 (Elt.tl 0) 0, AV.int IntKind.i64 c1, AV.int IntKind.i64 c2, AV.int IntKind.i64 c3, AV.int IntKind.i64 c4, AV.ptr 4 (Elt.tl 0) 0, AV.ptr 5 (Elt.tl 0) 0]]), (1, AObj.arr 1 Ty.bool [] [[AV.hw 2]]), (2, AObj.arr 10 segTy f [[AV.int IntKind.i64 b, AV.int IntKind.i64 n, AV.int IntKind.i64 (0 : Int), AV.int IntKind.i64 (0 : Int), AV.hw 3, AV.bool false, AV.bool false, AV.bool false, AV.int IntKind.i64 z, AV.int IntKind.u32 (0 : Int)]]), (3, AObj.log recTy rs), (4, AObj.arr 1 Ty.bool [] [[AV.nils]]), (5, AObj.arr 1 Ty.bool [] [[AV.nils]]), (6, AObj.arr 9 Ty.bool [] [[AV.int IntKind.i64 e, AV.int IntKind.i64 o, AV.int IntKind.i64 lo, AV.int IntKind.i64 hi, AV.vl recTy rr, AV.int IntKind.i64 ba, AV.int IntKind.i64 ge, AV.int IntKind.u32 su, AV.bool aw]])], nx := 7 } else K Ex.normal { slots := [(0, AV.vl recTy l), (2, AV.int IntKind.i64 mx), (8, AV.bool q), (10, AV.ptr 0 (Elt.tl 0) 0), (13, AV.int IntKind.i64 t), (14, AV.int IntKind.i64 (IntKind.i64.wrap (n2 + (1 : Int)))), (15, AV.int IntKind.i64 k), (16, AV.ptr 6 (Elt.tl 0) 0), (17, AV.int IntKind.i64 (IntKind.i64.wrap (i + (1 : Int))))], objs := [(0, AObj.arr 7 Ty.bool [] [[AV.ptr 1 (Elt.tl 0) 0, AV.int IntKind.i64 c1, AV.int IntKind.i64 c2, AV.int IntKind.i64 c3, AV.int IntKind.i64 c4, AV.ptr 4 (Elt.tl 0) 0, AV.ptr 5 (Elt.tl 0) 0]]), (1, AObj.arr 1 Ty.bool [] [[AV.hw 2]]), (2, AObj.arr 10 segTy f [[AV.int IntKind.i64 b, AV.int IntKind.i64 n, AV.int IntKind.i64 (0 : Int), AV.int IntKind.i64 (0 : Int), AV.hw 3, AV.bool false, AV.bool false, AV.bool false, AV.int IntKind.i64 z, AV.int IntKind.u32 (0 : Int)]]), (3, AObj.log recTy rs), (4, AObj.arr 1 Ty.bool [] [[AV.nils]]), (5, AObj.arr 1 Ty.bool [] [[AV.nils]]), (6, AObj.arr 9 Ty.bool [] [[AV.int IntKind.i64 e, AV.int IntKind.i64 o, AV.int IntKind.i64 lo, AV.int IntKind.i64 hi, AV.vl recTy rr, AV.int IntKind.i64 ba, AV.int IntKind.i64 ge, AV.int IntKind.u32 su, AV.bool aw]])], nx := 7 } else none else none else K (Ex.exit 4) { slots := [(0, AV.vl recTy l), (2, AV.int IntKind.i64 mx), (8, AV.bool q), (10, AV.ptr 0 (Elt.tl 0) 0), (13, AV.int IntKind.i64 t), (14, AV.int IntKind.i64 n2), (15, AV.int IntKind.i64 k), (16, AV.ptr 6 (Elt.tl 0) 0), (17, AV.int IntKind.i64 i)], objs := [(0, AObj.arr 7 Ty.bool [] [[AV.ptr 1 (Elt.tl 0) 0, AV.int IntKind.i64 c1, AV.int IntKind.i64 c2, AV.int IntKind.i64 c3, AV.int IntKind.i64 c4, AV.ptr 4 (Elt.tl 0) 0, AV.ptr 5 (Elt.tl 0) 0]]), (1, AObj.arr 1 Ty.bool [] [[AV.hw 2]]), (2, AObj.arr 10 segTy f [[AV.int IntKind.i64 b, AV.int IntKind.i64 n, AV.int IntKind.i64 (0 : Int), AV.int IntKind.i64 (0 : Int), AV.hw 3, AV.bool false, AV.bool false, AV.bool false, AV.int IntKind.i64 z, AV.int IntKind.u32 (0 : Int)]]), (3, AObj.log recTy rs), (4, AObj.arr 1 Ty.bool [] [[AV.nils]]), (5, AObj.arr 1 Ty.bool [] [[AV.nils]]), (6, AObj.arr 9 Ty.bool [] [[AV.int IntKind.i64 e, AV.int IntKind.i64 o, AV.int IntKind.i64 lo, AV.int IntKind.i64 hi, AV.vl recTy rr, AV.int IntKind.i64 ba, AV.int IntKind.i64 ge, AV.int IntKind.u32 su, AV.bool aw]])], nx := 7 } := by kernel_rfl

end Go.Sim
namespace Go.Sim
set_option linter.unusedSimpArgs false
set_option linter.unusedVariables false
set_option maxRecDepth 10000
open Go.Sim.XU
end Go.Sim
namespace Go.Sim
set_option linter.unusedSimpArgs false
set_option linter.unusedVariables false
set_option maxRecDepth 10000
open Go.Sim.XU
theorem cond_t {α : Type _} {c : Bool} {a b : α} (h : c = true) : cond c a b = a := by rw [h]; rfl
theorem cond_f {α : Type _} {c : Bool} {a b : α} (h : c = false) : cond c a b = b := by rw [h]; rfl
structure InvO (l : List Rec) (j : Nat) (M : LogS) : Prop where
  next : M.2.2.1 = ((j * l.length : Nat) : Int)
  low : lowP M = 0
  ok : okB (100 * j) M = true
end Go.Sim
namespace Go.Sim
set_option linter.unusedSimpArgs false
set_option linter.unusedVariables false
set_option maxRecDepth 10000
open Go.Sim.XU
def rdM (l : List Rec) (c : Int) : Nat → LogS
  | 0 => ([], 0, 0, 0, [])
  | i + 1 => apR c (rdM l c i) (l.getD i recTy.zero)
theorem rdM_ok (l : List Rec) (c : Int) : ∀ i, i ≤ 1000 → okB (2 * i) (rdM l c i) = true
  | 0, _ => rfl
  | i + 1, h => by
    have h2 := apR_ok (c := 2 * i) c (l.getD i recTy.zero) (rdM_ok l c i (by omega)) (by omega)
    exact h2
def badRd (l : List Rec) (i : Nat) : Bool := (decide (((l.getD i recTy.zero).2.2.2.1.length : Int) > 300) || decide (((l.getD i recTy.zero).2.2.1.length : Int) > 200)) || !rightC (cmdO 0 0 [l.getD i recTy.zero])
theorem good_rec {l : List Rec} {i : Nat} (h : badRd l i = false) : recR (0, (l.getD i recTy.zero).2) = true := by
  unfold badRd at h
  simp only [Bool.or_eq_false_iff, Bool.not_eq_false'] at h
  have h2 := h.2
  rw [right_one] at h2
  simp only [Bool.and_eq_true] at h2
  exact ((recs_ok h2.2.2.2).2 _ (List.mem_singleton.2 rfl)).2
theorem rdM_inv {l : List Rec} {c : Int} (hl : l.length ≤ 50) (h : (firstFrom (badRd l) 0 l.length).isSome = false) : ∀ i, i ≤ l.length → InvR l i (rdM l c i)
  | 0, _ => InvR_zero l
  | i + 1, hi => by
    have hn : firstFrom (badRd l) 0 l.length = none := by
      cases hf : firstFrom (badRd l) 0 l.length with
      | none => rfl
      | some k => rw [hf] at h; cases h
    have hb := firstFrom_none hn i (Nat.zero_le _) (by omega)
    exact InvR_step (by omega) (good_rec hb) (rdM_inv hl h i (by omega))
theorem cut_one {l : List Rec} {i : Nat} (h : i < l.length) : List.drop i (List.take (i + 1) l) = [l.getD i recTy.zero] := by
  rw [take_snoc h]
  exact List.drop_left' (by simp; omega)
abbrev stAL (c1 : Int) (M : LogS) : List (Nat × AObj) := stAO c1 0 0 0 M.1 M.2.1 M.2.2.1 M.2.2.2.1 M.2.2.2.2
def r7St (l : List Rec) (mx fr : Int) (q : Bool) (c : Int) (i : Nat) : St := ⟨[(0, .vl recT l), (2, .int .i64 mx), (3, .int .i64 fr), (8, .bool q), (10, .ptr 0 (.tl 0) 0), (11, .int .i64 i)], stAL c (rdM l c i), 6⟩
theorem r7_step {R : Type} (l : List Rec) (mx fr : Int) (q : Bool) (c : Int) (hl : l.length ≤ 50) (i : Nat) (hi : i < l.length) (K : Ex → St → Option R) :
    roundK (env consW4) H.rea2 0 (LPof []) V.cooperagelaw16_StateReads_7 L.cooperagelaw16_StateReads_7 (r7St l mx fr q c i) K = bif badRd l i then K .ret (r7St l mx fr true c i) else K .normal (r7St l mx fr q c (i + 1)) := by
  refine (rd7_rd l 0 mx fr i q c 0 0 0 _ _ _ _ _ _).trans ?_
  have e1 : IntKind.i64.wrap ((i : Int) + 1) = ((i + 1 : Nat) : Int) := by rw [wrap64 (by omega) (by omega)]; omega
  have e3 := cut_one hi
  have hok := okB_mono (rdM_ok l c i (by omega)) (show 2 * i ≤ 500000000 by omega)
  have e4 : apL c [l.getD i recTy.zero] ((rdM l c i).1, (rdM l c i).2.1, (rdM l c i).2.2.1, (rdM l c i).2.2.2.1, (rdM l c i).2.2.2.2) 1 = rdM l c (i + 1) := rfl
  have hok2 : okB 500000000 ((rdM l c i).1, (rdM l c i).2.1, (rdM l c i).2.2.1, (rdM l c i).2.2.2.1, (rdM l c i).2.2.2.2) = true := hok
  have e5 : ∀ (a b : Bool), (bif a then some true else some b) = some (a || b) := fun a b => by cases a <;> rfl
  rw [e1, cond_pos (by omega), cond_pos2 (by omega) (by omega), cond_pos2 (by omega) (by omega), Int.toNat_natCast, Int.toNat_natCast, e3, cond_pos2 (by omega) (by omega), cond_pos2 (by omega) (by omega), e5, Option.bind_some]
  unfold badRd
  cases decide (((l.getD i recTy.zero).2.2.2.1.length : Int) > 300) || decide (((l.getD i recTy.zero).2.2.1.length : Int) > 200) with
  | true => rfl
  | false =>
    rw [cond_false, Bool.false_or]
    cases rightC (cmdO 0 0 [l.getD i recTy.zero]) with
    | false => rfl
    | true =>
      rw [Bool.not_true, cond_false, cond_false, hok2]
      have e6 : List.length [l.getD i recTy.zero] = 1 := rfl
      rw [e6, e4]
      rfl
theorem r7_last {R : Type} (l : List Rec) (mx fr : Int) (q : Bool) (c : Int) (K : Ex → St → Option R) :
    roundK (env consW4) H.rea2 0 (LPof []) V.cooperagelaw16_StateReads_7 L.cooperagelaw16_StateReads_7 (r7St l mx fr q c l.length) K = K (.exit 0) (r7St l mx fr q c l.length) := by
  refine (rd7_rd l 0 mx fr l.length q c 0 0 0 _ _ _ _ _ _).trans ?_
  rw [cond_neg (by omega)]
  rfl
abbrev r7LC : LoopC := LoopC.of ⟨[(0, .vl recT), (2, .int .i64), (3, .int .i64), (8, .bool), (10, .lit (.ptr 0 (.tl 0) 0)), (11, .int .i64)], stAP⟩
  (fun ⟨⟨l, mx, fr, q, _, i, _⟩, ⟨⟨⟨_, c1, c2, c3, c4, _, _, _⟩, _⟩, _, ⟨f, ⟨b, n, _, _, _, _, _, _, z, _, _⟩, _⟩, rs, _, _, _⟩⟩ => decide (i = (0 : Int)) && decide (List.length l ≤ 50) && decide (c2 = (0 : Int)) && decide (c3 = (0 : Int)) && decide (c4 = (0 : Int)) && List.isEmpty f && List.isEmpty rs && decide (b = (0 : Int)) && decide (n = (0 : Int)) && decide (z = (0 : Int)))
  fun ⟨⟨l, mx, fr, q, _, i, _⟩, ⟨⟨⟨_, c1, c2, c3, c4, _, _, _⟩, _⟩, _, ⟨f, ⟨b, n, _, _, _, _, _, _, z, _, _⟩, _⟩, rs, _, _, _⟩⟩ => [((firstFrom (badRd l) 0 (List.length l)).isSome, .ret, r7St l mx fr true c1 ((firstFrom (badRd l) 0 (List.length l)).getD 0)), (true, .exit 0, r7St l mx fr q c1 (List.length l))]
theorem r7_go (l : List Rec) (mx fr i : Int) (q : Bool) (c1 c2 c3 c4 b n z : Int) (f : List Seg) (rs : List Rec) (h1 : i = 0) (h2 : l.length ≤ 50) (h3 : c2 = 0) (h4 : c3 = 0) (h5 : c4 = 0) (h6 : f.isEmpty = true) (h7 : rs.isEmpty = true) (h8 : b = 0) (h9 : n = 0) (h10 : z = 0) :
    ∃ m, rounds (env consW4) H.rea2 0 (LPof []) V.cooperagelaw16_StateReads_7 L.cooperagelaw16_StateReads_7 m ⟨[(0, .vl recT l), (2, .int .i64 mx), (3, .int .i64 fr), (8, .bool q), (10, .ptr 0 (.tl 0) 0), (11, .int .i64 i)], stAO c1 c2 c3 c4 f b n z rs, 6⟩ (fun e s => some (e, s)) = pick [((firstFrom (badRd l) 0 (List.length l)).isSome, .ret, r7St l mx fr true c1 ((firstFrom (badRd l) 0 (List.length l)).getD 0)), (true, .exit 0, r7St l mx fr q c1 (List.length l))] := by
  subst h1 h3 h4 h5 h8 h9 h10
  obtain rfl := List.isEmpty_iff.1 h6
  obtain rfl := List.isEmpty_iff.1 h7
  exact ⟨_, Eq.trans (search_rounds (S := r7St l mx fr q c1) (T := r7St l mx fr true c1) (p := badRd l) (n := l.length) (e1 := .ret) (e2 := .exit 0) (by simp) (by simp) (fun i hi K => r7_step l mx fr q c1 h2 i hi K) (fun K => r7_last l mx fr q c1 K) _ l.length 0 (by omega)) search_pick⟩
theorem r7_lok : LoopOK P0 H.rea2 0 L.cooperagelaw16_StateReads_7 r7LC :=
  loop_ok_of (env_ok consW4_ok) glob0 mixed0 noLoops V.cooperagelaw16_StateReads_7 (by decide) fun ⟨⟨l, mx, fr, q, _, i, _⟩, ⟨⟨⟨_, c1, c2, c3, c4, _, _, _⟩, _⟩, _, ⟨f, ⟨b, n, _, _, _, _, _, _, z, _, _⟩, _⟩, rs, _, _, _⟩⟩ h hw => by
    simp only [Bool.and_eq_true, decide_eq_true_eq] at h
    obtain ⟨⟨⟨⟨⟨⟨⟨⟨⟨h1, h2⟩, h3⟩, h4⟩, h5⟩, h6⟩, h7⟩, h8⟩, h9⟩, h10⟩ := h
    exact r7_go l mx fr i q c1 c2 c3 c4 b n z f rs h1 h2 h3 h4 h5 h6 h7 h8 h9 h10
/-! the inner loop -/
def r23St (l : List Rec) (mx t : Int) (k : Int) (q : Bool) (c1 c2 c3 c4 : Int) (M : LogS) (e o lo hi : Int) (rr : List Rec) (ba ge su : Int) (aw : Bool) (a i : Nat) : St := ⟨[(0, .vl recT l), (2, .int .i64 mx), (8, .bool q), (10, .ptr 0 (.tl 0) 0), (13, .int .i64 t), (14, .int .i64 (a + i : Nat)), (15, .int .i64 k), (16, .ptr 6 (.tl 0) 0), (17, .int .i64 i)], stA6 c1 c2 c3 c4 M.1 M.2.1 M.2.2.1 M.2.2.2.1 M.2.2.2.2 (resBO e o lo hi rr ba ge su aw), 7⟩
theorem r23_rounds {R : Type} (l : List Rec) (mx t k : Int) (q : Bool) (c1 c2 c3 c4 : Int) (M : LogS) (e o lo hi : Int) (rr : List Rec) (ba ge su : Int) (aw : Bool) (a : Nat) (hl : l.length ≤ 50) (hr : rr = slO l a rr.length) (ha : a + rr.length ≤ l.length) (K : Ex → St → Option R) : ∀ (m i : Nat), i + m = rr.length →
    rounds (env consW4) H.rea2 0 (LPof []) V.cooperagelaw16_StateReads_23 L.cooperagelaw16_StateReads_23 (m + 1) (r23St l mx t k q c1 c2 c3 c4 M e o lo hi rr ba ge su aw a i) K = K (.exit 4) (r23St l mx t k q c1 c2 c3 c4 M e o lo hi rr ba ge su aw a rr.length)
  | 0, i, h => by
    obtain rfl : i = rr.length := by omega
    rw [rounds_succ']
    refine (rd23_rd _ _ _ _ _ _ _ _ _ _ _ _ _ _ _ _ _ _ _ _ _ _ _ _ _ _).trans ?_
    rw [cond_neg (by omega)]
    rfl
  | m + 1, i, h => by
    have ih := r23_rounds l mx t k q c1 c2 c3 c4 M e o lo hi rr ba ge su aw a hl hr ha K m (i + 1) (by omega)
    have e1 : IntKind.i64.wrap ((i : Int) + 1) = ((i + 1 : Nat) : Int) := by rw [wrap64 (by omega) (by omega)]; omega
    have e2 : IntKind.i64.wrap (((a + i : Nat) : Int) + 1) = ((a + (i + 1) : Nat) : Int) := by rw [wrap64 (by omega) (by omega)]; omega
    have e3 : rr.getD i recTy.zero = recO l (a + i) := by
      conv => lhs; rw [hr]
      exact slO_at (by omega)
    rw [rounds_succ']
    refine (rd23_rd _ _ _ _ _ _ _ _ _ _ _ _ _ _ _ _ _ _ _ _ _ _ _ _ _ _).trans ?_
    rw [cond_pos (by omega), cond_neg (by omega), cond_pos2 (by omega) (by omega), cond_pos2 (by omega) (by omega), Int.toNat_natCast, Int.toNat_natCast, e1, e2, e3]
    have e4 : (recO l (a + i)).1 = ((a + i : Nat) : Int) := rfl
    have e5 : (recO l (a + i)).2 = (l.getD (a + i) recTy.zero).2 := rfl
    rw [e4, e5]
    simp only [beq_self_eq_true, Bool.and_self, Bool.not_true, cond_false]
    exact ih
abbrev r23LC : LoopC := LoopC.of ⟨[(0, .vl recT), (2, .int .i64), (8, .bool), (10, .lit (.ptr 0 (.tl 0) 0)), (13, .int .i64), (14, .int .i64), (15, .int .i64), (16, .lit (.ptr 6 (.tl 0) 0)), (17, .int .i64)], [boxP, .box 1 [[.lit (.hw 2)]], .arr 10 segT [actTP], .log recT, .box 1 [[.lit .nils]], .box 1 [[.lit .nils]], resBP]⟩
  (fun ⟨⟨l, mx, q, _, t, n2, k, _, i, _⟩, ⟨⟨⟨_, c1, c2, c3, c4, _, _, _⟩, _⟩, _, ⟨f, ⟨b, n, _, _, _, _, _, _, z, _, _⟩, _⟩, rs, _, _, ⟨⟨e, o, lo, hi, rr, ba, ge, su, aw, _⟩, _⟩, _⟩⟩ => decide (i = (0 : Int)) && decide ((0 : Int) ≤ n2) && decide (List.length l ≤ 50) && decide (rr = slO l n2.toNat (List.length rr)) && decide (n2.toNat + List.length rr ≤ List.length l))
  fun ⟨⟨l, mx, q, _, t, n2, k, _, i, _⟩, ⟨⟨⟨_, c1, c2, c3, c4, _, _, _⟩, _⟩, _, ⟨f, ⟨b, n, _, _, _, _, _, _, z, _, _⟩, _⟩, rs, _, _, ⟨⟨e, o, lo, hi, rr, ba, ge, su, aw, _⟩, _⟩, _⟩⟩ => [(true, .exit 4, r23St l mx t k q c1 c2 c3 c4 (f, b, n, z, rs) e o lo hi rr ba ge su aw n2.toNat (List.length rr))]
theorem r23_go (l : List Rec) (mx t k n2 i : Int) (q : Bool) (c1 c2 c3 c4 : Int) (M : LogS) (e o lo hi : Int) (rr : List Rec) (ba ge su : Int) (aw : Bool) (h1 : i = 0) (h2 : 0 ≤ n2) (h3 : l.length ≤ 50) (h4 : rr = slO l n2.toNat rr.length) (h5 : n2.toNat + rr.length ≤ l.length) :
    ∃ m, rounds (env consW4) H.rea2 0 (LPof []) V.cooperagelaw16_StateReads_23 L.cooperagelaw16_StateReads_23 m ⟨[(0, .vl recT l), (2, .int .i64 mx), (8, .bool q), (10, .ptr 0 (.tl 0) 0), (13, .int .i64 t), (14, .int .i64 n2), (15, .int .i64 k), (16, .ptr 6 (.tl 0) 0), (17, .int .i64 i)], stA6 c1 c2 c3 c4 M.1 M.2.1 M.2.2.1 M.2.2.2.1 M.2.2.2.2 (resBO e o lo hi rr ba ge su aw), 7⟩ (fun e s => some (e, s)) = some (.exit 4, r23St l mx t k q c1 c2 c3 c4 M e o lo hi rr ba ge su aw n2.toNat rr.length) := by
  subst h1
  obtain ⟨a, rfl⟩ := Int.eq_ofNat_of_zero_le h2
  exact ⟨_, r23_rounds l mx t k q c1 c2 c3 c4 M e o lo hi rr ba ge su aw a h3 h4 h5 _ rr.length 0 (Nat.zero_add _)⟩
theorem r23_lok : LoopOK P0 H.rea2 0 L.cooperagelaw16_StateReads_23 r23LC :=
  loop_ok_of (env_ok consW4_ok) glob0 mixed0 noLoops V.cooperagelaw16_StateReads_23 (by decide) fun ⟨⟨l, mx, q, _, t, n2, k, _, i, _⟩, ⟨⟨⟨_, c1, c2, c3, c4, _, _, _⟩, _⟩, _, ⟨f, ⟨b, n, _, _, _, _, _, _, z, _, _⟩, _⟩, rs, _, _, ⟨⟨e, o, lo, hi, rr, ba, ge, su, aw, _⟩, _⟩, _⟩⟩ h hw => by
    simp only [Bool.and_eq_true, decide_eq_true_eq] at h
    obtain ⟨⟨⟨⟨h1, h2⟩, h3⟩, h4⟩, h5⟩ := h
    exact r23_go l mx t k n2 i q c1 c2 c3 c4 (f, b, n, z, rs) e o lo hi rr ba ge su aw h1 h2 h3 h4 h5
end Go.Sim
