/-
  WkU8: walks for SegsOf: what may be a log's segments. · WkU9: walks for SegsOf: Of, RightLog, SameSegments. · WkUA: the law SegsOf. · WkUB: the law SegsOf, last part.
-/
import Derived.Test.YtjjikahgiffpbaaPartE
namespace Go.Sim
set_option linter.unusedSimpArgs false
set_option linter.unusedVariables false
set_option maxRecDepth 10000
noncomputable abbrev consE1 : List (FuncId × Con) := [(I.record_Right, .pure (pureOf [caseRecright])), (I.cooperageref1_Right, .pure (pureOf [caseRight1])), (I.segs_size, .pure (pureOf [caseSize])), (I.cooperageref1_Bytes, .pure (pureOf [caseRbytes]))]
theorem consE1_ok : ∀ x ∈ consE1, HoldsC P0 x.1 x.2 := by
  intro x hx
  simp at hx
  rcases hx with rfl | rfl | rfl | rfl
  · exact ⟨pureOf_holds (by simp; exact recright_ok), C.record_Right⟩
  · exact ⟨pureOf_holds (by simp; exact right1_ok), C.cooperageref1_Right⟩
  · exact ⟨pureOf_holds (by simp; exact size_ok), C.segs_size⟩
  · exact ⟨pureOf_holds (by simp; exact rbytes_ok), C.cooperageref1_Bytes⟩
theorem recs_rd {R : Type} (g : Seg) (f : Bool) (nx : Int) (rs : List Rec) (n i : Int) (K : Ex → St → Option R) : roundK (env consE1) H.segs_records 0 (LPof []) V.segs_records_3 L.segs_records_3 ⟨[(1, .ptr 0 (.tl 0) 0), (2, .bool f), (3, .int .i64 nx), (9, .vl recT rs), (10, .int .i64 n), (11, .int .i64 i)], [(0, .arr 10 .bool [] [enc segT g])], 1⟩ K = bif decide (i < n) then bif decide ((0 : Int) ≤ i) && decide (i < (↑rs.length : Int)) then Option.bind (bif !recR (rs.getD i.toNat recTy.zero) then some true else bif decide ((rs.getD i.toNat recTy.zero).fst < nx) then some true else some (decide ((rs.getD i.toNat recTy.zero).fst ≥ g.snd.fst))) fun v => bif v then K Ex.ret { slots := [(1, AV.ptr 0 (Elt.tl 0) 0), (2, AV.bool false), (3, AV.int IntKind.i64 nx), (9, AV.vl recTy rs), (10, AV.int IntKind.i64 n), (11, AV.int IntKind.i64 i)], objs := [(0, AObj.arr 10 Ty.bool [] [[AV.int IntKind.i64 g.fst, AV.int IntKind.i64 g.snd.fst, AV.int IntKind.i64 g.snd.snd.fst, AV.int IntKind.i64 g.snd.snd.snd.fst, AV.vl recTy g.snd.snd.snd.snd.fst, AV.bool g.snd.snd.snd.snd.snd.fst, AV.bool g.snd.snd.snd.snd.snd.snd.fst, AV.bool g.snd.snd.snd.snd.snd.snd.snd.fst, AV.int IntKind.i64 g.snd.snd.snd.snd.snd.snd.snd.snd.fst, AV.int IntKind.u32 g.snd.snd.snd.snd.snd.snd.snd.snd.snd]])], nx := 1 } else K Ex.normal { slots := [(1, AV.ptr 0 (Elt.tl 0) 0), (2, AV.bool f), (3, AV.int IntKind.i64 (IntKind.i64.wrap ((rs.getD i.toNat recTy.zero).fst + (1 : Int)))), (9, AV.vl recTy rs), (10, AV.int IntKind.i64 n), (11, AV.int IntKind.i64 (IntKind.i64.wrap (i + (1 : Int))))], objs := [(0, AObj.arr 10 Ty.bool [] [[AV.int IntKind.i64 g.fst, AV.int IntKind.i64 g.snd.fst, AV.int IntKind.i64 g.snd.snd.fst, AV.int IntKind.i64 g.snd.snd.snd.fst, AV.vl recTy g.snd.snd.snd.snd.fst, AV.bool g.snd.snd.snd.snd.snd.fst, AV.bool g.snd.snd.snd.snd.snd.snd.fst, AV.bool g.snd.snd.snd.snd.snd.snd.snd.fst, AV.int IntKind.i64 g.snd.snd.snd.snd.snd.snd.snd.snd.fst, AV.int IntKind.u32 g.snd.snd.snd.snd.snd.snd.snd.snd.snd]])], nx := 1 } else none else K (Ex.exit 0) { slots := [(1, AV.ptr 0 (Elt.tl 0) 0), (2, AV.bool f), (3, AV.int IntKind.i64 nx), (9, AV.vl recTy rs), (10, AV.int IntKind.i64 n), (11, AV.int IntKind.i64 i)], objs := [(0, AObj.arr 10 Ty.bool [] [[AV.int IntKind.i64 g.fst, AV.int IntKind.i64 g.snd.fst, AV.int IntKind.i64 g.snd.snd.fst, AV.int IntKind.i64 g.snd.snd.snd.fst, AV.vl recTy g.snd.snd.snd.snd.fst, AV.bool g.snd.snd.snd.snd.snd.fst, AV.bool g.snd.snd.snd.snd.snd.snd.fst, AV.bool g.snd.snd.snd.snd.snd.snd.snd.fst, AV.int IntKind.i64 g.snd.snd.snd.snd.snd.snd.snd.snd.fst, AV.int IntKind.u32 g.snd.snd.snd.snd.snd.snd.snd.snd.snd]])], nx := 1 } := by kernel_rfl

theorem time10_ev (n : Int) : evFn (env []) H.cooperageref10_time (LPof []) F.cooperageref10_time [.int .i64 n] [] (finT [.bool]) = Option.bind (bif decide (n ≥ (-1099511627776 : Int)) then some (decide (n ≤ (1099511627776 : Int))) else some false) fun v => some (v, ()) := by kernel_rfl

def caseTime10 : PCase := ⟨[.ty (.int .i64)], [.bool], fun x => (fun (n : Int) => [(true, ((decide (n ≥ -1099511627776) && decide (n ≤ 1099511627776)), ()))]) x.1⟩
theorem time10_val (n : Int) : evFn (env []) H.cooperageref10_time (LPof []) F.cooperageref10_time [.int .i64 n] [] (finT [.bool]) = some ((decide (n ≥ -1099511627776) && decide (n ≤ 1099511627776)), ()) := by
  rw [time10_ev]; simp only [and_bif, Option.bind_some]
theorem time10_ok : caseTime10.ok P0 I.cooperageref10_time := case_ok2 (H := H.cooperageref10_time) (E := env []) (env_ok env_nil) glob0 mixed0 G.cooperageref10_time Bd.cooperageref10_time (by kernel_rfl) noLoops fun ⟨n, ()⟩ y h hw => by
  obtain ⟨hc, rfl⟩ := pick_pre h
  exact time10_val n
theorem rsame_rd {R : Type} (a b : List Rec) (f : Bool) (i : Int) (K : Ex → St → Option R) : roundK (env []) H.cooperageref1_SameRecords 0 (LPof []) V.cooperageref1_SameRecords_4 L.cooperageref1_SameRecords_4 ⟨[(0, .vl recT a), (1, .vl recT b), (4, .bool f), (5, .int .i64 i)], [], 0⟩ K = bif decide (i < (↑a.length : Int)) then bif decide ((0 : Int) ≤ i) && decide (i < (↑a.length : Int)) then bif decide ((0 : Int) ≤ i) && decide (i < (↑b.length : Int)) then bif !((a.getD i.toNat recTy.zero).fst == (b.getD i.toNat recTy.zero).fst && ((a.getD i.toNat recTy.zero).snd.fst == (b.getD i.toNat recTy.zero).snd.fst && ((a.getD i.toNat recTy.zero).snd.snd.fst == (b.getD i.toNat recTy.zero).snd.snd.fst && ((a.getD i.toNat recTy.zero).snd.snd.snd.fst == (b.getD i.toNat recTy.zero).snd.snd.snd.fst && ((a.getD i.toNat recTy.zero).snd.snd.snd.snd == (b.getD i.toNat recTy.zero).snd.snd.snd.snd && true))))) then K Ex.ret { slots := [(0, AV.vl recTy a), (1, AV.vl recTy b), (4, AV.bool false), (5, AV.int IntKind.i64 i)], objs := [], nx := 0 } else K Ex.normal { slots := [(0, AV.vl recTy a), (1, AV.vl recTy b), (4, AV.bool f), (5, AV.int IntKind.i64 (IntKind.i64.wrap (i + (1 : Int))))], objs := [], nx := 0 } else none else none else K (Ex.exit 0) { slots := [(0, AV.vl recTy a), (1, AV.vl recTy b), (4, AV.bool f), (5, AV.int IntKind.i64 i)], objs := [], nx := 0 } := by kernel_rfl

theorem big8_rd {R : Type} (l : List Rec) (f : Bool) (i : Int) (K : Ex → St → Option R) : roundK (env []) H.cooperagelaw8_Big 0 (LPof []) V.cooperagelaw8_Big_2 L.cooperagelaw8_Big_2 ⟨[(0, .vl recT l), (2, .bool f), (3, .int .i64 i)], [], 0⟩ K = bif decide (i < (↑l.length : Int)) then Option.bind (bif decide ((0 : Int) ≤ i) && decide (i < (↑l.length : Int)) then bif decide ((↑(List.length (l.getD i.toNat recTy.zero).snd.snd.fst) : Int) > (250 : Int)) then some true else bif decide ((0 : Int) ≤ i) && decide (i < (↑l.length : Int)) then some (decide ((↑(List.length (l.getD i.toNat recTy.zero).snd.snd.snd.fst) : Int) > (300 : Int))) else none else none) fun v => bif v then K Ex.ret { slots := [(0, AV.vl recTy l), (2, AV.bool true), (3, AV.int IntKind.i64 i)], objs := [], nx := 0 } else K Ex.normal { slots := [(0, AV.vl recTy l), (2, AV.bool f), (3, AV.int IntKind.i64 (IntKind.i64.wrap (i + (1 : Int))))], objs := [], nx := 0 } else K (Ex.exit 0) { slots := [(0, AV.vl recTy l), (2, AV.bool f), (3, AV.int IntKind.i64 i)], objs := [], nx := 0 } := by kernel_rfl

def sameSt (a b : List Rec) (f : Bool) (i : Nat) : St := ⟨[(0, .vl recT a), (1, .vl recT b), (4, .bool f), (5, .int .i64 i)], [], 0⟩
def difB (a b : List Rec) (i : Nat) : Bool := !(recEqB (a.getD i recTy.zero) (b.getD i recTy.zero))
abbrev sameLC : LoopC := LoopC.of ⟨[(0, .vl recT), (1, .vl recT), (4, .bool), (5, .int .i64)], []⟩ (fun x => decide (List.length x.1.2.1 = List.length x.1.1) && decide (x.1.2.2.2.1 = (0 : Int)))
    fun x => [((firstFrom (difB x.1.1 x.1.2.1) 0 (List.length x.1.1)).isSome, .ret, sameSt x.1.1 x.1.2.1 false ((firstFrom (difB x.1.1 x.1.2.1) 0 (List.length x.1.1)).getD 0)), (true, .exit 0, sameSt x.1.1 x.1.2.1 x.1.2.2.1 (List.length x.1.1))]
theorem same_lok : LoopOK P0 H.cooperageref1_SameRecords 0 L.cooperageref1_SameRecords_4 sameLC :=
  loop_ok_of (env_ok env_nil) glob0 mixed0 noLoops V.cooperageref1_SameRecords_4 (by decide) fun ⟨⟨a, b, f, i, _⟩, _⟩ h hw => by
    simp only [Bool.and_eq_true, decide_eq_true_eq] at h
    obtain ⟨h1, h2⟩ := h
    subst h2
    have hm : List.length a ≤ maxL := hw.1.1.1
    unfold maxL at hm
    refine ⟨_, Eq.trans (search_rounds (S := sameSt a b f) (T := sameSt a b false) (p := difB a b) (n := List.length a) (e1 := .ret) (e2 := .exit 0) (s2 := sameSt a b f (List.length a)) (by simp) (by simp) (fun i hi K => ?_) (fun K => ?_) _ (List.length a) 0 (by omega)) search_pick⟩
    · unfold sameSt
      rw [rsame_rd, cond_pos (by omega), cond_pos2 (by omega) (by omega), cond_pos2 (by omega) (by omega), Int.toNat_natCast, wrap64 (by omega) (by omega)]
      rfl
    · unfold sameSt
      rw [rsame_rd, cond_neg (by omega)]
theorem rsame_ev (a b : List Rec) : evFn (env []) H.cooperageref1_SameRecords (LPof [(4, sameLC)]) F.cooperageref1_SameRecords [.vl recT a, .vl recT b] [] (finT [.bool]) = bif (↑a.length : Int) != (↑b.length : Int) then some (false, ()) else bif decide (b.length = a.length) && true && (firstFrom (difB a b) 0 a.length).isSome then some (false, ()) else bif decide (b.length = a.length) && true && true then some (true, ()) else none := by kernel_rfl

def caseSameR : PCase := ⟨[.ty (.sl recT), .ty (.sl recT)], [.bool], fun x => (fun (a b : List Rec) => [(true, (decide (a = b), ()))]) x.1 x.2.1⟩
theorem rsame_val (a b : List Rec) : evFn (env []) H.cooperageref1_SameRecords (LPof [(4, sameLC)]) F.cooperageref1_SameRecords [.vl recT a, .vl recT b] [] (finT [.bool]) = some (decide (a = b), ()) := by
  rw [rsame_ev]
  by_cases h : b.length = a.length
  · have h1 : ((a.length : Int) != (b.length : Int)) = false := by simp; omega
    have := firstFrom_eq recEqB_eq recTy.zero h
    unfold difB
    rw [h1, this, decide_eq_true h]
    cases decide (a = b) <;> rfl
  · have h1 : ((a.length : Int) != (b.length : Int)) = true := by simp; omega
    have h2 : a ≠ b := fun e => h (by rw [e])
    rw [h1, decide_eq_false h2]; rfl
theorem rsame_ok : caseSameR.ok P0 I.cooperageref1_SameRecords := case_ok2 (H := H.cooperageref1_SameRecords) (E := env []) (env_ok env_nil) glob0 mixed0 G.cooperageref1_SameRecords Bd.cooperageref1_SameRecords (by kernel_rfl) (loops_good (tab := [(4, sameLC)]) (by kernel_rfl) (fun x hx => by simp at hx; subst hx; exact same_lok)) fun ⟨a, b, ()⟩ y h hw => by
  obtain ⟨hc, rfl⟩ := pick_pre h
  exact rsame_val a b
/-- What the next record's offset is at least. -/
def nextR (g : Seg) : Nat → Int
  | 0 => g.1
  | k + 1 => IntKind.i64.wrap ((g.2.2.2.2.1.getD k recTy.zero).1 + 1)
def badRc (g : Seg) (k : Nat) : Bool := !recR (g.2.2.2.2.1.getD k recTy.zero) || (decide ((g.2.2.2.2.1.getD k recTy.zero).1 < nextR g k) || decide ((g.2.2.2.2.1.getD k recTy.zero).1 ≥ g.2.1))
theorem ors_bif3 {a b c : Bool} : (bif a then some true else bif b then some true else some c) = some (a || (b || c)) := by cases a <;> cases b <;> rfl
def rcSt (g : Seg) (f : Bool) (k : Nat) : St := ⟨[(1, .ptr 0 (.tl 0) 0), (2, .bool f), (3, .int .i64 (nextR g k)), (9, .vl recT g.2.2.2.2.1), (10, .int .i64 (List.length g.2.2.2.2.1)), (11, .int .i64 k)], [(0, .arr 10 .bool [] [enc segT g])], 1⟩
abbrev segP : List Pat := [.int .i64, .int .i64, .int .i64, .int .i64, .vl recT, .bool, .bool, .bool, .int .i64, .int .u32]
abbrev rcLC : LoopC := LoopC.of ⟨[(1, .lit (.ptr 0 (.tl 0) 0)), (2, .bool), (3, .int .i64), (9, .vl recT), (10, .int .i64), (11, .int .i64)], [.box 10 [segP]]⟩
  (fun ⟨⟨_, f, nx, rs, n, i, _⟩, ⟨⟨⟨b, m, t, gn, l, s, c, r, z, u, _⟩, _⟩, _⟩⟩ => decide (i = (0 : Int)) && decide (nx = b) && decide (rs = l) && decide (n = (List.length l : Int)))
  fun ⟨⟨_, f, nx, rs, n, i, _⟩, ⟨⟨⟨b, m, t, gn, l, s, c, r, z, u, _⟩, _⟩, _⟩⟩ => [((firstFrom (badRc (b, m, t, gn, l, s, c, r, z, u)) 0 (List.length l)).isSome, .ret, rcSt (b, m, t, gn, l, s, c, r, z, u) false ((firstFrom (badRc (b, m, t, gn, l, s, c, r, z, u)) 0 (List.length l)).getD 0)),
    (true, .exit 0, rcSt (b, m, t, gn, l, s, c, r, z, u) f (List.length l))]
theorem rc_lok : LoopOK P0 H.segs_records 0 L.segs_records_3 rcLC :=
  loop_ok_of (env_ok consE1_ok) glob0 mixed0 noLoops V.segs_records_3 (by decide) fun ⟨⟨_, f, nx, rs, n, i, _⟩, ⟨⟨⟨b, m, t, gn, l, s, c, r, z, u, _⟩, _⟩, _⟩⟩ h hw => by
    simp only [Bool.and_eq_true, decide_eq_true_eq] at h
    obtain ⟨⟨⟨rfl, rfl⟩, rfl⟩, rfl⟩ := h
    have hm : List.length rs ≤ maxL := hw.1.2.2.2.1.1
    unfold maxL at hm
    refine ⟨_, Eq.trans (search_rounds (S := rcSt (nx, m, t, gn, rs, s, c, r, z, u) f) (T := rcSt (nx, m, t, gn, rs, s, c, r, z, u) false) (p := badRc (nx, m, t, gn, rs, s, c, r, z, u)) (n := List.length rs) (e1 := .ret) (e2 := .exit 0) (s2 := rcSt (nx, m, t, gn, rs, s, c, r, z, u) f (List.length rs)) (by simp) (by simp) (fun k hk K => ?_) (fun K => ?_) _ (List.length rs) 0 (by omega)) search_pick⟩
    · refine (recs_rd (nx, m, t, gn, rs, s, c, r, z, u) f (nextR (nx, m, t, gn, rs, s, c, r, z, u) k) rs (List.length rs : Int) k K).trans ?_
      have e3 : IntKind.i64.wrap ((k : Int) + 1) = ((k + 1 : Nat) : Int) := by rw [wrap64 (by omega) (by omega)]; omega
      rw [cond_pos (by omega), cond_pos2 (by omega) (by omega), Int.toNat_natCast, ors_bif3, Option.bind_some, e3]
      rfl
    · refine (recs_rd (nx, m, t, gn, rs, s, c, r, z, u) f (nextR (nx, m, t, gn, rs, s, c, r, z, u) (List.length rs)) rs (List.length rs : Int) (List.length rs) K).trans ?_
      rw [cond_neg (by omega)]
      rfl
theorem recs_ev (g : Seg) : evFn (env consE1) H.segs_records (LPof [(3, rcLC)]) F.segs_records [valOf segT g] [] (finT [.bool]) = bif decide (g.fst = g.fst) && decide (g.snd.snd.snd.snd.fst = g.snd.snd.snd.snd.fst) && decide ((↑(List.length g.snd.snd.snd.snd.fst) : Int) = (↑(List.length g.snd.snd.snd.snd.fst) : Int)) && (firstFrom (badRc g) 0 (List.length g.snd.snd.snd.snd.fst)).isSome then some (false, ()) else bif decide (g.fst = g.fst) && decide (g.snd.snd.snd.snd.fst = g.snd.snd.snd.snd.fst) && decide ((↑(List.length g.snd.snd.snd.snd.fst) : Int) = (↑(List.length g.snd.snd.snd.snd.fst) : Int)) && true then some (true, ()) else none := by kernel_rfl

def chainB (g : Seg) : Bool := (firstFrom (badRc g) 0 (List.length g.2.2.2.2.1)).isNone
def caseRecs : PCase := ⟨[.ty segT], [.bool], fun x => (fun (g : Seg) => [(true, (chainB g, ()))]) x.1⟩
theorem recs_val (g : Seg) : evFn (env consE1) H.segs_records (LPof [(3, rcLC)]) F.segs_records [valOf segT g] [] (finT [.bool]) = some (chainB g, ()) := by
  rw [recs_ev]
  unfold chainB
  simp only [decide_true, Bool.true_and, Bool.and_true]
  cases firstFrom (badRc g) 0 (List.length g.2.2.2.2.1) <;> rfl
theorem recs_ok : caseRecs.ok P0 I.segs_records := case_ok2 (H := H.segs_records) (E := env consE1) (env_ok consE1_ok) glob0 mixed0 G.segs_records Bd.segs_records (by kernel_rfl) (loops_good (tab := [(3, rcLC)]) (by kernel_rfl) (fun x hx => by simp at hx; subst hx; exact rc_lok)) fun ⟨g, ()⟩ y h hw => by
  obtain ⟨hc, rfl⟩ := pick_pre h
  exact recs_val g
noncomputable abbrev consE2 : List (FuncId × Con) := [(I.segs_records, .pure (pureOf [caseRecs]))] ++ consE1
theorem consE2_ok : ∀ x ∈ consE2, HoldsC P0 x.1 x.2 := by
  intro x hx
  rcases List.mem_append.1 hx with hx | hx
  · simp at hx
    subst hx
    exact ⟨pureOf_holds (by simp; exact recs_ok), C.segs_records⟩
  · exact consE1_ok x hx
theorem may_ev (g : Seg) (q : Bool) : evFn (env consE2) H.segs_may (LPof []) F.segs_may [valOf segT g, .bool q] [] (finT [.bool]) = Option.bind (bif decide (g.fst < (0 : Int)) then some true else bif decide (g.snd.snd.snd.fst < (0 : Int)) then some true else bif decide (g.snd.snd.snd.snd.snd.snd.snd.snd.fst < (0 : Int)) then some true else bif decide (g.snd.fst < g.fst) then some true else bif decide (g.snd.fst > (1125899906842624 : Int)) then some true else some !chainB g) fun v => bif v then bif v then some (false, ()) else ((Option.bind (bif decide (g.snd.snd.fst < (-1099511627776 : Int)) then some true else some (decide (g.snd.snd.fst > (1099511627776 : Int)))) fun v => some (v, ())).bind fun v => bif v.fst then some (v.fst, ()) else Option.bind (bif q then bif g.snd.snd.fst != (0 : Int) then some true else bif g.snd.snd.snd.snd.snd.snd.fst then some true else some g.snd.snd.snd.snd.snd.snd.snd.fst else some false) fun v => some (v, ())).bind fun v => bif v.fst then some (false, ()) else bif g.snd.snd.snd.snd.snd.snd.snd.fst then some ((↑(List.length g.snd.snd.snd.snd.fst) : Int) == (0 : Int), ()) else Option.bind (bif g.snd.snd.snd.snd.snd.snd.snd.snd.snd == (0 : Int) then bif decide (List.length g.snd.snd.snd.snd.fst ≤ 1000000000) then some (g.snd.snd.snd.snd.snd.snd.snd.snd.fst == (↑(bytS g.snd.snd.snd.snd.fst).length : Int)) else none else some false) fun v => some (v, ()) else bif g.snd.snd.snd.snd.snd.fst == q then bif g.snd.snd.snd.snd.snd.fst == q then some (false, ()) else ((Option.bind (bif decide (g.snd.snd.fst < (-1099511627776 : Int)) then some true else some (decide (g.snd.snd.fst > (1099511627776 : Int)))) fun v => some (v, ())).bind fun v => bif v.fst then some (v.fst, ()) else Option.bind (bif q then bif g.snd.snd.fst != (0 : Int) then some true else bif g.snd.snd.snd.snd.snd.snd.fst then some true else some g.snd.snd.snd.snd.snd.snd.snd.fst else some false) fun v => some (v, ())).bind fun v => bif v.fst then some (false, ()) else bif g.snd.snd.snd.snd.snd.snd.snd.fst then some ((↑(List.length g.snd.snd.snd.snd.fst) : Int) == (0 : Int), ()) else Option.bind (bif g.snd.snd.snd.snd.snd.snd.snd.snd.snd == (0 : Int) then bif decide (List.length g.snd.snd.snd.snd.fst ≤ 1000000000) then some (g.snd.snd.snd.snd.snd.snd.snd.snd.fst == (↑(bytS g.snd.snd.snd.snd.fst).length : Int)) else none else some false) fun v => some (v, ()) else Option.bind (bif g.snd.snd.snd.snd.snd.fst then some (g.snd.fst == g.fst) else some false) fun v => bif v then some (false, ()) else ((Option.bind (bif decide (g.snd.snd.fst < (-1099511627776 : Int)) then some true else some (decide (g.snd.snd.fst > (1099511627776 : Int)))) fun v => some (v, ())).bind fun v => bif v.fst then some (v.fst, ()) else Option.bind (bif q then bif g.snd.snd.fst != (0 : Int) then some true else bif g.snd.snd.snd.snd.snd.snd.fst then some true else some g.snd.snd.snd.snd.snd.snd.snd.fst else some false) fun v => some (v, ())).bind fun v => bif v.fst then some (false, ()) else bif g.snd.snd.snd.snd.snd.snd.snd.fst then some ((↑(List.length g.snd.snd.snd.snd.fst) : Int) == (0 : Int), ()) else Option.bind (bif g.snd.snd.snd.snd.snd.snd.snd.snd.snd == (0 : Int) then bif decide (List.length g.snd.snd.snd.snd.fst ≤ 1000000000) then some (g.snd.snd.snd.snd.snd.snd.snd.snd.fst == (↑(bytS g.snd.snd.snd.snd.fst).length : Int)) else none else some false) fun v => some (v, ()) := by kernel_rfl

def mayB (g : Seg) (q : Bool) : Bool := !(decide (g.1 < 0) || (decide (g.2.2.2.1 < 0) || (decide (g.2.2.2.2.2.2.2.2.1 < 0) || (decide (g.2.1 < g.1) || (decide (g.2.1 > 1125899906842624) || !chainB g))))) &&
  (!(g.2.2.2.2.2.1 == q) && (!(g.2.2.2.2.2.1 && g.2.1 == g.1) && (!(decide (g.2.2.1 < -1099511627776) || decide (g.2.2.1 > 1099511627776)) && (!(q && (g.2.2.1 != 0 || (g.2.2.2.2.2.2.1 || g.2.2.2.2.2.2.2.1))) &&
  (bif g.2.2.2.2.2.2.2.1 then ((List.length g.2.2.2.2.1 : Int) == 0) else g.2.2.2.2.2.2.2.2.2 == 0 && g.2.2.2.2.2.2.2.2.1 == ((bytS g.2.2.2.2.1).length : Int))))))
theorem bool_may (A S T U W Rm Lz Z q : Bool) : (bif A then bif A then some (false, ()) else (bif U then some (U, ()) else some (W, ())).bind (fun v => bif v.1 then some (false, ()) else bif Rm then some (Lz, ()) else some (Z, ())) else bif S then bif S then some (false, ()) else (bif U then some (U, ()) else some (W, ())).bind (fun v => bif v.1 then some (false, ()) else bif Rm then some (Lz, ()) else some (Z, ())) else
    bif T then some (false, ()) else (bif U then some (U, ()) else some (W, ())).bind (fun v => bif v.1 then some (false, ()) else bif Rm then some (Lz, ()) else some (Z, ()))) = some (!A && (!S && (!T && (!U && (!W && (bif Rm then Lz else Z))))), ()) := by
  cases A <;> cases S <;> cases T <;> cases U <;> cases W <;> cases Rm <;> rfl
def caseMay : PCase := ⟨[.ty segT, .ty .bool], [.bool], fun x => (fun (g : Seg) (q : Bool) => [(decide (List.length g.2.2.2.2.1 ≤ 1000000000), (mayB g q, ()))]) x.1 x.2.1⟩
theorem may_val (g : Seg) (q : Bool) (hc : (decide (List.length g.2.2.2.2.1 ≤ 1000000000)) = true) : evFn (env consE2) H.segs_may (LPof []) F.segs_may [valOf segT g, .bool q] [] (finT [.bool]) = some (mayB g q, ()) := by
  rw [may_ev, hc]
  simp only [or_bif, and_bif, Option.bind_some, cond_true]
  exact bool_may _ _ _ _ _ _ _ _ q
theorem may_ok : caseMay.ok P0 I.segs_may := case_ok2 (H := H.segs_may) (E := env consE2) (env_ok consE2_ok) glob0 mixed0 G.segs_may Bd.segs_may (by kernel_rfl) noLoops fun ⟨g, q, ()⟩ y h hw => by
  obtain ⟨hc, rfl⟩ := pick_pre h
  exact may_val g q hc
noncomputable abbrev consE3 : List (FuncId × Con) := [(I.segs_may, .pure (pureOf [caseMay])), (I.segs_all, .pure (pureOf [caseAllv]))] ++ consE2
theorem consE3_ok : ∀ x ∈ consE3, HoldsC P0 x.1 x.2 := by
  intro x hx
  rcases List.mem_append.1 hx with hx | hx
  · simp at hx
    rcases hx with rfl | rfl
    · exact ⟨pureOf_holds (by simp; exact may_ok), C.segs_may⟩
    · exact ⟨pureOf_holds (by simp; exact allv_ok), C.segs_all⟩
  · exact consE2_ok x hx
theorem of_rd {R : Type} (l : List Seg) (p : Bool) (n m i : Int) (K : Ex → St → Option R) : roundK (env consE3) H.segs_Of 0 (LPof []) V.segs_Of_5 L.segs_Of_5 ⟨[(0, .vl segT l), (2, .nilp), (3, .bool p), (4, .int .i64 n), (11, .vl segT l), (12, .int .i64 m), (13, .int .i64 i)], [], 0⟩ K = bif decide (i < m) then bif decide ((0 : Int) ≤ i) && decide (i < (↑l.length : Int)) then Option.bind (bif decide ((l.getD i.toNat segTy.zero).snd.snd.snd.snd.fst.length ≤ 1000000000) then bif !mayB (l.getD i.toNat segTy.zero) (IntKind.i64.wrap (i + (1 : Int)) == n) then some true else bif decide (i > (0 : Int)) then bif decide ((0 : Int) ≤ IntKind.i64.wrap (i - (1 : Int))) && decide (IntKind.i64.wrap (i - (1 : Int)) < (↑l.length : Int)) then bif (l.getD i.toNat segTy.zero).fst != (l.getD (IntKind.i64.wrap (i - (1 : Int))).toNat segTy.zero).snd.fst then some true else bif (l.getD i.toNat segTy.zero).snd.snd.snd.snd.snd.snd.snd.fst then bif decide ((0 : Int) ≤ IntKind.i64.wrap (i - (1 : Int))) && decide (IntKind.i64.wrap (i - (1 : Int)) < (↑l.length : Int)) then some !(l.getD (IntKind.i64.wrap (i - (1 : Int))).toNat segTy.zero).snd.snd.snd.snd.snd.snd.snd.fst else none else some false else none else some false else none) fun v => bif v then K Ex.ret { slots := [(0, AV.vl segTy l), (2, AV.nilp), (3, AV.bool false), (4, AV.int IntKind.i64 n), (11, AV.vl segTy l), (12, AV.int IntKind.i64 m), (13, AV.int IntKind.i64 i)], objs := [], nx := 0 } else K Ex.normal { slots := [(0, AV.vl segTy l), (2, AV.nilp), (3, AV.bool p), (4, AV.int IntKind.i64 n), (11, AV.vl segTy l), (12, AV.int IntKind.i64 m), (13, AV.int IntKind.i64 (IntKind.i64.wrap (i + (1 : Int))))], objs := [], nx := 0 } else none else K (Ex.exit 0) { slots := [(0, AV.vl segTy l), (2, AV.nilp), (3, AV.bool p), (4, AV.int IntKind.i64 n), (11, AV.vl segTy l), (12, AV.int IntKind.i64 m), (13, AV.int IntKind.i64 i)], objs := [], nx := 0 } := by kernel_rfl

theorem rlin_rd {R : Type} (l : List Seg) (f : Bool) (n : Int) (lo : Bool) (i : Int) (g : Seg) (k : Int) (K : Ex → St → Option R) : roundK (env consE1) H.cooperageref10_RightLog 0 (LPof []) V.cooperageref10_RightLog_15 L.cooperageref10_RightLog_15 ⟨[(0, .vl segT l), (2, .bool f), (3, .int .i64 n), (4, .bool lo), (5, .int .i64 i), (6, .ptr 0 (.tl 0) 0), (7, .int .i64 k)], [(0, .arr 10 .bool [] [enc segT g])], 1⟩ K = bif decide (k < (↑(List.length g.snd.snd.snd.snd.fst) : Int)) then bif decide ((0 : Int) ≤ k) && decide (k < (↑(List.length g.snd.snd.snd.snd.fst) : Int)) then Option.bind (bif !recR (List.getD g.snd.snd.snd.snd.fst k.toNat recTy.zero) then some true else bif decide ((List.getD g.snd.snd.snd.snd.fst k.toNat recTy.zero).fst < g.fst) then some true else bif decide ((List.getD g.snd.snd.snd.snd.fst k.toNat recTy.zero).fst ≥ g.snd.fst) then some true else bif decide (k > (0 : Int)) then bif decide ((0 : Int) ≤ IntKind.i64.wrap (k - (1 : Int))) && decide (IntKind.i64.wrap (k - (1 : Int)) < (↑(List.length g.snd.snd.snd.snd.fst) : Int)) then some (decide ((List.getD g.snd.snd.snd.snd.fst k.toNat recTy.zero).fst ≤ (List.getD g.snd.snd.snd.snd.fst (IntKind.i64.wrap (k - (1 : Int))).toNat recTy.zero).fst)) else none else some false) fun v => bif v then K Ex.ret { slots := [(0, AV.vl segTy l), (2, AV.bool false), (3, AV.int IntKind.i64 n), (4, AV.bool lo), (5, AV.int IntKind.i64 i), (6, AV.ptr 0 (Elt.tl 0) 0), (7, AV.int IntKind.i64 k)], objs := [(0, AObj.arr 10 Ty.bool [] [[AV.int IntKind.i64 g.fst, AV.int IntKind.i64 g.snd.fst, AV.int IntKind.i64 g.snd.snd.fst, AV.int IntKind.i64 g.snd.snd.snd.fst, AV.vl recTy g.snd.snd.snd.snd.fst, AV.bool g.snd.snd.snd.snd.snd.fst, AV.bool g.snd.snd.snd.snd.snd.snd.fst, AV.bool g.snd.snd.snd.snd.snd.snd.snd.fst, AV.int IntKind.i64 g.snd.snd.snd.snd.snd.snd.snd.snd.fst, AV.int IntKind.u32 g.snd.snd.snd.snd.snd.snd.snd.snd.snd]])], nx := 1 } else K Ex.normal { slots := [(0, AV.vl segTy l), (2, AV.bool f), (3, AV.int IntKind.i64 n), (4, AV.bool lo), (5, AV.int IntKind.i64 i), (6, AV.ptr 0 (Elt.tl 0) 0), (7, AV.int IntKind.i64 (IntKind.i64.wrap (k + (1 : Int))))], objs := [(0, AObj.arr 10 Ty.bool [] [[AV.int IntKind.i64 g.fst, AV.int IntKind.i64 g.snd.fst, AV.int IntKind.i64 g.snd.snd.fst, AV.int IntKind.i64 g.snd.snd.snd.fst, AV.vl recTy g.snd.snd.snd.snd.fst, AV.bool g.snd.snd.snd.snd.snd.fst, AV.bool g.snd.snd.snd.snd.snd.snd.fst, AV.bool g.snd.snd.snd.snd.snd.snd.snd.fst, AV.int IntKind.i64 g.snd.snd.snd.snd.snd.snd.snd.snd.fst, AV.int IntKind.u32 g.snd.snd.snd.snd.snd.snd.snd.snd.snd]])], nx := 1 } else none else K (Ex.exit 2) { slots := [(0, AV.vl segTy l), (2, AV.bool f), (3, AV.int IntKind.i64 n), (4, AV.bool lo), (5, AV.int IntKind.i64 i), (6, AV.ptr 0 (Elt.tl 0) 0), (7, AV.int IntKind.i64 k)], objs := [(0, AObj.arr 10 Ty.bool [] [[AV.int IntKind.i64 g.fst, AV.int IntKind.i64 g.snd.fst, AV.int IntKind.i64 g.snd.snd.fst, AV.int IntKind.i64 g.snd.snd.snd.fst, AV.vl recTy g.snd.snd.snd.snd.fst, AV.bool g.snd.snd.snd.snd.snd.fst, AV.bool g.snd.snd.snd.snd.snd.snd.fst, AV.bool g.snd.snd.snd.snd.snd.snd.snd.fst, AV.int IntKind.i64 g.snd.snd.snd.snd.snd.snd.snd.snd.fst, AV.int IntKind.u32 g.snd.snd.snd.snd.snd.snd.snd.snd.snd]])], nx := 1 } := by kernel_rfl

end Go.Sim
namespace Go.Sim
set_option linter.unusedSimpArgs false
set_option linter.unusedVariables false
set_option maxRecDepth 10000
instance segDec0 : DecidableEq (Bool × Bool × Bool × Int × Int) := inferInstance
instance segDec1 : DecidableEq (List Rec × Bool × Bool × Bool × Int × Int) := @instDecidableEqProd _ _ recsDec segDec0
instance segDec2 : DecidableEq (Int × Int × List Rec × Bool × Bool × Bool × Int × Int) := @instDecidableEqProd _ _ _ (@instDecidableEqProd _ _ _ segDec1)
instance segDec : DecidableEq Seg := @instDecidableEqProd _ _ _ (@instDecidableEqProd _ _ _ segDec2)
instance segsDec : DecidableEq (List Seg) := @instDecidableEqList Seg segDec
noncomputable abbrev consF0 : List (FuncId × Con) := [(I.cooperageref1_SameRecords, .pure (pureOf [caseSameR]))]
theorem consF0_ok : ∀ x ∈ consF0, HoldsC P0 x.1 x.2 := by
  intro x hx
  simp at hx
  subst hx
  exact ⟨pureOf_holds (by simp; exact rsame_ok), C.cooperageref1_SameRecords⟩
theorem ssame_rd {R : Type} (a b : List Seg) (f : Bool) (i : Int) (K : Ex → St → Option R) : roundK (env consF0) H.cooperageref10_SameSegments 0 (LPof []) V.cooperageref10_SameSegments_4 L.cooperageref10_SameSegments_4 ⟨[(0, .vl segT a), (1, .vl segT b), (4, .bool f), (5, .int .i64 i)], [], 0⟩ K = bif decide (i < (↑a.length : Int)) then bif decide ((0 : Int) ≤ i) && decide (i < (↑a.length : Int)) then bif decide ((0 : Int) ≤ i) && decide (i < (↑b.length : Int)) then Option.bind (bif (a.getD i.toNat segTy.zero).fst != (b.getD i.toNat segTy.zero).fst then some true else bif (a.getD i.toNat segTy.zero).snd.fst != (b.getD i.toNat segTy.zero).snd.fst then some true else bif (a.getD i.toNat segTy.zero).snd.snd.fst != (b.getD i.toNat segTy.zero).snd.snd.fst then some true else bif (a.getD i.toNat segTy.zero).snd.snd.snd.fst != (b.getD i.toNat segTy.zero).snd.snd.snd.fst then some true else bif !decide ((a.getD i.toNat segTy.zero).snd.snd.snd.snd.fst = (b.getD i.toNat segTy.zero).snd.snd.snd.snd.fst) then some true else bif !(a.getD i.toNat segTy.zero).snd.snd.snd.snd.snd.fst == (b.getD i.toNat segTy.zero).snd.snd.snd.snd.snd.fst then some true else bif !(a.getD i.toNat segTy.zero).snd.snd.snd.snd.snd.snd.fst == (b.getD i.toNat segTy.zero).snd.snd.snd.snd.snd.snd.fst then some true else bif !(a.getD i.toNat segTy.zero).snd.snd.snd.snd.snd.snd.snd.fst == (b.getD i.toNat segTy.zero).snd.snd.snd.snd.snd.snd.snd.fst then some true else bif (a.getD i.toNat segTy.zero).snd.snd.snd.snd.snd.snd.snd.snd.fst != (b.getD i.toNat segTy.zero).snd.snd.snd.snd.snd.snd.snd.snd.fst then some true else some ((a.getD i.toNat segTy.zero).snd.snd.snd.snd.snd.snd.snd.snd.snd != (b.getD i.toNat segTy.zero).snd.snd.snd.snd.snd.snd.snd.snd.snd)) fun v => bif v then K Ex.ret { slots := [(0, AV.vl segTy a), (1, AV.vl segTy b), (4, AV.bool false), (5, AV.int IntKind.i64 i)], objs := [], nx := 0 } else K Ex.normal { slots := [(0, AV.vl segTy a), (1, AV.vl segTy b), (4, AV.bool f), (5, AV.int IntKind.i64 (IntKind.i64.wrap (i + (1 : Int))))], objs := [], nx := 0 } else none else none else K (Ex.exit 0) { slots := [(0, AV.vl segTy a), (1, AV.vl segTy b), (4, AV.bool f), (5, AV.int IntKind.i64 i)], objs := [], nx := 0 } := by kernel_rfl

def badO (l : List Seg) (i : Nat) : Bool := !mayB (l.getD i segTy.zero) (((i + 1 : Nat) : Int) == (List.length l : Int)) || (decide (i > 0) && ((l.getD i segTy.zero).1 != (l.getD (i - 1) segTy.zero).2.1 || ((l.getD i segTy.zero).2.2.2.2.2.2.2.1 && !(l.getD (i - 1) segTy.zero).2.2.2.2.2.2.2.1)))
def ofSt (l : List Seg) (p : Bool) (i : Nat) : St := ⟨[(0, .vl segT l), (2, .nilp), (3, .bool p), (4, .int .i64 l.length), (11, .vl segT l), (12, .int .i64 l.length), (13, .int .i64 i)], [], 0⟩
abbrev ofLC : LoopC := LoopC.of ⟨[(0, .vl segT), (2, .lit .nilp), (3, .bool), (4, .int .i64), (11, .vl segT), (12, .int .i64), (13, .int .i64)], []⟩
  (fun ⟨⟨l, _, p, n, l2, m, i, _⟩, _⟩ => decide (i = (0 : Int)) && decide (l2 = l) && decide (n = (List.length l : Int)) && decide (m = (List.length l : Int)) && smallL l)
  fun ⟨⟨l, _, p, n, l2, m, i, _⟩, _⟩ => [((firstFrom (badO l) 0 (List.length l)).isSome, .ret, ofSt l false ((firstFrom (badO l) 0 (List.length l)).getD 0)), (true, .exit 0, ofSt l p (List.length l))]
theorem of_lok : LoopOK P0 H.segs_Of 0 L.segs_Of_5 ofLC :=
  loop_ok_of (env_ok consE3_ok) glob0 mixed0 noLoops V.segs_Of_5 (by decide) fun ⟨⟨l, _, p, n, l2, m, i, _⟩, _⟩ h hw => by
    simp only [Bool.and_eq_true, decide_eq_true_eq, smallL] at h
    obtain ⟨⟨⟨⟨rfl, rfl⟩, rfl⟩, rfl⟩, h5, h6⟩ := h
    have h5 : List.length l2 ≤ 1000000000 := h5
    refine ⟨_, Eq.trans (search_rounds (S := ofSt l2 p) (T := ofSt l2 false) (p := badO l2) (n := List.length l2) (e1 := .ret) (e2 := .exit 0) (s2 := ofSt l2 p (List.length l2)) (by simp) (by simp) (fun k hk K => ?_) (fun K => ?_) _ (List.length l2) 0 (by omega)) search_pick⟩
    · refine (of_rd l2 p (List.length l2 : Int) (List.length l2 : Int) k K).trans ?_
      have e3 : IntKind.i64.wrap ((k : Int) + 1) = ((k + 1 : Nat) : Int) := by rw [wrap64 (by omega) (by omega)]; omega
      have hs := small_at h6 hk
      rw [cond_pos (by omega), cond_pos2 (by omega) (by omega), Int.toNat_natCast, e3, cond_pos hs]
      have e : (bif !mayB (l2.getD k segTy.zero) (((k + 1 : Nat) : Int) == (List.length l2 : Int)) then some true else bif decide ((k : Int) > 0) then bif decide ((0 : Int) ≤ IntKind.i64.wrap ((k : Int) - 1)) && decide (IntKind.i64.wrap ((k : Int) - 1) < (List.length l2 : Int)) then
          bif (l2.getD k segTy.zero).1 != (l2.getD (IntKind.i64.wrap ((k : Int) - 1)).toNat segTy.zero).2.1 then some true else bif (l2.getD k segTy.zero).2.2.2.2.2.2.2.1 then bif decide ((0 : Int) ≤ IntKind.i64.wrap ((k : Int) - 1)) && decide (IntKind.i64.wrap ((k : Int) - 1) < (List.length l2 : Int)) then
          some !(l2.getD (IntKind.i64.wrap ((k : Int) - 1)).toNat segTy.zero).2.2.2.2.2.2.2.1 else none else some false else none else some false) = some (badO l2 k) := by
        unfold badO
        by_cases h0 : k > 0
        · have w : IntKind.i64.wrap ((k : Int) - 1) = ((k - 1 : Nat) : Int) := by rw [wrap64 (by omega) (by omega)]; omega
          rw [w, Int.toNat_natCast, cond_pos (show (k : Int) > 0 by omega), cond_pos2 (by omega) (by omega), cond_pos2 (by omega) (by omega), and_bif, or_bif, or_bif, decide_eq_true h0, Bool.true_and]
        · rw [cond_neg (show ¬ (k : Int) > 0 by omega), or_bif, decide_eq_false h0, Bool.false_and]
      rw [e, Option.bind_some]
      rfl
    · refine (of_rd l2 p (List.length l2 : Int) (List.length l2 : Int) (List.length l2 : Nat) K).trans ?_
      rw [cond_neg (by omega)]
      rfl
theorem ofn_ev (l : List Seg) : evFn (env consE3) H.segs_Of (LPof [(5, ofLC)]) F.segs_Of [.vl segT l] [] (finV (.tup [.lit .nilp, .lit (.bool false)]) [] 0) = bif (↑l.length : Int) == (0 : Int) then some (((), (), ()), ()) else bif decide (l = l) && decide ((↑l.length : Int) = (↑l.length : Int)) && decide ((↑l.length : Int) = (↑l.length : Int)) && smallL l && (firstFrom (badO l) 0 l.length).isSome then some (((), (), ()), ()) else bif decide (l = l) && decide ((↑l.length : Int) = (↑l.length : Int)) && decide ((↑l.length : Int) = (↑l.length : Int)) && smallL l && true then bif smallL l then none else none else none := by kernel_rfl

theorem ofy_ev (l : List Seg) : evFn (env consE3) H.segs_Of (LPof [(5, ofLC)]) F.segs_Of [.vl segT l] [] (finV (.tup [.lit (.ptr 0 (.tl 0) 0), .lit (.bool true)]) [.box 1 [[.vl segT]]] 0) = bif (↑l.length : Int) == (0 : Int) then none else bif decide (l = l) && decide ((↑l.length : Int) = (↑l.length : Int)) && decide ((↑l.length : Int) = (↑l.length : Int)) && smallL l && (firstFrom (badO l) 0 l.length).isSome then none else bif decide (l = l) && decide ((↑l.length : Int) = (↑l.length : Int)) && decide ((↑l.length : Int) = (↑l.length : Int)) && smallL l && true then bif smallL l then some (((), (), ()), ((l, ()), ()), ()) else none else none := by kernel_rfl

def badRr (g : Seg) (k : Nat) : Bool := !recR (g.2.2.2.2.1.getD k recTy.zero) || (decide ((g.2.2.2.2.1.getD k recTy.zero).1 < g.1) || (decide ((g.2.2.2.2.1.getD k recTy.zero).1 ≥ g.2.1) || (decide (k > 0) && decide ((g.2.2.2.2.1.getD k recTy.zero).1 ≤ (g.2.2.2.2.1.getD (k - 1) recTy.zero).1))))
def rlSt (l : List Seg) (f : Bool) (n : Int) (lo : Bool) (i : Int) (g : Seg) (k : Nat) : St := ⟨[(0, .vl segT l), (2, .bool f), (3, .int .i64 n), (4, .bool lo), (5, .int .i64 i), (6, .ptr 0 (.tl 0) 0), (7, .int .i64 k)], [(0, .arr 10 .bool [] [enc segT g])], 1⟩
abbrev rlLC : LoopC := LoopC.of ⟨[(0, .vl segT), (2, .bool), (3, .int .i64), (4, .bool), (5, .int .i64), (6, .lit (.ptr 0 (.tl 0) 0)), (7, .int .i64)], [.box 10 [segP]]⟩
  (fun ⟨⟨l, f, n, lo, i, _, k, _⟩, ⟨⟨⟨b, m, t, gn, rs, s, c, r, z, u, _⟩, _⟩, _⟩⟩ => decide (k = (0 : Int)))
  fun ⟨⟨l, f, n, lo, i, _, k, _⟩, ⟨⟨⟨b, m, t, gn, rs, s, c, r, z, u, _⟩, _⟩, _⟩⟩ => [((firstFrom (badRr (b, m, t, gn, rs, s, c, r, z, u)) 0 (List.length rs)).isSome, .ret, rlSt l false n lo i (b, m, t, gn, rs, s, c, r, z, u) ((firstFrom (badRr (b, m, t, gn, rs, s, c, r, z, u)) 0 (List.length rs)).getD 0)),
    (true, .exit 2, rlSt l f n lo i (b, m, t, gn, rs, s, c, r, z, u) (List.length rs))]
theorem rl_lok : LoopOK P0 H.cooperageref10_RightLog 0 L.cooperageref10_RightLog_15 rlLC :=
  loop_ok_of (env_ok consE1_ok) glob0 mixed0 noLoops V.cooperageref10_RightLog_15 (by decide) fun ⟨⟨l, f, n, lo, i, _, k, _⟩, ⟨⟨⟨b, m, t, gn, rs, s, c, r, z, u, _⟩, _⟩, _⟩⟩ h hw => by
    obtain rfl := of_decide_eq_true h
    have hm : List.length rs ≤ maxL := hw.2.1.1.2.2.2.2.1.1
    unfold maxL at hm
    refine ⟨_, Eq.trans (search_rounds (S := rlSt l f n lo i (b, m, t, gn, rs, s, c, r, z, u)) (T := rlSt l false n lo i (b, m, t, gn, rs, s, c, r, z, u)) (p := badRr (b, m, t, gn, rs, s, c, r, z, u)) (n := List.length rs) (e1 := .ret) (e2 := .exit 2) (s2 := rlSt l f n lo i (b, m, t, gn, rs, s, c, r, z, u) (List.length rs)) (by simp) (by simp) (fun k hk K => ?_) (fun K => ?_) _ (List.length rs) 0 (by omega)) search_pick⟩
    · refine (rlin_rd l f n lo i (b, m, t, gn, rs, s, c, r, z, u) k K).trans ?_
      have e3 : IntKind.i64.wrap ((k : Int) + 1) = ((k + 1 : Nat) : Int) := by rw [wrap64 (by omega) (by omega)]; omega
      simp only
      rw [cond_pos (by omega), cond_pos2 (by omega) (by omega), Int.toNat_natCast, e3]
      have e : (bif !recR (List.getD rs k recTy.zero) then some true else bif decide ((List.getD rs k recTy.zero).1 < b) then some true else bif decide ((List.getD rs k recTy.zero).1 ≥ m) then some true else bif decide ((k : Int) > 0) then bif decide ((0 : Int) ≤ IntKind.i64.wrap ((k : Int) - 1)) && decide (IntKind.i64.wrap ((k : Int) - 1) < (List.length rs : Int)) then
          some (decide ((List.getD rs k recTy.zero).1 ≤ (List.getD rs (IntKind.i64.wrap ((k : Int) - 1)).toNat recTy.zero).1)) else none else some false) = some (badRr (b, m, t, gn, rs, s, c, r, z, u) k) := by
        unfold badRr
        by_cases h0 : k > 0
        · have w : IntKind.i64.wrap ((k : Int) - 1) = ((k - 1 : Nat) : Int) := by rw [wrap64 (by omega) (by omega)]; omega
          rw [w, Int.toNat_natCast, cond_pos (show (k : Int) > 0 by omega), cond_pos2 (by omega) (by omega), or_bif, or_bif, or_bif, decide_eq_true h0, Bool.true_and]
        · rw [cond_neg (show ¬ (k : Int) > 0 by omega), or_bif, or_bif, or_bif, decide_eq_false h0, Bool.false_and]
      refine (congrArg (fun o => Option.bind o _) e).trans ?_
      rfl
    · refine (rlin_rd l f n lo i (b, m, t, gn, rs, s, c, r, z, u) (List.length rs : Nat) K).trans ?_
      simp only
      rw [cond_neg (by omega)]
      rfl
noncomputable abbrev consE4 : List (FuncId × Con) := [(I.cooperageref10_time, .pure (pureOf [caseTime10]))] ++ consE1
theorem consE4_ok : ∀ x ∈ consE4, HoldsC P0 x.1 x.2 := by
  intro x hx
  rcases List.mem_append.1 hx with hx | hx
  · simp at hx
    subst hx
    exact ⟨pureOf_holds (by simp; exact time10_ok), C.cooperageref10_time⟩
  · exact consE1_ok x hx
theorem rlout_rd {R : Type} (l : List Seg) (f : Bool) (n : Int) (lo : Bool) (i : Int) (K : Ex → St → Option R) : roundK (env consE4) H.cooperageref10_RightLog 0 (LPof [(15, rlLC)]) V.cooperageref10_RightLog_4 L.cooperageref10_RightLog_4 ⟨[(0, .vl segT l), (2, .bool f), (3, .int .i64 n), (4, .bool lo), (5, .int .i64 i)], [], 0⟩ K = bif decide (i < n) then bif decide ((0 : Int) ≤ i) && decide (i < (↑l.length : Int)) then Option.bind (bif decide ((l.getD i.toNat segTy.zero).fst < (0 : Int)) then some true else bif decide ((l.getD i.toNat segTy.zero).fst > (l.getD i.toNat segTy.zero).snd.fst) then some true else bif decide ((l.getD i.toNat segTy.zero).snd.fst > (1125899906842624 : Int)) then some true else bif decide (i > (0 : Int)) then bif decide ((0 : Int) ≤ IntKind.i64.wrap (i - (1 : Int))) && decide (IntKind.i64.wrap (i - (1 : Int)) < (↑l.length : Int)) then bif (l.getD i.toNat segTy.zero).fst != (l.getD (IntKind.i64.wrap (i - (1 : Int))).toNat segTy.zero).snd.fst then some true else bif decide ((l.getD i.toNat segTy.zero).snd.snd.snd.fst < (0 : Int)) then some true else bif decide ((l.getD i.toNat segTy.zero).snd.snd.snd.snd.snd.snd.snd.snd.fst < (0 : Int)) then some true else some !(decide ((l.getD i.toNat segTy.zero).snd.snd.fst ≥ (-1099511627776 : Int)) && decide ((l.getD i.toNat segTy.zero).snd.snd.fst ≤ (1099511627776 : Int))) else none else bif decide ((l.getD i.toNat segTy.zero).snd.snd.snd.fst < (0 : Int)) then some true else bif decide ((l.getD i.toNat segTy.zero).snd.snd.snd.snd.snd.snd.snd.snd.fst < (0 : Int)) then some true else some !(decide ((l.getD i.toNat segTy.zero).snd.snd.fst ≥ (-1099511627776 : Int)) && decide ((l.getD i.toNat segTy.zero).snd.snd.fst ≤ (1099511627776 : Int)))) fun v => bif v then K Ex.ret { slots := [(0, AV.vl segTy l), (2, AV.bool false), (3, AV.int IntKind.i64 n), (4, AV.bool lo), (5, AV.int IntKind.i64 i)], objs := [], nx := 0 } else Option.bind (bif !(l.getD i.toNat segTy.zero).snd.snd.snd.snd.snd.fst == decide (IntKind.i64.wrap (i + (1 : Int)) < n) then some true else bif (l.getD i.toNat segTy.zero).snd.snd.snd.snd.snd.fst then bif (l.getD i.toNat segTy.zero).fst == (l.getD i.toNat segTy.zero).snd.fst then some true else bif !(l.getD i.toNat segTy.zero).snd.snd.snd.snd.snd.fst then bif (l.getD i.toNat segTy.zero).snd.snd.snd.snd.snd.snd.fst then some true else bif (l.getD i.toNat segTy.zero).snd.snd.snd.snd.snd.snd.snd.fst then some true else some ((l.getD i.toNat segTy.zero).snd.snd.fst != (0 : Int)) else some false else bif !(l.getD i.toNat segTy.zero).snd.snd.snd.snd.snd.fst then bif (l.getD i.toNat segTy.zero).snd.snd.snd.snd.snd.snd.fst then some true else bif (l.getD i.toNat segTy.zero).snd.snd.snd.snd.snd.snd.snd.fst then some true else some ((l.getD i.toNat segTy.zero).snd.snd.fst != (0 : Int)) else some false) fun v => bif v then K Ex.ret { slots := [(0, AV.vl segTy l), (2, AV.bool false), (3, AV.int IntKind.i64 n), (4, AV.bool lo), (5, AV.int IntKind.i64 i)], objs := [], nx := 0 } else Option.bind (bif (l.getD i.toNat segTy.zero).snd.snd.snd.snd.snd.snd.snd.fst then bif lo then some true else bif decide ((↑(List.length (l.getD i.toNat segTy.zero).snd.snd.snd.snd.fst) : Int) > (0 : Int)) then some true else bif !(l.getD i.toNat segTy.zero).snd.snd.snd.snd.snd.snd.snd.fst then bif (l.getD i.toNat segTy.zero).snd.snd.snd.snd.snd.snd.snd.snd.snd != (0 : Int) then some true else bif decide (List.length (l.getD i.toNat segTy.zero).snd.snd.snd.snd.fst ≤ 1000000000) then some ((l.getD i.toNat segTy.zero).snd.snd.snd.snd.snd.snd.snd.snd.fst != (↑(bytS (l.getD i.toNat segTy.zero).snd.snd.snd.snd.fst).length : Int)) else none else some false else bif !(l.getD i.toNat segTy.zero).snd.snd.snd.snd.snd.snd.snd.fst then bif (l.getD i.toNat segTy.zero).snd.snd.snd.snd.snd.snd.snd.snd.snd != (0 : Int) then some true else bif decide (List.length (l.getD i.toNat segTy.zero).snd.snd.snd.snd.fst ≤ 1000000000) then some ((l.getD i.toNat segTy.zero).snd.snd.snd.snd.snd.snd.snd.snd.fst != (↑(bytS (l.getD i.toNat segTy.zero).snd.snd.snd.snd.fst).length : Int)) else none else some false) fun v => bif v then K Ex.ret { slots := [(0, AV.vl segTy l), (2, AV.bool false), (3, AV.int IntKind.i64 n), (4, AV.bool lo), (5, AV.int IntKind.i64 i)], objs := [], nx := 0 } else Option.bind (bif lo then some true else some !(l.getD i.toNat segTy.zero).snd.snd.snd.snd.snd.snd.snd.fst) fun v => bif (firstFrom (badRr (l.getD i.toNat segTy.zero)) 0 (List.length (l.getD i.toNat segTy.zero).snd.snd.snd.snd.fst)).isSome then K Ex.ret { slots := [(0, AV.vl segTy l), (2, AV.bool false), (3, AV.int IntKind.i64 n), (4, AV.bool v), (5, AV.int IntKind.i64 i)], objs := [], nx := 0 } else K Ex.normal { slots := [(0, AV.vl segTy l), (2, AV.bool f), (3, AV.int IntKind.i64 n), (4, AV.bool v), (5, AV.int IntKind.i64 (IntKind.i64.wrap (i + (1 : Int))))], objs := [], nx := 0 } else none else K (Ex.exit 0) { slots := [(0, AV.vl segTy l), (2, AV.bool f), (3, AV.int IntKind.i64 n), (4, AV.bool lo), (5, AV.int IntKind.i64 i)], objs := [], nx := 0 } := by kernel_rfl

def locI (l : List Seg) : Nat → Bool
  | 0 => false
  | i + 1 => locI l i || !(l.getD i segTy.zero).2.2.2.2.2.2.2.1
def cA (l : List Seg) (i : Nat) : Bool := decide ((l.getD i segTy.zero).1 < 0) || (decide ((l.getD i segTy.zero).1 > (l.getD i segTy.zero).2.1) || (decide ((l.getD i segTy.zero).2.1 > 1125899906842624) || ((decide (i > 0) && (l.getD i segTy.zero).1 != (l.getD (i - 1) segTy.zero).2.1) ||
  (decide ((l.getD i segTy.zero).2.2.2.1 < 0) || (decide ((l.getD i segTy.zero).2.2.2.2.2.2.2.2.1 < 0) || !(decide ((l.getD i segTy.zero).2.2.1 ≥ -1099511627776) && decide ((l.getD i segTy.zero).2.2.1 ≤ 1099511627776)))))))
def cB (l : List Seg) (i : Nat) : Bool := (!(l.getD i segTy.zero).2.2.2.2.2.1 == decide (((i + 1 : Nat) : Int) < (List.length l : Int))) || (((l.getD i segTy.zero).2.2.2.2.2.1 && (l.getD i segTy.zero).1 == (l.getD i segTy.zero).2.1) || (!(l.getD i segTy.zero).2.2.2.2.2.1 && ((l.getD i segTy.zero).2.2.2.2.2.2.1 || ((l.getD i segTy.zero).2.2.2.2.2.2.2.1 || (l.getD i segTy.zero).2.2.1 != 0))))
def cC (l : List Seg) (i : Nat) : Bool := ((l.getD i segTy.zero).2.2.2.2.2.2.2.1 && (locI l i || decide ((List.length (l.getD i segTy.zero).2.2.2.2.1 : Int) > 0))) || (!(l.getD i segTy.zero).2.2.2.2.2.2.2.1 && ((l.getD i segTy.zero).2.2.2.2.2.2.2.2.2 != 0 || (l.getD i segTy.zero).2.2.2.2.2.2.2.2.1 != ((bytS (l.getD i segTy.zero).2.2.2.2.1).length : Int)))
def badN (g : Seg) : Bool := (firstFrom (badRr g) 0 (List.length g.2.2.2.2.1)).isSome
def badL (l : List Seg) (i : Nat) : Bool := cA l i || (cB l i || (cC l i || badN (l.getD i segTy.zero)))
def rgSt (l : List Seg) (f : Bool) (lo : Bool) (i : Nat) : St := ⟨[(0, .vl segT l), (2, .bool f), (3, .int .i64 l.length), (4, .bool lo), (5, .int .i64 i)], [], 0⟩
def rgT (l : List Seg) (i : Nat) : St := rgSt l false (bif cA l i || (cB l i || cC l i) then locI l i else locI l (i + 1)) i
theorem rg_round {R : Type} (l : List Seg) (f : Bool) (hl : l.length ≤ 1000000000) (hs : l.all smallS = true) (i : Nat) (hi : i < l.length) (K : Ex → St → Option R) :
    roundK (env consE4) H.cooperageref10_RightLog 0 (LPof [(15, rlLC)]) V.cooperageref10_RightLog_4 L.cooperageref10_RightLog_4 (rgSt l f (locI l i) i) K = bif badL l i then K .ret (rgT l i) else K .normal (rgSt l f (locI l (i + 1)) (i + 1)) := by
  refine (rlout_rd l f (List.length l : Int) (locI l i) i K).trans ?_
  have e3 : IntKind.i64.wrap ((i : Int) + 1) = ((i + 1 : Nat) : Int) := by rw [wrap64 (by omega) (by omega)]; omega
  have hsm := small_at hs hi
  rw [cond_pos (by omega), cond_pos2 (by omega) (by omega), Int.toNat_natCast, e3]
  unfold badL rgT
  have eA : (bif decide ((l.getD i segTy.zero).1 < (0 : Int)) then some true else bif decide ((l.getD i segTy.zero).1 > (l.getD i segTy.zero).2.1) then some true else bif decide ((l.getD i segTy.zero).2.1 > (1125899906842624 : Int)) then some true else bif decide ((i : Int) > (0 : Int)) then bif decide ((0 : Int) ≤ IntKind.i64.wrap ((i : Int) - (1 : Int))) && decide (IntKind.i64.wrap ((i : Int) - (1 : Int)) < (List.length l : Int)) then bif (l.getD i segTy.zero).1 != (l.getD (IntKind.i64.wrap ((i : Int) - (1 : Int))).toNat segTy.zero).2.1 then some true else bif decide ((l.getD i segTy.zero).2.2.2.1 < (0 : Int)) then some true else bif decide ((l.getD i segTy.zero).2.2.2.2.2.2.2.2.1 < (0 : Int)) then some true else some !(decide ((l.getD i segTy.zero).2.2.1 ≥ (-1099511627776 : Int)) && decide ((l.getD i segTy.zero).2.2.1 ≤ (1099511627776 : Int))) else none else bif decide ((l.getD i segTy.zero).2.2.2.1 < (0 : Int)) then some true else bif decide ((l.getD i segTy.zero).2.2.2.2.2.2.2.2.1 < (0 : Int)) then some true else some !(decide ((l.getD i segTy.zero).2.2.1 ≥ (-1099511627776 : Int)) && decide ((l.getD i segTy.zero).2.2.1 ≤ (1099511627776 : Int)))) = some (cA l i) := by
    unfold cA
    by_cases h0 : i > 0
    · have w : IntKind.i64.wrap ((i : Int) - 1) = ((i - 1 : Nat) : Int) := by rw [wrap64 (by omega) (by omega)]; omega
      rw [w, Int.toNat_natCast, cond_pos (show (i : Int) > 0 by omega), cond_pos2 (by omega) (by omega)]
      simp only [or_bif, decide_eq_true h0, Bool.true_and]
    · rw [cond_neg (show ¬ (i : Int) > 0 by omega)]
      simp only [or_bif, decide_eq_false h0, Bool.false_and, Bool.false_or]
  rw [eA, Option.bind_some]
  cases hA : cA l i with
  | true => rfl
  | false =>
  rw [cond_false, Bool.false_or]
  have eB : (bif !(l.getD i segTy.zero).2.2.2.2.2.1 == decide (((i + 1 : Nat) : Int) < (List.length l : Int)) then some true else bif (l.getD i segTy.zero).2.2.2.2.2.1 then bif (l.getD i segTy.zero).1 == (l.getD i segTy.zero).2.1 then some true else bif !(l.getD i segTy.zero).2.2.2.2.2.1 then bif (l.getD i segTy.zero).2.2.2.2.2.2.1 then some true else bif (l.getD i segTy.zero).2.2.2.2.2.2.2.1 then some true else some ((l.getD i segTy.zero).2.2.1 != (0 : Int)) else some false else bif !(l.getD i segTy.zero).2.2.2.2.2.1 then bif (l.getD i segTy.zero).2.2.2.2.2.2.1 then some true else bif (l.getD i segTy.zero).2.2.2.2.2.2.2.1 then some true else some ((l.getD i segTy.zero).2.2.1 != (0 : Int)) else some false) = some (cB l i) := by
    unfold cB
    cases (l.getD i segTy.zero).2.2.2.2.2.1 <;> simp only [or_bif, cond_true, cond_false, Bool.not_true, Bool.not_false, Bool.true_and, Bool.false_and, Bool.or_false, Bool.false_or]
  rw [eB, Option.bind_some]
  cases hB : cB l i with
  | true => rfl
  | false =>
  rw [cond_false, Bool.false_or]
  have eC : (bif (l.getD i segTy.zero).2.2.2.2.2.2.2.1 then bif locI l i then some true else bif decide ((List.length (l.getD i segTy.zero).2.2.2.2.1 : Int) > (0 : Int)) then some true else bif !(l.getD i segTy.zero).2.2.2.2.2.2.2.1 then bif (l.getD i segTy.zero).2.2.2.2.2.2.2.2.2 != (0 : Int) then some true else bif decide (List.length (l.getD i segTy.zero).2.2.2.2.1 ≤ 1000000000) then some ((l.getD i segTy.zero).2.2.2.2.2.2.2.2.1 != ((bytS (l.getD i segTy.zero).2.2.2.2.1).length : Int)) else none else some false else bif !(l.getD i segTy.zero).2.2.2.2.2.2.2.1 then bif (l.getD i segTy.zero).2.2.2.2.2.2.2.2.2 != (0 : Int) then some true else bif decide (List.length (l.getD i segTy.zero).2.2.2.2.1 ≤ 1000000000) then some ((l.getD i segTy.zero).2.2.2.2.2.2.2.2.1 != ((bytS (l.getD i segTy.zero).2.2.2.2.1).length : Int)) else none else some false) = some (cC l i) := by
    unfold cC
    rw [decide_eq_true hsm]
    cases (l.getD i segTy.zero).2.2.2.2.2.2.2.1 <;> simp only [or_bif, cond_true, cond_false, Bool.not_true, Bool.not_false, Bool.true_and, Bool.false_and, Bool.or_false, Bool.false_or]
  rw [eC, Option.bind_some]
  cases hC : cC l i with
  | true => rfl
  | false =>
  rw [cond_false, Bool.false_or, or_bif, Option.bind_some]
  unfold badN
  cases (firstFrom (badRr (l.getD i segTy.zero)) 0 (List.length (l.getD i segTy.zero).2.2.2.2.1)).isSome <;> rfl
abbrev rgLC : LoopC := LoopC.of ⟨[(0, .vl segT), (2, .bool), (3, .int .i64), (4, .bool), (5, .int .i64)], []⟩
  (fun ⟨⟨l, f, n, lo, i, _⟩, _⟩ => decide (i = (0 : Int)) && decide (n = (List.length l : Int)) && !lo && smallL l)
  fun ⟨⟨l, f, n, lo, i, _⟩, _⟩ => [((firstFrom (badL l) 0 (List.length l)).isSome, .ret, rgT l ((firstFrom (badL l) 0 (List.length l)).getD 0)), (true, .exit 0, rgSt l f (locI l (List.length l)) (List.length l))]
theorem rg_lok : LoopOK P0 H.cooperageref10_RightLog 0 L.cooperageref10_RightLog_4 rgLC :=
  loop_ok_of (env_ok consE4_ok) glob0 mixed0 (loops_good (tab := [(15, rlLC)]) (by kernel_rfl) (fun x hx => by simp at hx; subst hx; exact rl_lok)) V.cooperageref10_RightLog_4 (by decide) fun ⟨⟨l, f, n, lo, i, _⟩, _⟩ h hw => by
    simp only [Bool.and_eq_true, decide_eq_true_eq, smallL, Bool.not_eq_true'] at h
    obtain ⟨⟨⟨rfl, rfl⟩, rfl⟩, h5, h6⟩ := h
    have h5 : List.length l ≤ 1000000000 := h5
    refine ⟨_, Eq.trans (search_rounds (S := fun i => rgSt l f (locI l i) i) (T := rgT l) (p := badL l) (n := List.length l) (e1 := .ret) (e2 := .exit 0) (s2 := rgSt l f (locI l (List.length l)) (List.length l)) (by simp) (by simp) (fun k hk K => rg_round l f h5 h6 k hk K) (fun K => ?_) _ (List.length l) 0 (by omega)) search_pick⟩
    refine (rlout_rd l f (List.length l : Int) (locI l (List.length l)) (List.length l : Nat) K).trans ?_
    rw [cond_neg (by omega)]
    rfl
theorem rlog_ev (l : List Seg) : evFn (env consE4) H.cooperageref10_RightLog (LPof [(4, rgLC), (15, rlLC)]) F.cooperageref10_RightLog [.vl segT l] [] (finT [.bool]) = bif decide ((↑l.length : Int) = (↑l.length : Int)) && true && smallL l && (firstFrom (badL l) 0 l.length).isSome then some (false, ()) else bif decide ((↑l.length : Int) = (↑l.length : Int)) && true && smallL l && true then some (decide ((↑l.length : Int) > (0 : Int)), ()) else none := by kernel_rfl

end Go.Sim
namespace Go.Sim
set_option linter.unusedSimpArgs false
set_option linter.unusedVariables false
set_option maxRecDepth 10000
def rightO (l : List Seg) : Bool := decide (0 < List.length l) && (firstFrom (badO l) 0 (List.length l)).isNone
def rightB (l : List Seg) : Bool := decide (0 < List.length l) && (firstFrom (badL l) 0 (List.length l)).isNone
theorem ff_eq {p q : Nat → Bool} : ∀ (m i : Nat), (∀ j, j < i → p j = false) → (∀ j, j < i → q j = false) → (∀ k, k < i + m → (∀ j, j < k → p j = false) → (∀ j, j < k → q j = false) → p k = q k) → firstFrom p i m = firstFrom q i m
  | 0, i, _, _, _ => rfl
  | m + 1, i, hp, hq, h => by
    have e := h i (by omega) hp hq
    simp only [firstFrom]
    rw [e]
    cases hb : q i with
    | true => rfl
    | false =>
      exact ff_eq m (i + 1) (fun j hj => by
        rcases Nat.lt_or_ge j i with h1 | h1
        · exact hp j h1
        · rw [show j = i by omega, e, hb]) (fun j hj => by
        rcases Nat.lt_or_ge j i with h1 | h1
        · exact hq j h1
        · rw [show j = i by omega, hb]) (fun k hk => h k (by omega))
theorem chain_eq (g : Seg) : chainB g = !badN g := by
  have key : firstFrom (badRc g) 0 (List.length g.2.2.2.2.1) = firstFrom (badRr g) 0 (List.length g.2.2.2.2.1) := ff_eq _ 0 (fun j hj => by omega) (fun j hj => by omega) fun k hk hp hq => by
    unfold badRc badRr
    cases k with
    | zero => simp [nextR]
    | succ k =>
      have h1 := hq k (by omega)
      unfold badRr at h1
      simp only [Bool.or_eq_false_iff, Bool.not_eq_false', decide_eq_false_iff_not] at h1
      obtain ⟨r1, r2, r3, _⟩ := h1
      have hr : (g.2.2.2.2.1.getD k recTy.zero).1 ≥ 0 ∧ (g.2.2.2.2.1.getD k recTy.zero).1 ≤ 1125899906842624 := by
        unfold recR at r1
        simp only [Bool.and_eq_true, decide_eq_true_eq] at r1
        exact ⟨r1.1, r1.2.1⟩
      have e : nextR g (k + 1) = (g.2.2.2.2.1.getD k recTy.zero).1 + 1 := wrap64 (by omega) (by omega)
      rw [e]
      cases recR (g.2.2.2.2.1.getD (k + 1) recTy.zero) with
      | false => rfl
      | true =>
        simp only [Bool.not_true, Bool.false_or, Nat.add_sub_cancel, show k + 1 > 0 from Nat.succ_pos _, decide_true, Bool.true_and]
        apply Bool.eq_iff_iff.2
        simp only [Bool.or_eq_true, decide_eq_true_eq]
        omega
  unfold chainB badN
  rw [key]
  cases firstFrom (badRr g) 0 (List.length g.2.2.2.2.1) <;> rfl
theorem loc_eq {l : List Seg} : ∀ {i : Nat}, (∀ j, j < i → badO l j = false) → locI l i = (decide (i > 0) && !(l.getD (i - 1) segTy.zero).2.2.2.2.2.2.2.1)
  | 0, _ => rfl
  | i + 1, h => by
    have ih := loc_eq (l := l) (i := i) (fun j hj => h j (by omega))
    have hb := h i (by omega)
    show (locI l i || !(l.getD i segTy.zero).2.2.2.2.2.2.2.1) = _
    rw [ih, Nat.add_sub_cancel, decide_eq_true (show i + 1 > 0 by omega), Bool.true_and]
    unfold badO at hb
    simp only [Bool.or_eq_false_iff] at hb
    have hb := hb.2
    cases h0 : decide (i > 0) with
    | false => rfl
    | true =>
      rw [h0, Bool.true_and] at hb
      simp only [Bool.or_eq_false_iff] at hb
      have hb := hb.2
      revert hb
      cases (l.getD i segTy.zero).2.2.2.2.2.2.2.1 <;> cases (l.getD (i - 1) segTy.zero).2.2.2.2.2.2.2.1 <;> simp
theorem bool_log (b0 g0 z0 bn big inn s q nb tl tg tz c r len0 u0 ze ip bp pr tm : Bool) (ht : tm = !(tl || tg)) :
    (!(!(b0 || (g0 || (z0 || (bn || (big || inn))))) && (!(s == q) && (!(s && nb) && (!(tl || tg) && (!(q && (!tz || (c || r))) && (bif r then len0 else u0 && ze)))))) || (ip && (bp || (r && !pr)))) =
    ((b0 || (bn || (big || ((ip && bp) || (g0 || (z0 || !tm)))))) || (((!s == !q) || ((s && nb) || (!s && (c || (r || !tz))))) || (((r && ((ip && !pr) || !len0)) || (!r && (!u0 || !ze))) || inn))) := by
  subst ht
  cases s <;> cases q <;> cases r <;> cases ip <;> cases pr <;> simp [Bool.or_comm, Bool.or_left_comm, Bool.or_assoc]
theorem bad_eq {l : List Seg} {i : Nat} (hi : i < l.length) (h : ∀ j, j < i → badO l j = false) : badO l i = badL l i := by
  have e1 : decide (((i + 1 : Nat) : Int) < (List.length l : Int)) = !(((i + 1 : Nat) : Int) == (List.length l : Int)) := by
    apply Bool.eq_iff_iff.2
    simp only [decide_eq_true_eq, Bool.not_eq_true', beq_eq_false_iff_ne]
    omega
  have e2 : ((l.getD i segTy.zero).1 == (l.getD i segTy.zero).2.1) = ((l.getD i segTy.zero).2.1 == (l.getD i segTy.zero).1) := by
    apply Bool.eq_iff_iff.2
    simp only [beq_iff_eq]
    exact eq_comm
  have e3 : decide ((List.length (l.getD i segTy.zero).2.2.2.2.1 : Int) > 0) = !((List.length (l.getD i segTy.zero).2.2.2.2.1 : Int) == 0) := by
    apply Bool.eq_iff_iff.2
    simp only [decide_eq_true_eq, Bool.not_eq_true', beq_eq_false_iff_ne]
    omega
  have ht : (decide ((l.getD i segTy.zero).2.2.1 ≥ -1099511627776) && decide ((l.getD i segTy.zero).2.2.1 ≤ 1099511627776)) = !(decide ((l.getD i segTy.zero).2.2.1 < -1099511627776) || decide ((l.getD i segTy.zero).2.2.1 > 1099511627776)) := by
    apply Bool.eq_iff_iff.2
    simp only [Bool.and_eq_true, decide_eq_true_eq, Bool.not_eq_true', Bool.or_eq_false_iff, decide_eq_false_iff_not]
    omega
  unfold badO badL mayB cA cB cC
  rw [chain_eq, loc_eq h, Bool.not_not, e1, e2, e3]
  exact bool_log _ _ _ _ _ _ _ (((i + 1 : Nat) : Int) == (List.length l : Int)) _ _ _ ((l.getD i segTy.zero).2.2.1 == 0) _ _ ((List.length (l.getD i segTy.zero).2.2.2.2.1 : Int) == 0) ((l.getD i segTy.zero).2.2.2.2.2.2.2.2.2 == 0) ((l.getD i segTy.zero).2.2.2.2.2.2.2.2.1 == ((bytS (l.getD i segTy.zero).2.2.2.2.1).length : Int)) _ _ _ _ ht
theorem right_eq (l : List Seg) : rightO l = rightB l := by
  have key : firstFrom (badO l) 0 (List.length l) = firstFrom (badL l) 0 (List.length l) := ff_eq _ 0 (fun j hj => by omega) (fun j hj => by omega) fun k hk hp _ => bad_eq (by omega) hp
  unfold rightO rightB
  rw [key]
def caseOfN : VCase := ⟨[.vl segT], [], .tup [.lit .nilp, .lit (.bool false)], [], fun ⟨l, _⟩ _ => [(smallL l && !rightO l, (((), (), ()), ()))]⟩
def caseOfY : VCase := ⟨[.vl segT], [], .tup [.lit (.ptr 0 (.tl 0) 0), .lit (.bool true)], [.box 1 [[.vl segT]]], fun ⟨l, _⟩ _ => [(smallL l && rightO l, (((), (), ()), (((l, ()), ()), ())))]⟩
theorem len0_eq (l : List Seg) : ((List.length l : Int) == 0) = !decide (0 < List.length l) := by
  apply Bool.eq_iff_iff.2
  simp only [beq_iff_eq, Bool.not_eq_true', decide_eq_false_iff_not]
  omega
theorem ofn_ok : caseOfN.e.ok P0 I.segs_Of := vcase_ok (c := caseOfN) (H := H.segs_Of) (E := env consE3) (env_ok consE3_ok) glob0 mixed0 G.segs_Of Bd.segs_Of (by kernel_rfl) (loops_good (tab := [(5, ofLC)]) (by kernel_rfl) (fun x hx => by simp at hx; subst hx; exact of_lok)) fun ⟨l, _⟩ _ r h hw1 hw2 => by
  obtain ⟨hc, rfl⟩ := pick_pre h
  simp only [Bool.and_eq_true] at hc
  refine (ofn_ev l).trans ?_
  have h2 := hc.2
  unfold rightO at h2
  rw [len0_eq, hc.1]
  cases h0 : decide (0 < List.length l) with
  | false => rfl
  | true =>
    rw [h0, Bool.true_and] at h2
    simp only [decide_true, Bool.not_true, cond_false, Bool.true_and]
    cases hf : firstFrom (badO l) 0 (List.length l) with
    | none => rw [hf] at h2; cases h2
    | some j => rfl
theorem ofy_ok : caseOfY.e.ok P0 I.segs_Of := vcase_ok (c := caseOfY) (H := H.segs_Of) (E := env consE3) (env_ok consE3_ok) glob0 mixed0 G.segs_Of Bd.segs_Of (by kernel_rfl) (loops_good (tab := [(5, ofLC)]) (by kernel_rfl) (fun x hx => by simp at hx; subst hx; exact of_lok)) fun ⟨l, _⟩ _ r h hw1 hw2 => by
  obtain ⟨hc, rfl⟩ := pick_pre h
  simp only [Bool.and_eq_true] at hc
  refine (ofy_ev l).trans ?_
  have h2 := hc.2
  unfold rightO at h2
  rw [len0_eq, hc.1]
  cases h0 : decide (0 < List.length l) with
  | false => rw [h0] at h2; cases h2
  | true =>
    rw [h0, Bool.true_and] at h2
    simp only [decide_true, Bool.not_true, cond_false, Bool.true_and]
    cases hf : firstFrom (badO l) 0 (List.length l) with
    | none => rfl
    | some j => rw [hf] at h2; cases h2
theorem pick_or {α : Type} {v : α} : ∀ {a b : List (Bool × α)}, pick (a ++ b) = some v → pick a = some v ∨ pick b = some v
  | [], _, h => .inr h
  | (true, u) :: _, _, h => .inl h
  | (false, u) :: a, b, h => pick_or (a := a) h
def caseOf : ECase := ⟨caseOfN.ins, caseOfN.objs, fun x y => caseOfN.e.f x y ++ caseOfY.e.f x y⟩
theorem of_ok : caseOf.ok P0 I.segs_Of := fun x y r objs' h hw1 hw2 => by
  rcases pick_or h with h | h
  · exact ofn_ok x y r objs' h hw1 hw2
  · exact ofy_ok x y r objs' h hw1 hw2
def caseRlog : PCase := ⟨[.ty (.sl segT)], [.bool], fun x => (fun (l : List Seg) => [(smallL l, (rightB l, ()))]) x.1⟩
theorem rlog_val (l : List Seg) (hc : (smallL l) = true) : evFn (env consE4) H.cooperageref10_RightLog (LPof [(4, rgLC), (15, rlLC)]) F.cooperageref10_RightLog [.vl segT l] [] (finT [.bool]) = some (rightB l, ()) := by
  rw [rlog_ev, hc]
  unfold rightB
  simp only [decide_true, Bool.true_and, Bool.and_true]
  have e : decide ((List.length l : Int) > 0) = decide (0 < List.length l) := by
    apply Bool.eq_iff_iff.2
    simp only [decide_eq_true_eq]
    omega
  rw [e]
  cases firstFrom (badL l) 0 (List.length l) with
  | none => simp
  | some j => simp
theorem rlog_ok : caseRlog.ok P0 I.cooperageref10_RightLog := case_ok2 (H := H.cooperageref10_RightLog) (E := env consE4) (env_ok consE4_ok) glob0 mixed0 G.cooperageref10_RightLog Bd.cooperageref10_RightLog (by kernel_rfl) (loops_good (tab := [(4, rgLC), (15, rlLC)]) (by kernel_rfl) (fun x hx => by simp at hx; rcases hx with rfl | rfl <;> first | exact rg_lok | exact rl_lok)) fun ⟨l, ()⟩ y h hw => by
  obtain ⟨hc, rfl⟩ := pick_pre h
  exact rlog_val l hc
theorem seg_dif (a b : Seg) : (bif a.1 != b.1 then some true else bif a.2.1 != b.2.1 then some true else bif a.2.2.1 != b.2.2.1 then some true else bif a.2.2.2.1 != b.2.2.2.1 then some true else bif !decide (a.2.2.2.2.1 = b.2.2.2.2.1) then some true else bif !a.2.2.2.2.2.1 == b.2.2.2.2.2.1 then some true else bif !a.2.2.2.2.2.2.1 == b.2.2.2.2.2.2.1 then some true else bif !a.2.2.2.2.2.2.2.1 == b.2.2.2.2.2.2.2.1 then some true else bif a.2.2.2.2.2.2.2.2.1 != b.2.2.2.2.2.2.2.2.1 then some true else some (a.2.2.2.2.2.2.2.2.2 != b.2.2.2.2.2.2.2.2.2)) = some !decide (a = b) := by
  obtain ⟨a1, a2, a3, a4, a5, a6, a7, a8, a9, a10⟩ := a
  obtain ⟨b1, b2, b3, b4, b5, b6, b7, b8, b9, b10⟩ := b
  simp only [or_bif]
  congr 1
  rw [Bool.eq_iff_iff]
  simp only [Bool.or_eq_true, bne_iff_ne, ne_eq, Bool.not_eq_true', decide_eq_false_iff_not, beq_eq_false_iff_ne, Prod.mk.injEq]
  constructor
  · intro h
    rintro ⟨h1, h2, h3, h4, h5, h6, h7, h8, h9, h10⟩
    subst h1; subst h2; subst h3; subst h4; subst h5; subst h6; subst h7; subst h8; subst h9; subst h10
    simp at h
  · intro h
    by_cases h1 : a1 = b1
    · by_cases h2 : a2 = b2
      · by_cases h3 : a3 = b3
        · by_cases h4 : a4 = b4
          · by_cases h5 : a5 = b5
            · by_cases h6 : a6 = b6
              · by_cases h7 : a7 = b7
                · by_cases h8 : a8 = b8
                  · by_cases h9 : a9 = b9
                    · exact .inr (.inr (.inr (.inr (.inr (.inr (.inr (.inr (.inr fun h10 => h ⟨h1, h2, h3, h4, h5, h6, h7, h8, h9, h10⟩))))))))
                    · exact .inr (.inr (.inr (.inr (.inr (.inr (.inr (.inr (.inl h9))))))))
                  · exact .inr (.inr (.inr (.inr (.inr (.inr (.inr (.inl h8)))))))
                · exact .inr (.inr (.inr (.inr (.inr (.inr (.inl h7))))))
              · exact .inr (.inr (.inr (.inr (.inr (.inl h6)))))
            · exact .inr (.inr (.inr (.inr (.inl h5))))
          · exact .inr (.inr (.inr (.inl h4)))
        · exact .inr (.inr (.inl h3))
      · exact .inr (.inl h2)
    · exact .inl h1
def difS (a b : List Seg) (i : Nat) : Bool := !(decide (a.getD i segTy.zero = b.getD i segTy.zero))
def smSt (a b : List Seg) (f : Bool) (i : Nat) : St := ⟨[(0, .vl segT a), (1, .vl segT b), (4, .bool f), (5, .int .i64 i)], [], 0⟩
abbrev smLC : LoopC := LoopC.of ⟨[(0, .vl segT), (1, .vl segT), (4, .bool), (5, .int .i64)], []⟩ (fun x => decide (List.length x.1.2.1 = List.length x.1.1) && decide (x.1.2.2.2.1 = (0 : Int)))
    fun x => [((firstFrom (difS x.1.1 x.1.2.1) 0 (List.length x.1.1)).isSome, .ret, smSt x.1.1 x.1.2.1 false ((firstFrom (difS x.1.1 x.1.2.1) 0 (List.length x.1.1)).getD 0)), (true, .exit 0, smSt x.1.1 x.1.2.1 x.1.2.2.1 (List.length x.1.1))]
theorem sm_lok : LoopOK P0 H.cooperageref10_SameSegments 0 L.cooperageref10_SameSegments_4 smLC :=
  loop_ok_of (env_ok consF0_ok) glob0 mixed0 noLoops V.cooperageref10_SameSegments_4 (by decide) fun ⟨⟨a, b, f, i, _⟩, _⟩ h hw => by
    simp only [Bool.and_eq_true, decide_eq_true_eq] at h
    obtain ⟨h1, h2⟩ := h
    subst h2
    have hm : List.length a ≤ maxL := hw.1.1.1
    unfold maxL at hm
    refine ⟨_, Eq.trans (search_rounds (S := smSt a b f) (T := smSt a b false) (p := difS a b) (n := List.length a) (e1 := .ret) (e2 := .exit 0) (s2 := smSt a b f (List.length a)) (by simp) (by simp) (fun i hi K => ?_) (fun K => ?_) _ (List.length a) 0 (by omega)) search_pick⟩
    · refine (ssame_rd a b f i K).trans ?_
      rw [cond_pos (by omega), cond_pos2 (by omega) (by omega), cond_pos2 (by omega) (by omega), Int.toNat_natCast, seg_dif, wrap64 (by omega) (by omega)]
      rfl
    · refine (ssame_rd a b f (List.length a : Nat) K).trans ?_
      rw [cond_neg (by omega)]
      rfl
theorem ssame_ev (a b : List Seg) : evFn (env consF0) H.cooperageref10_SameSegments (LPof [(4, smLC)]) F.cooperageref10_SameSegments [.vl segT a, .vl segT b] [] (finT [.bool]) = bif (↑a.length : Int) != (↑b.length : Int) then some (false, ()) else bif decide (b.length = a.length) && true && (firstFrom (difS a b) 0 a.length).isSome then some (false, ()) else bif decide (b.length = a.length) && true && true then some (true, ()) else none := by kernel_rfl

def caseSsame : PCase := ⟨[.ty (.sl segT), .ty (.sl segT)], [.bool], fun x => (fun (a b : List Seg) => [(true, (decide (a = b), ()))]) x.1 x.2.1⟩
theorem ssame_val (a b : List Seg) : evFn (env consF0) H.cooperageref10_SameSegments (LPof [(4, smLC)]) F.cooperageref10_SameSegments [.vl segT a, .vl segT b] [] (finT [.bool]) = some (decide (a = b), ()) := by
  rw [ssame_ev]
  by_cases h : b.length = a.length
  · have h1 : ((a.length : Int) != (b.length : Int)) = false := by simp; omega
    have := firstFrom_eq (q := fun a b => decide (a = b)) (fun _ _ => rfl) segTy.zero h
    unfold difS
    rw [h1, this, decide_eq_true h]
    cases decide (a = b) <;> rfl
  · have h1 : ((a.length : Int) != (b.length : Int)) = true := by simp; omega
    have h2 : a ≠ b := fun e => h (by rw [e])
    rw [h1, decide_eq_false h2]; rfl
theorem ssame_ok : caseSsame.ok P0 I.cooperageref10_SameSegments := case_ok2 (H := H.cooperageref10_SameSegments) (E := env consF0) (env_ok consF0_ok) glob0 mixed0 G.cooperageref10_SameSegments Bd.cooperageref10_SameSegments (by kernel_rfl) (loops_good (tab := [(4, smLC)]) (by kernel_rfl) (fun x hx => by simp at hx; subst hx; exact sm_lok)) fun ⟨a, b, ()⟩ y h hw => by
  obtain ⟨hc, rfl⟩ := pick_pre h
  exact ssame_val a b
end Go.Sim
namespace Go.Sim
set_option linter.unusedSimpArgs false
set_option linter.unusedVariables false
set_option maxRecDepth 10000
def longQ (l : List Rec) (i : Nat) : Bool := decide (((List.length (l.getD i recTy.zero).2.2.1 : Nat) : Int) > 250) || decide (((List.length (l.getD i recTy.zero).2.2.2.1 : Nat) : Int) > 300)
def b8St (l : List Rec) (f : Bool) (i : Nat) : St := ⟨[(0, .vl recT l), (2, .bool f), (3, .int .i64 i)], [], 0⟩
abbrev b8LC : LoopC := LoopC.of ⟨[(0, .vl recT), (2, .bool), (3, .int .i64)], []⟩ (fun x => decide (x.1.2.2.1 = (0 : Int)))
    fun x => [((firstFrom (longQ x.1.1) 0 (List.length x.1.1)).isSome, .ret, b8St x.1.1 true ((firstFrom (longQ x.1.1) 0 (List.length x.1.1)).getD 0)), (true, .exit 0, b8St x.1.1 x.1.2.1 (List.length x.1.1))]
theorem b8_lok : LoopOK P0 H.cooperagelaw8_Big 0 L.cooperagelaw8_Big_2 b8LC :=
  loop_ok_of (env_ok env_nil) glob0 mixed0 noLoops V.cooperagelaw8_Big_2 (by decide) fun ⟨⟨l, f, i, _⟩, _⟩ h hw => by
    obtain rfl := of_decide_eq_true h
    have hm : List.length l ≤ maxL := hw.1.1.1
    unfold maxL at hm
    refine ⟨_, Eq.trans (search_rounds (S := b8St l f) (T := b8St l true) (p := longQ l) (n := List.length l) (e1 := .ret) (e2 := .exit 0) (s2 := b8St l f (List.length l)) (by simp) (by simp) (fun i hi K => ?_) (fun K => ?_) _ (List.length l) 0 (by omega)) search_pick⟩
    · refine (big8_rd l f i K).trans ?_
      rw [cond_pos (by omega), cond_pos2 (by omega) (by omega), cond_pos2 (by omega) (by omega), Int.toNat_natCast, or_bif, wrap64 (by omega) (by omega)]
      rfl
    · refine (big8_rd l f (List.length l : Nat) K).trans ?_
      rw [cond_neg (by omega)]
      rfl
theorem big8_ev (l : List Rec) : evFn (env []) H.cooperagelaw8_Big (LPof [(2, b8LC)]) F.cooperagelaw8_Big [.vl recT l] [] (finT [.bool]) = bif (firstFrom (longQ l) 0 l.length).isSome then some (true, ()) else some (decide ((↑l.length : Int) > (60 : Int)), ()) := by kernel_rfl

def big8B (l : List Rec) : Bool := (firstFrom (longQ l) 0 (List.length l)).isSome || decide ((List.length l : Int) > 60)
def caseBig8 : PCase := ⟨[.ty (.sl recT)], [.bool], fun x => (fun (l : List Rec) => [(true, (big8B l, ()))]) x.1⟩
theorem big8_val (l : List Rec) : evFn (env []) H.cooperagelaw8_Big (LPof [(2, b8LC)]) F.cooperagelaw8_Big [.vl recT l] [] (finT [.bool]) = some (big8B l, ()) := by
  rw [big8_ev]
  unfold big8B
  cases firstFrom (longQ l) 0 (List.length l) <;> simp
theorem big8_ok : caseBig8.ok P0 I.cooperagelaw8_Big := case_ok2 (H := H.cooperagelaw8_Big) (E := env []) (env_ok env_nil) glob0 mixed0 G.cooperagelaw8_Big Bd.cooperagelaw8_Big (by kernel_rfl) (loops_good (tab := [(2, b8LC)]) (by kernel_rfl) (fun x hx => by simp at hx; subst hx; exact b8_lok)) fun ⟨l, ()⟩ y h hw => by
  obtain ⟨hc, rfl⟩ := pick_pre h
  exact big8_val l
noncomputable abbrev consG0 : List (FuncId × Con) := [(I.segs_all, .pure (pureOf [caseAllv]))]
theorem consG0_ok : ∀ x ∈ consG0, HoldsC P0 x.1 x.2 := by
  intro x hx
  simp at hx
  subst hx
  exact ⟨pureOf_holds (by simp; exact allv_ok), C.segs_all⟩
theorem segv_ev (l : List Seg) : evFn (env consG0) H.segs_Log_Segments (LPof []) F.segs_Log_Segments [.ptr 0 (.tl 0) 0] [.arr 1 .bool [] [[.vl segT l]]] (finV (.vl segT) [.box 1 [[.vl segT]]] 1) = bif smallL l then some (l, ((l, ()), ()), ()) else none := by kernel_rfl

def caseSegv : VCase := ⟨[.lit (.ptr 0 (.tl 0) 0)], [.box 1 [[.vl segT]]], .vl segT, [.box 1 [[.vl segT]]], fun _ ⟨⟨⟨l, ()⟩, ()⟩, ()⟩ => [(smallL l, (l, ((((l, ()), ()), ()))))]⟩
theorem segv_val (l : List Seg) (hc : (smallL l) = true) : evFn (env consG0) H.segs_Log_Segments (LPof []) F.segs_Log_Segments [.ptr 0 (.tl 0) 0] [.arr 1 .bool [] [[.vl segT l]]] (finV (.vl segT) [.box 1 [[.vl segT]]] 1) = some (l, ((((l, ()), ()), ()))) := by
  rw [segv_ev, hc]; rfl
theorem segv_ok : caseSegv.e.ok P0 I.segs_Log_Segments := vcase_ok (c := caseSegv) (H := H.segs_Log_Segments) (E := env consG0) (env_ok consG0_ok) glob0 mixed0 G.segs_Log_Segments Bd.segs_Log_Segments (by kernel_rfl) noLoops fun _ ⟨⟨⟨l, ()⟩, ()⟩, ()⟩ r h hw1 hw2 => by
  obtain ⟨hc, rfl⟩ := pick_pre h
  exact segv_val l hc
noncomputable abbrev consG1 : List (FuncId × Con) := [(I.cooperagelaw15_alive, .pure (pureOf [caseAlive15])), (I.cooperagelaw8_Big, .pure (pureOf [caseBig8])), (I.cooperageref10_RightLog, .pure (pureOf [caseRlog])), (I.cooperageref10_SameSegments, .pure (pureOf [caseSsame])), (I.segs_Of, .eff (effOf [caseOf])), (I.segs_Log_Segments, .eff (effOf [caseSegv.e]))]
theorem consG1_ok : ∀ x ∈ consG1, HoldsC P0 x.1 x.2 := by
  intro x hx
  simp at hx
  rcases hx with rfl | rfl | rfl | rfl | rfl | rfl
  · exact ⟨pureOf_holds (by simp; exact alive15_ok), C.cooperagelaw15_alive⟩
  · exact ⟨pureOf_holds (by simp; exact big8_ok), C.cooperagelaw8_Big⟩
  · exact ⟨pureOf_holds (by simp; exact rlog_ok), C.cooperageref10_RightLog⟩
  · exact ⟨pureOf_holds (by simp; exact ssame_ok), C.cooperageref10_SameSegments⟩
  · exact ⟨fun args objs r objs2 h _ => effOf_holds (by simp; exact of_ok) args objs r objs2 h, C.segs_Of⟩
  · exact ⟨fun args objs r objs2 h _ => effOf_holds (by simp; exact segv_ok) args objs r objs2 h, C.segs_Log_Segments⟩
def H.sof2 : Hint := { H.cooperagelaw15_SegsOf with join := [(2, 15), (8, 38)] }
theorem sof_rd {R : Type} (l : List Seg) (f : Bool) (i : Int) (K : Ex → St → Option R) : roundK (env consG1) H.sof2 0 (LPof []) V.cooperagelaw15_SegsOf_5 L.cooperagelaw15_SegsOf_5 ⟨[(0, .vl segT l), (2, .bool f), (4, .int .i64 i)], [], 0⟩ K = bif decide (i < (↑l.length : Int)) then bif decide ((0 : Int) ≤ i) && decide (i < (↑l.length : Int)) then Option.bind (bif big8B (l.getD i.toNat segTy.zero).snd.snd.snd.snd.fst then some true else bif decide ((0 : Int) ≤ i) && decide (i < (↑l.length : Int)) then some (decide ((↑(List.length (l.getD i.toNat segTy.zero).snd.snd.snd.snd.fst) : Int) > (12 : Int))) else none) fun v => bif v then K Ex.ret { slots := [(0, AV.vl segTy l), (2, AV.bool true), (4, AV.int IntKind.i64 i)], objs := [], nx := 0 } else K Ex.normal { slots := [(0, AV.vl segTy l), (2, AV.bool f), (4, AV.int IntKind.i64 (IntKind.i64.wrap (i + (1 : Int))))], objs := [], nx := 0 } else none else K (Ex.exit 0) { slots := [(0, AV.vl segTy l), (2, AV.bool f), (4, AV.int IntKind.i64 i)], objs := [], nx := 0 } := by kernel_rfl

def tooQ (l : List Seg) (i : Nat) : Bool := big8B (l.getD i segTy.zero).2.2.2.2.1 || decide ((List.length (l.getD i segTy.zero).2.2.2.2.1 : Int) > 12)
def soSt (l : List Seg) (f : Bool) (i : Nat) : St := ⟨[(0, .vl segT l), (2, .bool f), (4, .int .i64 i)], [], 0⟩
abbrev soLC : LoopC := LoopC.of ⟨[(0, .vl segT), (2, .bool), (4, .int .i64)], []⟩ (fun x => decide (x.1.2.2.1 = (0 : Int)))
    fun x => [((firstFrom (tooQ x.1.1) 0 (List.length x.1.1)).isSome, .ret, soSt x.1.1 true ((firstFrom (tooQ x.1.1) 0 (List.length x.1.1)).getD 0)), (true, .exit 0, soSt x.1.1 x.1.2.1 (List.length x.1.1))]
theorem so_lok : LoopOK P0 H.sof2 0 L.cooperagelaw15_SegsOf_5 soLC :=
  loop_ok_of (env_ok consG1_ok) glob0 mixed0 noLoops V.cooperagelaw15_SegsOf_5 (by decide) fun ⟨⟨l, f, i, _⟩, _⟩ h hw => by
    obtain rfl := of_decide_eq_true h
    have hm : List.length l ≤ maxL := hw.1.1.1
    unfold maxL at hm
    refine ⟨_, Eq.trans (search_rounds (S := soSt l f) (T := soSt l true) (p := tooQ l) (n := List.length l) (e1 := .ret) (e2 := .exit 0) (s2 := soSt l f (List.length l)) (by simp) (by simp) (fun i hi K => ?_) (fun K => ?_) _ (List.length l) 0 (by omega)) search_pick⟩
    · refine (sof_rd l f i K).trans ?_
      rw [cond_pos (by omega), cond_pos2 (by omega) (by omega), Int.toNat_natCast, cond_pos2 (by omega) (by omega), or_bif, wrap64 (by omega) (by omega)]
      rfl
    · refine (sof_rd l f (List.length l : Nat) K).trans ?_
      rw [cond_neg (by omega)]
      rfl
theorem sof_ev (l : List Seg) : evFn (env consG1) H.sof2 (LPof [(5, soLC)]) F.cooperagelaw15_SegsOf [.vl segT l] [] (finT [.bool]) = bif decide ((↑l.length : Int) > (12 : Int)) then some (true, ()) else bif (firstFrom (tooQ l) 0 l.length).isSome then some (true, ()) else bif smallL l && !rightO l then bif smallL l then bif !false == rightB l then some (false, ()) else some (true, ()) else none else bif smallL l && rightO l then bif smallL l then bif !true == rightB l then some (false, ()) else bif smallL l then some (decide (l = l), ()) else none else none else none := by kernel_rfl

theorem small_of {l : List Seg} (h1 : l.length ≤ 12) (h : firstFrom (tooQ l) 0 l.length = none) : smallL l = true := by
  have hn := firstFrom_none h
  unfold smallL
  rw [decide_eq_true (show l.length ≤ 1000000000 by omega), Bool.true_and, List.all_eq_true]
  intro g hg
  obtain ⟨i, hi, rfl⟩ := List.mem_iff_getElem.1 hg
  have := hn i (Nat.zero_le _) (by omega)
  unfold tooQ at this
  rw [List.getD_eq_getElem?_getD, List.getElem?_eq_getElem hi] at this
  simp only [Option.getD_some, Bool.or_eq_false_iff, decide_eq_false_iff_not] at this
  exact decide_eq_true (by omega)
theorem sof_val (l : List Seg) : evFn (env consG1) H.sof2 (LPof [(5, soLC)]) F.cooperagelaw15_SegsOf [.vl segT l] [] (finT [.bool]) = some (true, ()) := by
  rw [sof_ev]
  by_cases h1 : (l.length : Int) > 12
  · rw [cond_pos h1]
  · rw [cond_neg h1]
    cases hf : firstFrom (tooQ l) 0 l.length with
    | some j => rfl
    | none =>
      rw [small_of (by omega) hf, ← right_eq]
      cases rightO l with
      | false => rfl
      | true => simp
def caseSof : PCase := ⟨[.ty (.sl segT)], [.bool], fun x => [(true, (true, ()))]⟩
theorem sof_ok : caseSof.ok P0 I.cooperagelaw15_SegsOf := case_ok2 (H := H.sof2) (E := env consG1) (env_ok consG1_ok) glob0 mixed0 G.cooperagelaw15_SegsOf Bd.cooperagelaw15_SegsOf (by kernel_rfl) (loops_good (tab := [(5, soLC)]) (by kernel_rfl) (fun x hx => by simp at hx; subst hx; exact so_lok)) fun ⟨l, ()⟩ y h hw => by
  obtain ⟨hc, rfl⟩ := pick_pre h
  exact sof_val l
theorem sof_good (x : tysDen [.sl segT]) (hw : tysWf [.sl segT] x) : ∃ o, EffGood P0 I.cooperagelaw15_SegsOf (valsOf [.sl segT] x) [] (.bool true) o := sof_ok x (true, ()) rfl hw
end Go.Sim
