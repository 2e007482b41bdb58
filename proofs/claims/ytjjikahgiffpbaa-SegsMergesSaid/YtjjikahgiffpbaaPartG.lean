/-
  WkUB: the law SegsOf, last part. · WkR4: two segments put together. · WkR5: a log of segments: Merge. · WkR6: walks for SegsMerges. · WkR7: SegsMerges. · WkR8: SegsMerges: what merges leave.
-/
import Derived.Test.YtjjikahgiffpbaaPartF
namespace Go.Sim
set_option linter.unusedSimpArgs false
set_option linter.unusedVariables false
set_option maxRecDepth 10000
def longQ (l : List Rec) (i : Nat) : Bool := decide (((List.length (l.getD i recTy.zero).2.2.1 : Nat) : Int) > 250) || decide (((List.length (l.getD i recTy.zero).2.2.2.1 : Nat) : Int) > 300)
def b8St (l : List Rec) (f : Bool) (i : Nat) : St := ⟨[(0, .vl recT l), (2, .bool f), (3, .int .i64 i)], [], 0⟩
abbrev b8LC : LoopC := LoopC.of ⟨[(0, .vl recT), (2, .bool), (3, .int .i64)], []⟩ (fun x => decide (x.1.2.2.1 = (0 : Int)))
    fun x => [((firstFrom (longQ x.1.1) 0 (List.length x.1.1)).isSome, .ret, b8St x.1.1 true ((firstFrom (longQ x.1.1) 0 (List.length x.1.1)).getD 0)), (true, .exit 0, b8St x.1.1 x.1.2.1 (List.length x.1.1))]
theorem b8_lok : LoopOK P0 H.cooperagelaw8_Big 0 L.cooperagelaw8_Big_2 b8LC :=
  loop_ok_of (env_ok env_nil) glob0 mixed0 noLoops V.cooperagelaw8_Big_2 (by decide) fun ⟨⟨l, f, i, _⟩, _⟩ h hw => by
    obtain rfl := of_decide_eq_true h
    have hm : List.length l ≤ maxL := hw.1.1.1
    unfold maxL at hm
    refine ⟨_, Eq.trans (search_rounds (S := b8St l f) (T := b8St l true) (p := longQ l) (n := List.length l) (e1 := .ret) (e2 := .exit 0) (s2 := b8St l f (List.length l)) (by simp) (by simp) (fun i hi K => ?_) (fun K => ?_) _ (List.length l) 0 (by omega)) search_pick⟩
    · refine (big8_rd l f i K).trans ?_
      rw [cond_pos (by omega), cond_pos2 (by omega) (by omega), cond_pos2 (by omega) (by omega), Int.toNat_natCast, or_bif, wrap64 (by omega) (by omega)]
      rfl
    · refine (big8_rd l f (List.length l : Nat) K).trans ?_
      rw [cond_neg (by omega)]
      rfl
theorem big8_ev (l : List Rec) : evFn (env []) H.cooperagelaw8_Big (LPof [(2, b8LC)]) F.cooperagelaw8_Big [.vl recT l] [] (finT [.bool]) = bif (firstFrom (longQ l) 0 l.length).isSome then some (true, ()) else some (decide ((↑l.length : Int) > (60 : Int)), ()) := by kernel_rfl

def big8B (l : List Rec) : Bool := (firstFrom (longQ l) 0 (List.length l)).isSome || decide ((List.length l : Int) > 60)
def caseBig8 : PCase := ⟨[.ty (.sl recT)], [.bool], fun x => (fun (l : List Rec) => [(true, (big8B l, ()))]) x.1⟩
theorem big8_val (l : List Rec) : evFn (env []) H.cooperagelaw8_Big (LPof [(2, b8LC)]) F.cooperagelaw8_Big [.vl recT l] [] (finT [.bool]) = some (big8B l, ()) := by
  rw [big8_ev]
  unfold big8B
  cases firstFrom (longQ l) 0 (List.length l) <;> simp
theorem big8_ok : caseBig8.ok P0 I.cooperagelaw8_Big := case_ok2 (H := H.cooperagelaw8_Big) (E := env []) (env_ok env_nil) glob0 mixed0 G.cooperagelaw8_Big Bd.cooperagelaw8_Big (by kernel_rfl) (loops_good (tab := [(2, b8LC)]) (by kernel_rfl) (fun x hx => by simp at hx; subst hx; exact b8_lok)) fun ⟨l, ()⟩ y h hw => by
  obtain ⟨hc, rfl⟩ := pick_pre h
  exact big8_val l
noncomputable abbrev consG0 : List (FuncId × Con) := [(I.segs_all, .pure (pureOf [caseAllv]))]
theorem consG0_ok : ∀ x ∈ consG0, HoldsC P0 x.1 x.2 := by
  intro x hx
  simp at hx
  subst hx
  exact ⟨pureOf_holds (by simp; exact allv_ok), C.segs_all⟩
theorem segv_ev (l : List Seg) : evFn (env consG0) H.segs_Log_Segments (LPof []) F.segs_Log_Segments [.ptr 0 (.tl 0) 0] [.arr 1 .bool [] [[.vl segT l]]] (finV (.vl segT) [.box 1 [[.vl segT]]] 1) = bif smallL l then some (l, ((l, ()), ()), ()) else none := by kernel_rfl

def caseSegv : VCase := ⟨[.lit (.ptr 0 (.tl 0) 0)], [.box 1 [[.vl segT]]], .vl segT, [.box 1 [[.vl segT]]], fun _ ⟨⟨⟨l, ()⟩, ()⟩, ()⟩ => [(smallL l, (l, ((((l, ()), ()), ()))))]⟩
theorem segv_val (l : List Seg) (hc : (smallL l) = true) : evFn (env consG0) H.segs_Log_Segments (LPof []) F.segs_Log_Segments [.ptr 0 (.tl 0) 0] [.arr 1 .bool [] [[.vl segT l]]] (finV (.vl segT) [.box 1 [[.vl segT]]] 1) = some (l, ((((l, ()), ()), ()))) := by
  rw [segv_ev, hc]; rfl
theorem segv_ok : caseSegv.e.ok P0 I.segs_Log_Segments := vcase_ok (c := caseSegv) (H := H.segs_Log_Segments) (E := env consG0) (env_ok consG0_ok) glob0 mixed0 G.segs_Log_Segments Bd.segs_Log_Segments (by kernel_rfl) noLoops fun _ ⟨⟨⟨l, ()⟩, ()⟩, ()⟩ r h hw1 hw2 => by
  obtain ⟨hc, rfl⟩ := pick_pre h
  exact segv_val l hc
noncomputable abbrev consG1 : List (FuncId × Con) := [(I.cooperagelaw15_alive, .pure (pureOf [caseAlive15])), (I.cooperagelaw8_Big, .pure (pureOf [caseBig8])), (I.cooperageref10_RightLog, .pure (pureOf [caseRlog])), (I.cooperageref10_SameSegments, .pure (pureOf [caseSsame])), (I.segs_Of, .eff (effOf [caseOf])), (I.segs_Log_Segments, .eff (effOf [caseSegv.e]))]
theorem consG1_ok : ∀ x ∈ consG1, HoldsC P0 x.1 x.2 := by
  intro x hx
  simp at hx
  rcases hx with rfl | rfl | rfl | rfl | rfl | rfl
  · exact ⟨pureOf_holds (by simp; exact alive15_ok), C.cooperagelaw15_alive⟩
  · exact ⟨pureOf_holds (by simp; exact big8_ok), C.cooperagelaw8_Big⟩
  · exact ⟨pureOf_holds (by simp; exact rlog_ok), C.cooperageref10_RightLog⟩
  · exact ⟨pureOf_holds (by simp; exact ssame_ok), C.cooperageref10_SameSegments⟩
  · exact ⟨fun args objs r objs2 h _ => effOf_holds (by simp; exact of_ok) args objs r objs2 h, C.segs_Of⟩
  · exact ⟨fun args objs r objs2 h _ => effOf_holds (by simp; exact segv_ok) args objs r objs2 h, C.segs_Log_Segments⟩
def H.sof2 : Hint := { H.cooperagelaw15_SegsOf with join := [(2, 15), (8, 38)] }
theorem sof_rd {R : Type} (l : List Seg) (f : Bool) (i : Int) (K : Ex → St → Option R) : roundK (env consG1) H.sof2 0 (LPof []) V.cooperagelaw15_SegsOf_5 L.cooperagelaw15_SegsOf_5 ⟨[(0, .vl segT l), (2, .bool f), (4, .int .i64 i)], [], 0⟩ K = bif decide (i < (↑l.length : Int)) then bif decide ((0 : Int) ≤ i) && decide (i < (↑l.length : Int)) then Option.bind (bif big8B (l.getD i.toNat segTy.zero).snd.snd.snd.snd.fst then some true else bif decide ((0 : Int) ≤ i) && decide (i < (↑l.length : Int)) then some (decide ((↑(List.length (l.getD i.toNat segTy.zero).snd.snd.snd.snd.fst) : Int) > (12 : Int))) else none) fun v => bif v then K Ex.ret { slots := [(0, AV.vl segTy l), (2, AV.bool true), (4, AV.int IntKind.i64 i)], objs := [], nx := 0 } else K Ex.normal { slots := [(0, AV.vl segTy l), (2, AV.bool f), (4, AV.int IntKind.i64 (IntKind.i64.wrap (i + (1 : Int))))], objs := [], nx := 0 } else none else K (Ex.exit 0) { slots := [(0, AV.vl segTy l), (2, AV.bool f), (4, AV.int IntKind.i64 i)], objs := [], nx := 0 } := by kernel_rfl

def tooQ (l : List Seg) (i : Nat) : Bool := big8B (l.getD i segTy.zero).2.2.2.2.1 || decide ((List.length (l.getD i segTy.zero).2.2.2.2.1 : Int) > 12)
def soSt (l : List Seg) (f : Bool) (i : Nat) : St := ⟨[(0, .vl segT l), (2, .bool f), (4, .int .i64 i)], [], 0⟩
abbrev soLC : LoopC := LoopC.of ⟨[(0, .vl segT), (2, .bool), (4, .int .i64)], []⟩ (fun x => decide (x.1.2.2.1 = (0 : Int)))
    fun x => [((firstFrom (tooQ x.1.1) 0 (List.length x.1.1)).isSome, .ret, soSt x.1.1 true ((firstFrom (tooQ x.1.1) 0 (List.length x.1.1)).getD 0)), (true, .exit 0, soSt x.1.1 x.1.2.1 (List.length x.1.1))]
theorem so_lok : LoopOK P0 H.sof2 0 L.cooperagelaw15_SegsOf_5 soLC :=
  loop_ok_of (env_ok consG1_ok) glob0 mixed0 noLoops V.cooperagelaw15_SegsOf_5 (by decide) fun ⟨⟨l, f, i, _⟩, _⟩ h hw => by
    obtain rfl := of_decide_eq_true h
    have hm : List.length l ≤ maxL := hw.1.1.1
    unfold maxL at hm
    refine ⟨_, Eq.trans (search_rounds (S := soSt l f) (T := soSt l true) (p := tooQ l) (n := List.length l) (e1 := .ret) (e2 := .exit 0) (s2 := soSt l f (List.length l)) (by simp) (by simp) (fun i hi K => ?_) (fun K => ?_) _ (List.length l) 0 (by omega)) search_pick⟩
    · refine (sof_rd l f i K).trans ?_
      rw [cond_pos (by omega), cond_pos2 (by omega) (by omega), Int.toNat_natCast, cond_pos2 (by omega) (by omega), or_bif, wrap64 (by omega) (by omega)]
      rfl
    · refine (sof_rd l f (List.length l : Nat) K).trans ?_
      rw [cond_neg (by omega)]
      rfl
theorem sof_ev (l : List Seg) : evFn (env consG1) H.sof2 (LPof [(5, soLC)]) F.cooperagelaw15_SegsOf [.vl segT l] [] (finT [.bool]) = bif decide ((↑l.length : Int) > (12 : Int)) then some (true, ()) else bif (firstFrom (tooQ l) 0 l.length).isSome then some (true, ()) else bif smallL l && !rightO l then bif smallL l then bif !false == rightB l then some (false, ()) else some (true, ()) else none else bif smallL l && rightO l then bif smallL l then bif !true == rightB l then some (false, ()) else bif smallL l then some (decide (l = l), ()) else none else none else none := by kernel_rfl

theorem small_of {l : List Seg} (h1 : l.length ≤ 12) (h : firstFrom (tooQ l) 0 l.length = none) : smallL l = true := by
  have hn := firstFrom_none h
  unfold smallL
  rw [decide_eq_true (show l.length ≤ 1000000000 by omega), Bool.true_and, List.all_eq_true]
  intro g hg
  obtain ⟨i, hi, rfl⟩ := List.mem_iff_getElem.1 hg
  have := hn i (Nat.zero_le _) (by omega)
  unfold tooQ at this
  rw [List.getD_eq_getElem?_getD, List.getElem?_eq_getElem hi] at this
  simp only [Option.getD_some, Bool.or_eq_false_iff, decide_eq_false_iff_not] at this
  exact decide_eq_true (by omega)
theorem sof_val (l : List Seg) : evFn (env consG1) H.sof2 (LPof [(5, soLC)]) F.cooperagelaw15_SegsOf [.vl segT l] [] (finT [.bool]) = some (true, ()) := by
  rw [sof_ev]
  by_cases h1 : (l.length : Int) > 12
  · rw [cond_pos h1]
  · rw [cond_neg h1]
    cases hf : firstFrom (tooQ l) 0 l.length with
    | some j => rfl
    | none =>
      rw [small_of (by omega) hf, ← right_eq]
      cases rightO l with
      | false => rfl
      | true => simp
def caseSof : PCase := ⟨[.ty (.sl segT)], [.bool], fun x => [(true, (true, ()))]⟩
theorem sof_ok : caseSof.ok P0 I.cooperagelaw15_SegsOf := case_ok2 (H := H.sof2) (E := env consG1) (env_ok consG1_ok) glob0 mixed0 G.cooperagelaw15_SegsOf Bd.cooperagelaw15_SegsOf (by kernel_rfl) (loops_good (tab := [(5, soLC)]) (by kernel_rfl) (fun x hx => by simp at hx; subst hx; exact so_lok)) fun ⟨l, ()⟩ y h hw => by
  obtain ⟨hc, rfl⟩ := pick_pre h
  exact sof_val l
theorem sof_good (x : tysDen [.sl segT]) (hw : tysWf [.sl segT] x) : ∃ o, EffGood P0 I.cooperagelaw15_SegsOf (valsOf [.sl segT] x) [] (.bool true) o := sof_ok x (true, ()) rfl hw
end Go.Sim
namespace Go.Sim
set_option linter.unusedSimpArgs false
set_option linter.unusedVariables false
set_option maxRecDepth 10000
def caseRepl : VCase := ⟨[.lit (.hw 0), .int .i64, .int .i64, .lit (.hw 2)], [.arr 10 segT [actRP], .log recT, .box 10 [segP]], .lit (.hw 3), [.dead, .log recT, .dead, .arr 10 segT [actRP]],
  fun ⟨_, i, j, _⟩ ⟨⟨f, ⟨b, n, _, _, _, _, _, _, z, _, _⟩, _⟩, rs, ⟨⟨g1, g2, g3, g4, g5, g6, g7, g8, g9, g10, _⟩, _⟩, _⟩ =>
    [(decide ((0 : Int) ≤ i) && decide (j = i + 2) && decide (j ≤ (List.length f : Int)) && decide (List.length f < 1000000000), ((), ((), rs, (), (twoOne f i.toNat (g1, g2, g3, g4, g5, g6, g7, g8, g9, g10), (b, n, (), (), (), (), (), (), z, (), ()), ()), ())))]⟩
theorem replArith {i j : Int} {n : Nat} (h1 : (0 : Int) ≤ i) (h2 : j = i + 2) (h3 : j ≤ (n : Int)) : ∃ k : Nat, i = (k : Int) ∧ j = ((k + 2 : Nat) : Int) ∧ k + 2 ≤ n := ⟨i.toNat, by omega, by omega, by omega⟩
theorem repl_ok : caseRepl.e.ok P0 I.slices_Replace_api_Segment_api_Segment := fun ⟨_, i, j, _, _⟩ ⟨⟨f, ⟨b, n, _, _, _, _, _, _, z, _, _⟩, _⟩, rs, ⟨⟨g1, g2, g3, g4, g5, g6, g7, g8, g9, g10, _⟩, _⟩, _⟩ r objs' hxy hw1 hw2 => by
  obtain ⟨z, hz, e0⟩ := pick_mapAlt hxy
  cases e0
  obtain ⟨hc, rfl⟩ := pick_pre hz
  simp only [Bool.and_eq_true, decide_eq_true_eq] at hc
  obtain ⟨⟨⟨h1, h2⟩, h3⟩, h4⟩ := hc
  obtain ⟨k, rfl, rfl, h5⟩ := replArith h1 h2 h3
  exact repl_eff f b n _ rs (g1, g2, g3, g4, g5, g6, g7, g8, g9, g10) k h5 h4
noncomputable abbrev consR3 : List (FuncId × Con) := [(I.slices_Concat_api_Record_api_Record, .pure (pureOf [caseRconcat]))] ++ consS2
theorem consR3_ok : ∀ x ∈ consR3, HoldsC P0 x.1 x.2 := by
  intro x hx
  rcases List.mem_append.1 hx with hx | hx
  · simp at hx
    subst hx
    exact ⟨pureOf_holds (by simp; exact rconcat_ok), C.slices_Concat_api_Record_api_Record⟩
  · exact consS2_ok x hx
theorem merged_ev (g h : Seg) : evFn (env consR3) H.segs_merged (LPof []) F.segs_merged [valOf segT g, valOf segT h] [] (finT [segT]) = bif rjoinB [g.snd.snd.snd.snd.fst, h.snd.snd.snd.snd.fst] then bif g.snd.snd.snd.snd.snd.snd.fst then bif decide ([g.snd.snd.snd.snd.fst, h.snd.snd.snd.snd.fst].flatten.length ≤ 1000000000) then some ((g.fst, h.snd.fst, bif decide (h.snd.snd.fst > g.snd.snd.fst) then h.snd.snd.fst else g.snd.snd.fst, IntKind.i64.wrap ((bif decide (h.snd.snd.snd.fst > g.snd.snd.snd.fst) then h.snd.snd.snd.fst else g.snd.snd.snd.fst) + (1 : Int)), [g.snd.snd.snd.snd.fst, h.snd.snd.snd.snd.fst].flatten, true, h.snd.snd.snd.snd.snd.snd.fst, false, (↑(bytS [g.snd.snd.snd.snd.fst, h.snd.snd.snd.snd.fst].flatten).length : Int), (0 : Int)), ()) else none else bif decide ([g.snd.snd.snd.snd.fst, h.snd.snd.snd.snd.fst].flatten.length ≤ 1000000000) then some ((g.fst, h.snd.fst, bif decide (h.snd.snd.fst > g.snd.snd.fst) then h.snd.snd.fst else g.snd.snd.fst, IntKind.i64.wrap ((bif decide (h.snd.snd.snd.fst > g.snd.snd.snd.fst) then h.snd.snd.snd.fst else g.snd.snd.snd.fst) + (1 : Int)), [g.snd.snd.snd.snd.fst, h.snd.snd.snd.snd.fst].flatten, true, false, false, (↑(bytS [g.snd.snd.snd.snd.fst, h.snd.snd.snd.snd.fst].flatten).length : Int), (0 : Int)), ()) else none else none := by kernel_rfl
def mxZ (a b : Int) : Int := bif decide (b > a) then b else a
/-- Two segments as one. -/
def merge2 (g h : Seg) : Seg := (g.1, h.2.1, mxZ g.2.2.1 h.2.2.1, mxZ g.2.2.2.1 h.2.2.2.1 + 1, g.2.2.2.2.1 ++ h.2.2.2.2.1, true, g.2.2.2.2.2.2.1 && h.2.2.2.2.2.2.1, false, ((bytS (g.2.2.2.2.1 ++ h.2.2.2.2.1)).length : Int), 0)
def mgB (g h : Seg) : Bool := decide (g.2.2.2.2.1.length + h.2.2.2.2.1.length ≤ 1000000000) && decide (-9000000000000000000 ≤ g.2.2.2.1) && decide (g.2.2.2.1 ≤ 9000000000000000000) && decide (-9000000000000000000 ≤ h.2.2.2.1) && decide (h.2.2.2.1 ≤ 9000000000000000000)
theorem merged_eq (g h : Seg) (hb : mgB g h = true) : evFn (env consR3) H.segs_merged (LPof []) F.segs_merged [valOf segT g, valOf segT h] [] (finT [segT]) = some (merge2 g h, ()) := by
  unfold mgB at hb
  simp only [Bool.and_eq_true, decide_eq_true_eq] at hb
  obtain ⟨⟨⟨⟨h2, h3⟩, h4⟩, h5⟩, h6⟩ := hb
  rw [merged_ev]
  have e1 : rjoinB [g.2.2.2.2.1, h.2.2.2.2.1] = true := by simp [rjoinB, lenR]; omega
  have e2 : [g.2.2.2.2.1, h.2.2.2.2.1].flatten = g.2.2.2.2.1 ++ h.2.2.2.2.1 := by simp
  have e3 : (bif decide (h.2.2.2.1 > g.2.2.2.1) then h.2.2.2.1 else g.2.2.2.1) = mxZ g.2.2.2.1 h.2.2.2.1 := rfl
  have e5 : (bif decide (h.2.2.1 > g.2.2.1) then h.2.2.1 else g.2.2.1) = mxZ g.2.2.1 h.2.2.1 := rfl
  have e4 : IntKind.i64.wrap (mxZ g.2.2.2.1 h.2.2.2.1 + 1) = mxZ g.2.2.2.1 h.2.2.2.1 + 1 := by
    refine wrap64 ?_ ?_ <;> (unfold mxZ; cases decide (h.2.2.2.1 > g.2.2.2.1) <;> simp only [cond_true, cond_false] <;> omega)
  have b3 : decide ((g.2.2.2.2.1 ++ h.2.2.2.2.1).length ≤ 1000000000) = true := decide_eq_true (by simp; omega)
  rw [e1, e2, e3, e4, e5, b3]
  unfold merge2
  cases g.2.2.2.2.2.2.1 <;> rfl
def caseMerged : PCase := ⟨[.ty segT, .ty segT], [segT], fun x => (fun (g k : Seg) => [(mgB g k, (merge2 g k, ()))]) x.1 x.2.1⟩
theorem merged_val (g k : Seg) (hc : (mgB g k) = true) : evFn (env consR3) H.segs_merged (LPof []) F.segs_merged [valOf segT g, valOf segT k] [] (finT [segT]) = some (merge2 g k, ()) := by
  exact merged_eq g k hc
theorem merged_ok : caseMerged.ok P0 I.segs_merged := case_ok2 (H := H.segs_merged) (E := env consR3) (env_ok consR3_ok) glob0 mixed0 G.segs_merged Bd.segs_merged (by kernel_rfl) noLoops fun ⟨g, k, ()⟩ y h hw => by
  obtain ⟨hc, rfl⟩ := pick_pre h
  exact merged_val g k hc
theorem whole_ev (g : Seg) : evFn (env consR3) H.segs_Log_Merge_1 (LPof []) F.segs_Log_Merge_1 [valOf segT g] [] (finT [.bool]) = Option.bind (bif g.snd.snd.snd.snd.snd.fst then some !g.snd.snd.snd.snd.snd.snd.snd.fst else some false) fun v => some (v, ()) := by kernel_rfl
def wholeS (g : Seg) : Bool := g.2.2.2.2.2.1 && !g.2.2.2.2.2.2.2.1
def caseWhole : PCase := ⟨[.ty segT], [.bool], fun x => (fun (g : Seg) => [(true, (wholeS g, ()))]) x.1⟩
theorem whole_val (g : Seg) : evFn (env consR3) H.segs_Log_Merge_1 (LPof []) F.segs_Log_Merge_1 [valOf segT g] [] (finT [.bool]) = some (wholeS g, ()) := by
  rw [whole_ev]; unfold wholeS; cases g.2.2.2.2.2.1 <;> rfl
theorem whole_ok : caseWhole.ok P0 I.segs_Log_Merge_1 := case_ok2 (H := H.segs_Log_Merge_1) (E := env consR3) (env_ok consR3_ok) glob0 mixed0 G.segs_Log_Merge_1 Bd.segs_Log_Merge_1 (by kernel_rfl) noLoops fun ⟨g, ()⟩ y h hw => by
  obtain ⟨hc, rfl⟩ := pick_pre h
  exact whole_val g
noncomputable abbrev consR4 : List (FuncId × Con) := [(I.segs_Log_Merge_1, .pure (pureOf [caseWhole])), (I.segs_merged, .pure (pureOf [caseMerged])), (I.slices_Replace_api_Segment_api_Segment, .eff (effOf [caseRepl.e]))] ++ consR3
theorem consR4_ok : ∀ x ∈ consR4, HoldsC P0 x.1 x.2 := by
  intro x hx
  rcases List.mem_append.1 hx with hx | hx
  · simp at hx
    rcases hx with rfl | rfl | rfl
    · exact ⟨pureOf_holds (by simp; exact whole_ok), C.segs_Log_Merge_1⟩
    · exact ⟨pureOf_holds (by simp; exact merged_ok), C.segs_merged⟩
    · exact ⟨fun args objs r objs2 h _ => effOf_holds (by simp; exact repl_ok) args objs r objs2 h, C.slices_Replace_api_Segment_api_Segment⟩
  · exact consR3_ok x hx
def H.merge2 : Hint := { H.segs_Log_Merge with vs := [] }
theorem merge_rd {R : Type} (most i : Int) (q : Bool) (f : List Seg) (b n z : Int) (rs : List Rec) (K : Ex → St → Option R) : roundK (env consR4) H.merge2 1 (LPof []) V.segs_Log_Merge_3 L.segs_Log_Merge_3 ⟨[(0, .ptr 0 (.tl 0) 0), (1, .int .i64 most), (4, .bool q), (5, .fn (.func I.segs_Log_Merge_1) [] []), (6, .int .i64 i)], [(0, .arr 1 .bool [] [[.hw 1]]), (1, .arr 10 segT f [actC b n z]), (2, .log recT rs)], 3⟩ K = bif decide (IntKind.i64.wrap (i + (1 : Int)) < (↑(f.length + 1) : Int)) then bif decide ((0 : Int) ≤ i) && decide (i < (↑(f.length + 1) : Int)) then bif decide (i.toNat < f.length) then bif decide ((0 : Int) ≤ IntKind.i64.wrap (i + (1 : Int))) && decide (IntKind.i64.wrap (i + (1 : Int)) < (↑(f.length + 1) : Int)) then bif decide ((IntKind.i64.wrap (i + (1 : Int))).toNat < f.length) then Option.bind (bif wholeS (f.getD i.toNat segTy.zero) then bif wholeS (f.getD (IntKind.i64.wrap (i + (1 : Int))).toNat segTy.zero) then some (decide (IntKind.i64.wrap ((↑(List.length (f.getD i.toNat segTy.zero).snd.snd.snd.snd.fst) : Int) + (↑(List.length (f.getD (IntKind.i64.wrap (i + (1 : Int))).toNat segTy.zero).snd.snd.snd.snd.fst) : Int)) ≤ most)) else some false else some false) fun v => bif v then bif mgB (f.getD i.toNat segTy.zero) (f.getD (IntKind.i64.wrap (i + (1 : Int))).toNat segTy.zero) then bif decide ((0 : Int) ≤ i) && decide (IntKind.i64.wrap (i + (2 : Int)) = i + (2 : (Pat.int IntKind.i64).den)) && decide (IntKind.i64.wrap (i + (2 : Int)) ≤ (↑f.length : Int)) && decide (f.length < 1000000000) then K Ex.ret { slots := [(0, AV.ptr 0 (Elt.tl 0) 0), (1, AV.int IntKind.i64 most), (4, AV.bool true), (5, AV.fn (Fn.func 47) [] []), (6, AV.int IntKind.i64 i)], objs := [(0, AObj.arr 1 Ty.bool [] [[AV.hw 1]]), (1, AObj.arr 10 segTy (twoOne f i.toNat (merge2 (f.getD i.toNat segTy.zero) (f.getD (IntKind.i64.wrap (i + (1 : Int))).toNat segTy.zero))) [[AV.int IntKind.i64 b, AV.int IntKind.i64 n, AV.int IntKind.i64 (0 : Int), AV.int IntKind.i64 (0 : Int), AV.hw 2, AV.bool false, AV.bool false, AV.bool false, AV.int IntKind.i64 z, AV.int IntKind.u32 (0 : Int)]]), (2, AObj.log recTy rs)], nx := 3 } else none else none else K Ex.normal { slots := [(0, AV.ptr 0 (Elt.tl 0) 0), (1, AV.int IntKind.i64 most), (4, AV.bool q), (5, AV.fn (Fn.func 47) [] []), (6, AV.int IntKind.i64 (IntKind.i64.wrap (i + (1 : Int))))], objs := [(0, AObj.arr 1 Ty.bool [] [[AV.hw 1]]), (1, AObj.arr 10 segTy f [[AV.int IntKind.i64 b, AV.int IntKind.i64 n, AV.int IntKind.i64 (0 : Int), AV.int IntKind.i64 (0 : Int), AV.hw 2, AV.bool false, AV.bool false, AV.bool false, AV.int IntKind.i64 z, AV.int IntKind.u32 (0 : Int)]]), (2, AObj.log recTy rs)], nx := 3 } else bif decide ((IntKind.i64.wrap (i + (1 : Int))).toNat - f.length = 0) then Option.bind (bif wholeS (f.getD i.toNat segTy.zero) then some false else some false) fun v => bif v then bif mgB (f.getD i.toNat segTy.zero) (b, n, (0 : Int), (0 : Int), rs, false, false, false, z, (0 : Int)) then bif decide ((0 : Int) ≤ i) && decide (IntKind.i64.wrap (i + (2 : Int)) = i + (2 : (Pat.int IntKind.i64).den)) && decide (IntKind.i64.wrap (i + (2 : Int)) ≤ (↑f.length : Int)) && decide (f.length < 1000000000) then K Ex.ret { slots := [(0, AV.ptr 0 (Elt.tl 0) 0), (1, AV.int IntKind.i64 most), (4, AV.bool true), (5, AV.fn (Fn.func 47) [] []), (6, AV.int IntKind.i64 i)], objs := [(0, AObj.arr 1 Ty.bool [] [[AV.hw 1]]), (1, AObj.arr 10 segTy (twoOne f i.toNat (merge2 (f.getD i.toNat segTy.zero) (b, n, (0 : Int), (0 : Int), rs, false, false, false, z, (0 : Int)))) [[AV.int IntKind.i64 b, AV.int IntKind.i64 n, AV.int IntKind.i64 (0 : Int), AV.int IntKind.i64 (0 : Int), AV.hw 2, AV.bool false, AV.bool false, AV.bool false, AV.int IntKind.i64 z, AV.int IntKind.u32 (0 : Int)]]), (2, AObj.log recTy rs)], nx := 3 } else none else none else K Ex.normal { slots := [(0, AV.ptr 0 (Elt.tl 0) 0), (1, AV.int IntKind.i64 most), (4, AV.bool q), (5, AV.fn (Fn.func 47) [] []), (6, AV.int IntKind.i64 (IntKind.i64.wrap (i + (1 : Int))))], objs := [(0, AObj.arr 1 Ty.bool [] [[AV.hw 1]]), (1, AObj.arr 10 segTy f [[AV.int IntKind.i64 b, AV.int IntKind.i64 n, AV.int IntKind.i64 (0 : Int), AV.int IntKind.i64 (0 : Int), AV.hw 2, AV.bool false, AV.bool false, AV.bool false, AV.int IntKind.i64 z, AV.int IntKind.u32 (0 : Int)]]), (2, AObj.log recTy rs)], nx := 3 } else none else none else bif decide (i.toNat - f.length = 0) then bif decide ((0 : Int) ≤ IntKind.i64.wrap (i + (1 : Int))) && decide (IntKind.i64.wrap (i + (1 : Int)) < (↑(f.length + 1) : Int)) then bif decide ((IntKind.i64.wrap (i + (1 : Int))).toNat < f.length) then K Ex.normal { slots := [(0, AV.ptr 0 (Elt.tl 0) 0), (1, AV.int IntKind.i64 most), (4, AV.bool q), (5, AV.fn (Fn.func 47) [] []), (6, AV.int IntKind.i64 (IntKind.i64.wrap (i + (1 : Int))))], objs := [(0, AObj.arr 1 Ty.bool [] [[AV.hw 1]]), (1, AObj.arr 10 segTy f [[AV.int IntKind.i64 b, AV.int IntKind.i64 n, AV.int IntKind.i64 (0 : Int), AV.int IntKind.i64 (0 : Int), AV.hw 2, AV.bool false, AV.bool false, AV.bool false, AV.int IntKind.i64 z, AV.int IntKind.u32 (0 : Int)]]), (2, AObj.log recTy rs)], nx := 3 } else bif decide ((IntKind.i64.wrap (i + (1 : Int))).toNat - f.length = 0) then K Ex.normal { slots := [(0, AV.ptr 0 (Elt.tl 0) 0), (1, AV.int IntKind.i64 most), (4, AV.bool q), (5, AV.fn (Fn.func 47) [] []), (6, AV.int IntKind.i64 (IntKind.i64.wrap (i + (1 : Int))))], objs := [(0, AObj.arr 1 Ty.bool [] [[AV.hw 1]]), (1, AObj.arr 10 segTy f [[AV.int IntKind.i64 b, AV.int IntKind.i64 n, AV.int IntKind.i64 (0 : Int), AV.int IntKind.i64 (0 : Int), AV.hw 2, AV.bool false, AV.bool false, AV.bool false, AV.int IntKind.i64 z, AV.int IntKind.u32 (0 : Int)]]), (2, AObj.log recTy rs)], nx := 3 } else none else none else none else none else K (Ex.exit 0) { slots := [(0, AV.ptr 0 (Elt.tl 0) 0), (1, AV.int IntKind.i64 most), (4, AV.bool q), (5, AV.fn (Fn.func 47) [] []), (6, AV.int IntKind.i64 i)], objs := [(0, AObj.arr 1 Ty.bool [] [[AV.hw 1]]), (1, AObj.arr 10 segTy f [[AV.int IntKind.i64 b, AV.int IntKind.i64 n, AV.int IntKind.i64 (0 : Int), AV.int IntKind.i64 (0 : Int), AV.hw 2, AV.bool false, AV.bool false, AV.bool false, AV.int IntKind.i64 z, AV.int IntKind.u32 (0 : Int)]]), (2, AObj.log recTy rs)], nx := 3 } := by kernel_rfl

end Go.Sim
namespace Go.Sim
set_option linter.unusedSimpArgs false
set_option linter.unusedVariables false
set_option maxRecDepth 10000
def mgP (most : Int) (f : List Seg) (i : Nat) : Bool := decide (i + 1 < f.length) && (wholeS (f.getD i segTy.zero) && (wholeS (f.getD (i + 1) segTy.zero) && decide (((f.getD i segTy.zero).2.2.2.2.1.length : Int) + ((f.getD (i + 1) segTy.zero).2.2.2.2.1.length : Int) ≤ most)))
def mgL (f : List Seg) (i : Nat) : List Seg := twoOne f i (merge2 (f.getD i segTy.zero) (f.getD (i + 1) segTy.zero))
def mgAt (most : Int) (f : List Seg) : Option Nat := firstFrom (mgP most f) 0 f.length
def mergeP (most : Int) (L : LogS) : LogS := (bif (mgAt most L.1).isSome then mgL L.1 ((mgAt most L.1).getD 0) else L.1, L.2)
/-- No generation is near its end. -/
def genB (g : Seg) : Bool := decide (g.2.2.2.2.1.length ≤ 500000000) && decide (-9000000000000000000 ≤ g.2.2.2.1) && decide (g.2.2.2.1 ≤ 9000000000000000000)
theorem genB_mgB {g h : Seg} (hg : genB g = true) (hh : genB h = true) : mgB g h = true := by
  unfold genB at hg hh
  unfold mgB
  simp only [Bool.and_eq_true, decide_eq_true_eq] at hg hh ⊢
  omega
theorem all_getD {p : Seg → Bool} {l : List Seg} (h : l.all p = true) {i : Nat} (hi : i < l.length) : p (l.getD i segTy.zero) = true := by
  rw [List.getD_eq_getElem?_getD, List.getElem?_eq_getElem hi]
  exact List.all_eq_true.1 h _ (List.getElem_mem hi)
def meSt (most : Int) (q : Bool) (L : LogS) (i : Nat) : St := ⟨[(0, .ptr 0 (.tl 0) 0), (1, .int .i64 most), (4, .bool q), (5, .fn (.func I.segs_Log_Merge_1) [] []), (6, .int .i64 i)], logO L, 3⟩
theorem me_step {R : Type} (most : Int) (q : Bool) (M : LogS) (h1 : M.1.length < 1000000000) (h2 : M.1.all genB = true) (i : Nat) (hi : i < M.1.length) (K : Ex → St → Option R) :
    roundK (env consR4) H.merge2 1 (LPof []) V.segs_Log_Merge_3 L.segs_Log_Merge_3 (meSt most q M i) K = bif mgP most M.1 i then K .ret (meSt most true (mgL M.1 i, M.2) i) else K .normal (meSt most q M (i + 1)) := by
  obtain ⟨f, b, n, z, rs⟩ := M
  simp only at h1 h2 hi
  refine (merge_rd _ _ _ _ _ _ _ _ _).trans ?_
  have e1 : IntKind.i64.wrap ((i : Int) + 1) = ((i + 1 : Nat) : Int) := by rw [wrap64 (by omega) (by omega)]; omega
  have e2 : IntKind.i64.wrap ((i : Int) + 2) = ((i + 2 : Nat) : Int) := by rw [wrap64 (by omega) (by omega)]; omega
  simp only
  rw [e1, e2, cond_pos (by omega), cond_pos2 (by omega) (by omega), Int.toNat_natCast, Int.toNat_natCast, cond_pos hi, cond_pos2 (by omega) (by omega)]
  have g1 := all_getD h2 hi
  unfold mgP
  by_cases hj : i + 1 < f.length
  · have g2 := all_getD h2 hj
    have g3 := genB_mgB g1 g2
    have l1 : (f.getD i segTy.zero).2.2.2.2.1.length ≤ 500000000 := by unfold genB at g1; simp only [Bool.and_eq_true, decide_eq_true_eq] at g1; exact g1.1.1
    have l2 : (f.getD (i + 1) segTy.zero).2.2.2.2.1.length ≤ 500000000 := by unfold genB at g2; simp only [Bool.and_eq_true, decide_eq_true_eq] at g2; exact g2.1.1
    have e3 : IntKind.i64.wrap (((f.getD i segTy.zero).2.2.2.2.1.length : Int) + ((f.getD (i + 1) segTy.zero).2.2.2.2.1.length : Int)) = ((f.getD i segTy.zero).2.2.2.2.1.length : Int) + ((f.getD (i + 1) segTy.zero).2.2.2.2.1.length : Int) := wrap64 (by omega) (by omega)
    rw [cond_pos hj, e3, g3, decide_eq_true hj]
    have b1 : decide ((0 : Int) ≤ (i : Int)) = true := decide_eq_true (by omega)
    have b2 : decide (((i + 2 : Nat) : Int) = (i : Int) + (2 : (Pat.int IntKind.i64).den)) = true := decide_eq_true (show ((i + 2 : Nat) : Int) = (i : Int) + (2 : Int) by omega)
    have b3 : decide (((i + 2 : Nat) : Int) ≤ (f.length : Int)) = true := decide_eq_true (by omega)
    have b4 : decide (f.length < 1000000000) = true := decide_eq_true h1
    rw [b1, b2, b3, b4]
    unfold mgL
    cases wholeS (f.getD i segTy.zero) with
    | false => rfl
    | true =>
      cases wholeS (f.getD (i + 1) segTy.zero) with
      | false => rfl
      | true =>
        simp only [Bool.true_and, cond_true, Option.bind_some, Bool.and_self]
        cases decide (((f.getD i segTy.zero).2.2.2.2.1.length : Int) + ((f.getD (i + 1) segTy.zero).2.2.2.2.1.length : Int) ≤ most) <;> rfl
  · rw [cond_neg hj, cond_pos (by omega), decide_eq_false hj]
    cases wholeS (f.getD i segTy.zero) <;> rfl
theorem me_last {R : Type} (most : Int) (q : Bool) (M : LogS) (h1 : M.1.length < 1000000000) (K : Ex → St → Option R) : roundK (env consR4) H.merge2 1 (LPof []) V.segs_Log_Merge_3 L.segs_Log_Merge_3 (meSt most q M M.1.length) K = K (.exit 0) (meSt most q M M.1.length) := by
  obtain ⟨f, b, n, z, rs⟩ := M
  refine (merge_rd _ _ _ _ _ _ _ _ _).trans ?_
  have e1 : IntKind.i64.wrap ((f.length : Int) + 1) = ((f.length + 1 : Nat) : Int) := by rw [wrap64 (by omega) (by simp only at h1; omega)]; omega
  simp only
  rw [e1, cond_neg (by omega)]
  rfl
abbrev meLC : LoopC := LoopC.of ⟨[(0, .lit (.ptr 0 (.tl 0) 0)), (1, .int .i64), (4, .bool), (5, .fn I.segs_Log_Merge_1 []), (6, .int .i64)], logP⟩
  (fun ⟨⟨_, most, q, _, i, _⟩, ⟨_, ⟨f, ⟨b, n, _, _, _, _, _, _, z, _, _⟩, _⟩, rs, _⟩⟩ => decide (i = (0 : Int)) && decide (List.length f < 1000000000) && List.all f genB)
  fun ⟨⟨_, most, q, _, i, _⟩, ⟨_, ⟨f, ⟨b, n, _, _, _, _, _, _, z, _, _⟩, _⟩, rs, _⟩⟩ => [((mgAt most f).isSome, .ret, meSt most true (mgL f ((mgAt most f).getD 0), b, n, z, rs) ((mgAt most f).getD 0)), (true, .exit 0, meSt most q (f, b, n, z, rs) (List.length f))]
theorem me_lok : LoopOK P0 H.merge2 1 L.segs_Log_Merge_3 meLC :=
  loop_ok_of (env_ok consR4_ok) glob0 mixed0 noLoops V.segs_Log_Merge_3 (by decide) fun ⟨⟨_, most, q, _, i, _⟩, ⟨_, ⟨f, ⟨b, n, _, _, _, _, _, _, z, _, _⟩, _⟩, rs, _⟩⟩ h hw => by
    simp only [Bool.and_eq_true, decide_eq_true_eq] at h
    obtain ⟨⟨rfl, h2⟩, h3⟩ := h
    exact ⟨_, Eq.trans (search_rounds (S := meSt most q (f, b, n, z, rs)) (T := fun i => meSt most true (mgL f i, b, n, z, rs) i) (p := mgP most f) (n := List.length f) (e1 := .ret) (e2 := .exit 0) (by simp) (by simp) (fun i hi K => me_step most q (f, b, n, z, rs) h2 h3 i hi K) (fun K => me_last most q (f, b, n, z, rs) h2 K) _ (List.length f) 0 (by omega)) search_pick⟩
theorem merge_ev (most : Int) (f : List Seg) (b n z : Int) (rs : List Rec) : evFnM 1 (env consR4) H.merge2 (LPof [(3, meLC)]) F.segs_Log_Merge [.ptr 0 (.tl 0) 0, .int .i64 most] [.arr 1 .bool [] [[.hw 1]], .arr 10 segT f [actC b n z], .log recT rs] (finVM .bool logQ 1 3) = bif decide (f.length < 1000000000) && f.all genB && (mgAt most f).isSome then some (true, (((), ()), ()), (), (), (mgL f ((mgAt most f).getD 0), (b, n, (), (), (), (), (), (), z, (), ()), ()), rs, ()) else bif decide (f.length < 1000000000) && f.all genB && true then some (false, (((), ()), ()), (), (), (f, (b, n, (), (), (), (), (), (), z, (), ()), ()), rs, ()) else none := by kernel_rfl
def caseMerge : VCase := ⟨[.lit (.ptr 0 (.tl 0) 0), .int .i64], logP, .bool, logQ, fun ⟨_, most, _⟩ ⟨_, ⟨f, ⟨b, n, _, _, _, _, _, _, z, _, _⟩, _⟩, rs, _⟩ => [(decide (List.length f < 1000000000) && List.all f genB, ((mgAt most f).isSome, ((((), ()), ()), (), (), ((mergeP most (f, b, n, z, rs)).1, ((mergeP most (f, b, n, z, rs)).2.1, (mergeP most (f, b, n, z, rs)).2.2.1, (), (), (), (), (), (), (mergeP most (f, b, n, z, rs)).2.2.2.1, (), ()), ()), (mergeP most (f, b, n, z, rs)).2.2.2.2, ())))]⟩
theorem merge_ok : caseMerge.e.ok P0 I.segs_Log_Merge := vcase_okM (c := caseMerge) (H := H.merge2) (E := env consR4) (env_ok consR4_ok) glob0 mixed0 G.segs_Log_Merge Bd.segs_Log_Merge 1 rfl (by kernel_rfl) (loops_good (tab := [(3, meLC)]) (by kernel_rfl) (fun x hx => by simp at hx; subst hx; exact me_lok)) fun ⟨_, most, _⟩ ⟨_, ⟨f, ⟨b, n, _, _, _, _, _, _, z, _, _⟩, _⟩, rs, _⟩ r h hw1 hw2 => by
  obtain ⟨hc, rfl⟩ := pick_pre h
  refine (merge_ev most f b n z rs).trans ?_
  have hc : (decide (List.length f < 1000000000) && List.all f genB) = true := hc
  rw [hc]
  unfold mergeP
  simp only
  cases (mgAt most f).isSome <;> rfl

end Go.Sim
namespace Go.Sim
set_option linter.unusedSimpArgs false
set_option linter.unusedVariables false
set_option maxRecDepth 10000
noncomputable abbrev consM1 : List (FuncId × Con) := [(I.segs_Log_Merge, .eff (effOf [caseMerge.e])), (I.cooperageref10_RightLog, .pure (pureOf [caseRlog])), (I.cooperageref1_SameRecords, .pure (pureOf [caseSameR]))] ++ consD3
theorem consM1_ok : ∀ x ∈ consM1, HoldsC P0 x.1 x.2 := by
  intro x hx
  rcases List.mem_append.1 hx with hx | hx
  · simp at hx
    rcases hx with rfl | rfl | rfl
    · exact ⟨fun args objs r objs2 h _ => effOf_holds (by simp; exact merge_ok) args objs r objs2 h, C.segs_Log_Merge⟩
    · exact ⟨pureOf_holds (by simp; exact rlog_ok), C.cooperageref10_RightLog⟩
    · exact ⟨pureOf_holds (by simp; exact rsame_ok), C.cooperageref1_SameRecords⟩
  · exact consD3_ok x hx
def H.merges2 : Hint := { H.cooperagelaw15_SegsMerges with join := [(2, 32), (29, 114)] }
theorem mm11_rd {R : Type} (sz : List Int) (most i m k : Int) (al : List Rec) (f : List Seg) (b n z : Int) (rs : List Rec) (K : Ex → St → Option R) : roundK (env consM1) H.merges2 0 (LPof []) V.cooperagelaw15_SegsMerges_11 L.cooperagelaw15_SegsMerges_11 ⟨[(0, .vl (.int .i64) sz), (1, .int .i64 most), (6, .ptr 0 (.tl 0) 0), (7, .hw 3), (8, .int .i64 i), (9, .int .i64 m), (10, .int .i64 k)], [(0, .arr 1 .bool [] [[.hw 1]]), (1, .arr 10 segT f [actC b n z]), (2, .log recT rs), (3, .arr 5 recT al [])], 4⟩ K = bif decide (k < m) then bif okB 500000000 (f, b, n, z, rs) then bif decide ((al ++ [((↑al.length : Int), (↑al.length : Int), [(107 : UInt8)], [], false)]).length * 56 ≤ 140737488355328) then K Ex.normal { slots := [(0, AV.vl (Ty.int IntKind.i64) sz), (1, AV.int IntKind.i64 most), (6, AV.ptr 0 (Elt.tl 0) 0), (7, AV.hw 3), (8, AV.int IntKind.i64 i), (9, AV.int IntKind.i64 m), (10, AV.int IntKind.i64 (IntKind.i64.wrap (k + (1 : Int))))], objs := [(0, AObj.arr 1 Ty.bool [] [[AV.hw 1]]), (1, AObj.arr 10 segTy (apL (100 : Int) [((0 : Int), (↑al.length : Int), [(107 : UInt8)], [], false)] (f, b, n, z, rs) 1).fst [[AV.int IntKind.i64 (apL (100 : Int) [((0 : Int), (↑al.length : Int), [(107 : UInt8)], [], false)] (f, b, n, z, rs) 1).snd.fst, AV.int IntKind.i64 (apL (100 : Int) [((0 : Int), (↑al.length : Int), [(107 : UInt8)], [], false)] (f, b, n, z, rs) 1).snd.snd.fst, AV.int IntKind.i64 (0 : Int), AV.int IntKind.i64 (0 : Int), AV.hw 2, AV.bool false, AV.bool false, AV.bool false, AV.int IntKind.i64 (apL (100 : Int) [((0 : Int), (↑al.length : Int), [(107 : UInt8)], [], false)] (f, b, n, z, rs) 1).snd.snd.snd.fst, AV.int IntKind.u32 (0 : Int)]]), (2, AObj.log recTy (apL (100 : Int) [((0 : Int), (↑al.length : Int), [(107 : UInt8)], [], false)] (f, b, n, z, rs) 1).snd.snd.snd.snd), (3, AObj.arr 5 recTy (al ++ [((↑al.length : Int), (↑al.length : Int), [(107 : UInt8)], [], false)]) [])], nx := 4 } else none else none else K (Ex.exit 2) { slots := [(0, AV.vl (Ty.int IntKind.i64) sz), (1, AV.int IntKind.i64 most), (6, AV.ptr 0 (Elt.tl 0) 0), (7, AV.hw 3), (8, AV.int IntKind.i64 i), (9, AV.int IntKind.i64 m), (10, AV.int IntKind.i64 k)], objs := [(0, AObj.arr 1 Ty.bool [] [[AV.hw 1]]), (1, AObj.arr 10 segTy f [[AV.int IntKind.i64 b, AV.int IntKind.i64 n, AV.int IntKind.i64 (0 : Int), AV.int IntKind.i64 (0 : Int), AV.hw 2, AV.bool false, AV.bool false, AV.bool false, AV.int IntKind.i64 z, AV.int IntKind.u32 (0 : Int)]]), (2, AObj.log recTy rs), (3, AObj.arr 5 recTy al [])], nx := 4 } := by kernel_rfl
def recM (j : Nat) : Rec := ((j : Int), (j : Int), [107], [], false)
def segRecs (a k : Nat) : List Rec := (List.range k).map fun j => recM (a + j)
theorem segRecs_len (a k : Nat) : (segRecs a k).length = k := by simp [segRecs]
theorem segRecs_succ (a k : Nat) : segRecs a (k + 1) = segRecs a k ++ [recM (a + k)] := by simp [segRecs, List.range_succ]
theorem segRecs_add (a k m : Nat) : segRecs a k ++ segRecs (a + k) m = segRecs a (k + m) := by
  unfold segRecs
  rw [List.range_add, List.map_append, List.map_map]
  congr 1
  apply List.map_congr_left
  intro x _
  simp only [Function.comp, Nat.add_assoc]
def LK (f : List Seg) (a k : Nat) : LogS := (f, (a : Int), ((a + k : Nat) : Int), ((bytS (segRecs a k)).length : Int), segRecs a k)
def segK (a k : Nat) : Seg := ((a : Int), ((a + k : Nat) : Int), latS (segRecs a k), 0, segRecs a k, true, false, false, ((bytS (segRecs a k)).length : Int), 0)
def putK (j : Nat) : Rec := (0, (j : Int), [107], [], false)
theorem recR_put {j : Nat} (h : j ≤ 1000000) : recR (0, (putK j).2) = true := by
  unfold recR putK
  simp
  omega
theorem push_LK (f : List Seg) (a k : Nat) : pushP (LK f a k) (putK (a + k)) = LK f a (k + 1) := by
  unfold pushP LK
  simp only [segRecs_succ]
  have e : bytS (segRecs a k ++ [recM (a + k)]) = bytS (segRecs a k) ++ bytS [recM (a + k)] := by simp [bytS]
  have e2 : ((((a + k : Nat) : Int), (putK (a + k)).2) : Rec) = recM (a + k) := rfl
  rw [e2, e]
  simp only [List.length_append]
  congr 1
theorem app_LK (f : List Seg) (a k : Nat) (h : a + k ≤ 1000000) (hk : k < 99) : apL 100 [putK (a + k)] (LK f a k) 1 = LK f a (k + 1) := by
  show apR 100 (LK f a k) (putK (a + k)) = _
  unfold apR
  rw [recR_put h, cond_true, push_LK]
  have : decide ((LK f a k).2.2.1 + 1 - (LK f a k).2.1 ≥ mxI 100) = false := decide_eq_false (by
    show ¬ (((a + k : Nat) : Int) + 1 - (a : Int) ≥ 100)
    omega)
  rw [this, cond_false]
theorem seal_LK (f : List Seg) (a k : Nat) : sealP (LK f a (k + 1)) = LK (f ++ [segK a (k + 1)]) (a + (k + 1)) 0 := by
  unfold sealP
  have : ((LK f a (k + 1)).2.1 == (LK f a (k + 1)).2.2.1) = false := by
    show ((a : Int) == ((a + (k + 1) : Nat) : Int)) = false
    simp
    omega
  rw [this, cond_false]
  show (f ++ [segK a (k + 1)], ((a + (k + 1) : Nat) : Int), ((a + (k + 1) : Nat) : Int), (0 : Int), ([] : List Rec)) = LK (f ++ [segK a (k + 1)]) (a + (k + 1)) 0
  unfold LK
  simp [segRecs, bytS]
theorem ok_LK {f : List Seg} {a k : Nat} (h1 : f.length ≤ 1000000) (h2 : f.all smallS = true) (h3 : a + k ≤ 1000000) : okB 500000000 (LK f a k) = true := by
  have hb := bytS_len (segRecs a k)
  rw [segRecs_len] at hb
  refine okB_iff.2 ⟨?_, ?_, ?_, ?_, ?_, ?_, ?_, h2⟩ <;> simp only [LK, segRecs_len] <;> omega
def mmSt (sz : List Int) (most i m : Int) (k : Nat) (al : List Rec) (L : LogS) : St := ⟨[(0, .vl (.int .i64) sz), (1, .int .i64 most), (6, .ptr 0 (.tl 0) 0), (7, .hw 3), (8, .int .i64 i), (9, .int .i64 m), (10, .int .i64 k)], logO L ++ [(3, .arr 5 recT al [])], 4⟩
theorem mm11_rounds {R : Type} (sz : List Int) (most i : Int) (f : List Seg) (a n : Nat) (h1 : f.length ≤ 1000) (h2 : f.all smallS = true) (h3 : a ≤ 1000) (h4 : n ≤ 4) (K : Ex → St → Option R) : ∀ (m k : Nat), k + m = n →
    rounds (env consM1) H.merges2 0 (LPof []) V.cooperagelaw15_SegsMerges_11 L.cooperagelaw15_SegsMerges_11 (m + 1) (mmSt sz most i n k (segRecs 0 (a + k)) (LK f a k)) K = K (.exit 2) (mmSt sz most i n n (segRecs 0 (a + n)) (LK f a n))
  | 0, k, h => by
    obtain rfl : k = n := by omega
    rw [rounds_succ']
    refine (mm11_rd _ _ _ _ _ _ _ _ _ _ _ _).trans ?_
    rw [cond_neg (by omega)]
    rfl
  | m + 1, k, h => by
    have ih := mm11_rounds sz most i f a n h1 h2 h3 h4 K m (k + 1) (by omega)
    rw [rounds_succ']
    refine (mm11_rd _ _ _ _ _ _ _ _ _ _ _ _).trans ?_
    have e1 : IntKind.i64.wrap ((k : Int) + 1) = ((k + 1 : Nat) : Int) := by rw [wrap64 (by omega) (by omega)]; omega
    have e2 : (((segRecs 0 (a + k)).length : Int), ((segRecs 0 (a + k)).length : Int), [(107 : UInt8)], ([] : List UInt8), false) = recM (a + k) := by rw [segRecs_len]; rfl
    have e3 : ((0 : Int), ((segRecs 0 (a + k)).length : Int), [(107 : UInt8)], ([] : List UInt8), false) = putK (a + k) := by rw [segRecs_len]; rfl
    have e4 : okB 500000000 ((LK f a k).1, (LK f a k).2.1, (LK f a k).2.2.1, (LK f a k).2.2.2.1, (LK f a k).2.2.2.2) = true := ok_LK (f := f) (a := a) (k := k) (by omega) h2 (by omega)
    have e5 : segRecs 0 (a + k) ++ [recM (a + k)] = segRecs 0 (a + (k + 1)) := by rw [show a + (k + 1) = (a + k) + 1 by omega, segRecs_succ]; simp
    have e6 : apL 100 [putK (a + k)] ((LK f a k).1, (LK f a k).2.1, (LK f a k).2.2.1, (LK f a k).2.2.2.1, (LK f a k).2.2.2.2) 1 = LK f a (k + 1) := app_LK f a k (by omega) (by omega)
    rw [cond_pos (by omega), e4, cond_true, e2, e3, e5, cond_pos (by rw [segRecs_len]; omega), e1, e6]
    exact ih
abbrev logPA : List OPat := [.box 1 [[.lit (.hw 1)]], .arr 10 segT [actP], .log recT, .arr 5 recT []]
abbrev mm11LC : LoopC := LoopC.of ⟨[(0, .vl (.int .i64)), (1, .int .i64), (6, .lit (.ptr 0 (.tl 0) 0)), (7, .lit (.hw 3)), (8, .int .i64), (9, .int .i64), (10, .int .i64)], logPA⟩
  (fun ⟨⟨sz, most, _, _, i, m, k, _⟩, ⟨_, ⟨f, ⟨b, n, _, _, _, _, _, _, z, _, _⟩, _⟩, rs, ⟨al, _⟩, _⟩⟩ => decide (k = (0 : Int)) && decide ((0 : Int) ≤ m) && decide (m ≤ (4 : Int)) && decide (b = n) && decide (z = (0 : Int)) && List.isEmpty rs && decide ((0 : Int) ≤ b) && decide (b ≤ (1000 : Int)) && decide (List.length f ≤ 1000) && List.all f smallS && decide (al = segRecs 0 b.toNat))
  fun ⟨⟨sz, most, _, _, i, m, k, _⟩, ⟨_, ⟨f, ⟨b, n, _, _, _, _, _, _, z, _, _⟩, _⟩, rs, ⟨al, _⟩, _⟩⟩ => [(true, .exit 2, mmSt sz most i m m.toNat (segRecs 0 (b.toNat + m.toNat)) (LK f b.toNat m.toNat))]
theorem mm11_go {R : Type} (sz : List Int) (most i m k : Int) (f : List Seg) (b n z : Int) (rs al : List Rec) (h0 : k = 0) (h1 : 0 ≤ m) (h2 : m ≤ 4) (h3 : b = n) (h4 : z = 0) (h5 : rs.isEmpty = true) (h6 : 0 ≤ b) (h7 : b ≤ 1000) (h8 : f.length ≤ 1000) (h9 : f.all smallS = true) (h10 : al = segRecs 0 b.toNat) (K : Ex → St → Option R) :
    ∃ c, rounds (env consM1) H.merges2 0 (LPof []) V.cooperagelaw15_SegsMerges_11 L.cooperagelaw15_SegsMerges_11 c ⟨[(0, .vl (.int .i64) sz), (1, .int .i64 most), (6, .ptr 0 (.tl 0) 0), (7, .hw 3), (8, .int .i64 i), (9, .int .i64 m), (10, .int .i64 k)], [(0, .arr 1 .bool [] [[.hw 1]]), (1, .arr 10 segT f [actC b n z]), (2, .log recT rs), (3, .arr 5 recT al [])], 4⟩ K = K (.exit 2) (mmSt sz most i m m.toNat (segRecs 0 (b.toNat + m.toNat)) (LK f b.toNat m.toNat)) := by
  subst h0 h3 h4 h10
  obtain rfl := List.isEmpty_iff.1 h5
  obtain ⟨a, rfl⟩ := Int.eq_ofNat_of_zero_le h6
  obtain ⟨j, rfl⟩ := Int.eq_ofNat_of_zero_le h1
  have e := mm11_rounds sz most i f a j h8 h9 (by omega) (by omega) K j 0 (Nat.zero_add _)
  refine ⟨j + 1, Eq.trans ?_ e⟩
  unfold mmSt LK logO
  simp [segRecs, bytS]
theorem mm11_lok : LoopOK P0 H.merges2 0 L.cooperagelaw15_SegsMerges_11 mm11LC :=
  loop_ok_of (env_ok consM1_ok) glob0 mixed0 noLoops V.cooperagelaw15_SegsMerges_11 (by decide) fun ⟨⟨sz, most, _, _, i, m, k, _⟩, ⟨_, ⟨f, ⟨b, n, _, _, _, _, _, _, z, _, _⟩, _⟩, rs, ⟨al, _⟩, _⟩⟩ h hw => by
    simp only [Bool.and_eq_true, decide_eq_true_eq] at h
    obtain ⟨⟨⟨⟨⟨⟨⟨⟨⟨⟨h0, h1⟩, h2⟩, h3⟩, h4⟩, h5⟩, h6⟩, h7⟩, h8⟩, h9⟩, h10⟩ := h
    exact mm11_go sz most i m k f b n z rs al h0 h1 h2 h3 h4 h5 h6 h7 h8 h9 h10 _
theorem mm7_rd {R : Type} (sz : List Int) (most i : Int) (al : List Rec) (f : List Seg) (b n z : Int) (rs : List Rec) (K : Ex → St → Option R) : roundK (env consM1) H.merges2 0 (LPof [(11, mm11LC)]) V.cooperagelaw15_SegsMerges_7 L.cooperagelaw15_SegsMerges_7 ⟨[(0, .vl (.int .i64) sz), (1, .int .i64 most), (6, .ptr 0 (.tl 0) 0), (7, .hw 3), (8, .int .i64 i)], [(0, .arr 1 .bool [] [[.hw 1]]), (1, .arr 10 segT f [actC b n z]), (2, .log recT rs), (3, .arr 5 recT al [])], 4⟩ K = bif decide (i < (↑sz.length : Int)) then bif decide ((0 : Int) ≤ i) && decide (i < (↑sz.length : Int)) then bif decide ((0 : Int) ≤ IntKind.i64.wrap ((1 : Int) + IntKind.i64.wrap (↑(BitVec.ofInt 64 (sz.getD i.toNat (0 : Int)) &&& BitVec.ofInt 64 (3 : Int)).toNat : Int))) && decide (IntKind.i64.wrap ((1 : Int) + IntKind.i64.wrap (↑(BitVec.ofInt 64 (sz.getD i.toNat (0 : Int)) &&& BitVec.ofInt 64 (3 : Int)).toNat : Int)) ≤ (4 : Int)) && decide (b = n) && decide (z = (0 : Int)) && rs.isEmpty && decide ((0 : Int) ≤ b) && decide (b ≤ (1000 : Int)) && decide (f.length ≤ 1000) && f.all smallS && decide (al = segRecs 0 b.toNat) && true then bif decide ((LK f b.toNat (IntKind.i64.wrap ((1 : Int) + IntKind.i64.wrap (↑(BitVec.ofInt 64 (sz.getD i.toNat (0 : Int)) &&& BitVec.ofInt 64 (3 : Int)).toNat : Int))).toNat).fst.length ≤ 1000000000) then K Ex.normal { slots := [(0, AV.vl (Ty.int IntKind.i64) sz), (1, AV.int IntKind.i64 most), (6, AV.ptr 0 (Elt.tl 0) 0), (7, AV.hw 3), (8, AV.int IntKind.i64 (IntKind.i64.wrap (i + (1 : Int))))], objs := [(0, AObj.arr 1 Ty.bool [] [[AV.hw 1]]), (1, AObj.arr 10 segTy (sealP (LK f b.toNat (IntKind.i64.wrap ((1 : Int) + IntKind.i64.wrap (↑(BitVec.ofInt 64 (sz.getD i.toNat (0 : Int)) &&& BitVec.ofInt 64 (3 : Int)).toNat : Int))).toNat)).fst [[AV.int IntKind.i64 (sealP (LK f b.toNat (IntKind.i64.wrap ((1 : Int) + IntKind.i64.wrap (↑(BitVec.ofInt 64 (sz.getD i.toNat (0 : Int)) &&& BitVec.ofInt 64 (3 : Int)).toNat : Int))).toNat)).snd.fst, AV.int IntKind.i64 (sealP (LK f b.toNat (IntKind.i64.wrap ((1 : Int) + IntKind.i64.wrap (↑(BitVec.ofInt 64 (sz.getD i.toNat (0 : Int)) &&& BitVec.ofInt 64 (3 : Int)).toNat : Int))).toNat)).snd.snd.fst, AV.int IntKind.i64 (0 : Int), AV.int IntKind.i64 (0 : Int), AV.hw 2, AV.bool false, AV.bool false, AV.bool false, AV.int IntKind.i64 (sealP (LK f b.toNat (IntKind.i64.wrap ((1 : Int) + IntKind.i64.wrap (↑(BitVec.ofInt 64 (sz.getD i.toNat (0 : Int)) &&& BitVec.ofInt 64 (3 : Int)).toNat : Int))).toNat)).snd.snd.snd.fst, AV.int IntKind.u32 (0 : Int)]]), (2, AObj.log recTy (sealP (LK f b.toNat (IntKind.i64.wrap ((1 : Int) + IntKind.i64.wrap (↑(BitVec.ofInt 64 (sz.getD i.toNat (0 : Int)) &&& BitVec.ofInt 64 (3 : Int)).toNat : Int))).toNat)).snd.snd.snd.snd), (3, AObj.arr 5 recTy (segRecs 0 (b.toNat + (IntKind.i64.wrap ((1 : Int) + IntKind.i64.wrap (↑(BitVec.ofInt 64 (sz.getD i.toNat (0 : Int)) &&& BitVec.ofInt 64 (3 : Int)).toNat : Int))).toNat)) [])], nx := 4 } else none else none else none else K (Ex.exit 0) { slots := [(0, AV.vl (Ty.int IntKind.i64) sz), (1, AV.int IntKind.i64 most), (6, AV.ptr 0 (Elt.tl 0) 0), (7, AV.hw 3), (8, AV.int IntKind.i64 i)], objs := [(0, AObj.arr 1 Ty.bool [] [[AV.hw 1]]), (1, AObj.arr 10 segTy f [[AV.int IntKind.i64 b, AV.int IntKind.i64 n, AV.int IntKind.i64 (0 : Int), AV.int IntKind.i64 (0 : Int), AV.hw 2, AV.bool false, AV.bool false, AV.bool false, AV.int IntKind.i64 z, AV.int IntKind.u32 (0 : Int)]]), (2, AObj.log recTy rs), (3, AObj.arr 5 recTy al [])], nx := 4 } := by kernel_rfl

theorem mm19_rd {R : Type} (most i : Int) (al : List Rec) (f : List Seg) (b n z : Int) (rs : List Rec) (K : Ex → St → Option R) : roundK (env consM1) H.merges2 0 (LPof []) V.cooperagelaw15_SegsMerges_19 L.cooperagelaw15_SegsMerges_19 ⟨[(1, .int .i64 most), (6, .ptr 0 (.tl 0) 0), (7, .hw 3), (12, .int .i64 i)], [(0, .arr 1 .bool [] [[.hw 1]]), (1, .arr 10 segT f [actC b n z]), (2, .log recT rs), (3, .arr 5 recT al [])], 4⟩ K = bif decide (i < (20 : Int)) then bif decide (f.length < 1000000000) && f.all genB then bif !(mgAt most f).isSome then K (Ex.exit 4) { slots := [(1, AV.int IntKind.i64 most), (6, AV.ptr 0 (Elt.tl 0) 0), (7, AV.hw 3), (12, AV.int IntKind.i64 i)], objs := [(0, AObj.arr 1 Ty.bool [] [[AV.hw 1]]), (1, AObj.arr 10 segTy (mergeP most (f, b, n, z, rs)).fst [[AV.int IntKind.i64 (mergeP most (f, b, n, z, rs)).snd.fst, AV.int IntKind.i64 (mergeP most (f, b, n, z, rs)).snd.snd.fst, AV.int IntKind.i64 (0 : Int), AV.int IntKind.i64 (0 : Int), AV.hw 2, AV.bool false, AV.bool false, AV.bool false, AV.int IntKind.i64 (mergeP most (f, b, n, z, rs)).snd.snd.snd.fst, AV.int IntKind.u32 (0 : Int)]]), (2, AObj.log recTy (mergeP most (f, b, n, z, rs)).snd.snd.snd.snd), (3, AObj.arr 5 recTy al [])], nx := 4 } else K Ex.normal { slots := [(1, AV.int IntKind.i64 most), (6, AV.ptr 0 (Elt.tl 0) 0), (7, AV.hw 3), (12, AV.int IntKind.i64 (IntKind.i64.wrap (i + (1 : Int))))], objs := [(0, AObj.arr 1 Ty.bool [] [[AV.hw 1]]), (1, AObj.arr 10 segTy (mergeP most (f, b, n, z, rs)).fst [[AV.int IntKind.i64 (mergeP most (f, b, n, z, rs)).snd.fst, AV.int IntKind.i64 (mergeP most (f, b, n, z, rs)).snd.snd.fst, AV.int IntKind.i64 (0 : Int), AV.int IntKind.i64 (0 : Int), AV.hw 2, AV.bool false, AV.bool false, AV.bool false, AV.int IntKind.i64 (mergeP most (f, b, n, z, rs)).snd.snd.snd.fst, AV.int IntKind.u32 (0 : Int)]]), (2, AObj.log recTy (mergeP most (f, b, n, z, rs)).snd.snd.snd.snd), (3, AObj.arr 5 recTy al [])], nx := 4 } else none else K (Ex.exit 4) { slots := [(1, AV.int IntKind.i64 most), (6, AV.ptr 0 (Elt.tl 0) 0), (7, AV.hw 3), (12, AV.int IntKind.i64 i)], objs := [(0, AObj.arr 1 Ty.bool [] [[AV.hw 1]]), (1, AObj.arr 10 segTy f [[AV.int IntKind.i64 b, AV.int IntKind.i64 n, AV.int IntKind.i64 (0 : Int), AV.int IntKind.i64 (0 : Int), AV.hw 2, AV.bool false, AV.bool false, AV.bool false, AV.int IntKind.i64 z, AV.int IntKind.u32 (0 : Int)]]), (2, AObj.log recTy rs), (3, AObj.arr 5 recTy al [])], nx := 4 } := by kernel_rfl

theorem mm26_rd {R : Type} (most i : Int) (al le : List Rec) (l f : List Seg) (b n z : Int) (rs : List Rec) (K : Ex → St → Option R) : roundK (env consM1) H.merges2 0 (LPof []) V.cooperagelaw15_SegsMerges_26 L.cooperagelaw15_SegsMerges_26 ⟨[(1, .int .i64 most), (4, .undef), (6, .ptr 0 (.tl 0) 0), (7, .hw 3), (14, .vl segT l), (15, .hw 4), (16, .int .i64 i)], [(0, .arr 1 .bool [] [[.hw 1]]), (1, .arr 10 segT f [actC b n z]), (2, .log recT rs), (3, .arr 5 recT al []), (4, .arr 5 recT le [])], 5⟩ K = bif decide (i < (↑l.length : Int)) then bif decide ((0 : Int) ≤ i) && decide (i < (↑l.length : Int)) then bif decide ((le ++ (l.getD i.toNat segTy.zero).snd.snd.snd.snd.fst).length * 56 ≤ 140737488355328) then Option.bind (bif decide (IntKind.i64.wrap (i + (2 : Int)) < (↑l.length : Int)) then bif decide ((0 : Int) ≤ i) && decide (i < (↑l.length : Int)) then bif decide ((0 : Int) ≤ IntKind.i64.wrap (i + (1 : Int))) && decide (IntKind.i64.wrap (i + (1 : Int)) < (↑l.length : Int)) then some (decide (IntKind.i64.wrap ((↑(List.length (l.getD i.toNat segTy.zero).snd.snd.snd.snd.fst) : Int) + (↑(List.length (l.getD (IntKind.i64.wrap (i + (1 : Int))).toNat segTy.zero).snd.snd.snd.snd.fst) : Int)) ≤ most)) else none else none else some false) fun v => bif v then K Ex.ret { slots := [(1, AV.int IntKind.i64 most), (4, AV.bool false), (6, AV.ptr 0 (Elt.tl 0) 0), (7, AV.hw 3), (14, AV.vl segTy l), (15, AV.hw 4), (16, AV.int IntKind.i64 i)], objs := [(0, AObj.arr 1 Ty.bool [] [[AV.hw 1]]), (1, AObj.arr 10 segTy f [[AV.int IntKind.i64 b, AV.int IntKind.i64 n, AV.int IntKind.i64 (0 : Int), AV.int IntKind.i64 (0 : Int), AV.hw 2, AV.bool false, AV.bool false, AV.bool false, AV.int IntKind.i64 z, AV.int IntKind.u32 (0 : Int)]]), (2, AObj.log recTy rs), (3, AObj.arr 5 recTy al []), (4, AObj.arr 5 recTy (le ++ (l.getD i.toNat segTy.zero).snd.snd.snd.snd.fst) [])], nx := 5 } else K Ex.normal { slots := [(1, AV.int IntKind.i64 most), (4, AV.undef), (6, AV.ptr 0 (Elt.tl 0) 0), (7, AV.hw 3), (14, AV.vl segTy l), (15, AV.hw 4), (16, AV.int IntKind.i64 (IntKind.i64.wrap (i + (1 : Int))))], objs := [(0, AObj.arr 1 Ty.bool [] [[AV.hw 1]]), (1, AObj.arr 10 segTy f [[AV.int IntKind.i64 b, AV.int IntKind.i64 n, AV.int IntKind.i64 (0 : Int), AV.int IntKind.i64 (0 : Int), AV.hw 2, AV.bool false, AV.bool false, AV.bool false, AV.int IntKind.i64 z, AV.int IntKind.u32 (0 : Int)]]), (2, AObj.log recTy rs), (3, AObj.arr 5 recTy al []), (4, AObj.arr 5 recTy (le ++ (l.getD i.toNat segTy.zero).snd.snd.snd.snd.fst) [])], nx := 5 } else none else none else K (Ex.exit 6) { slots := [(1, AV.int IntKind.i64 most), (4, AV.undef), (6, AV.ptr 0 (Elt.tl 0) 0), (7, AV.hw 3), (14, AV.vl segTy l), (15, AV.hw 4), (16, AV.int IntKind.i64 i)], objs := [(0, AObj.arr 1 Ty.bool [] [[AV.hw 1]]), (1, AObj.arr 10 segTy f [[AV.int IntKind.i64 b, AV.int IntKind.i64 n, AV.int IntKind.i64 (0 : Int), AV.int IntKind.i64 (0 : Int), AV.hw 2, AV.bool false, AV.bool false, AV.bool false, AV.int IntKind.i64 z, AV.int IntKind.u32 (0 : Int)]]), (2, AObj.log recTy rs), (3, AObj.arr 5 recTy al []), (4, AObj.arr 5 recTy le [])], nx := 5 } := by kernel_rfl
def nK (sz : List Int) (i : Nat) : Nat := (BitVec.ofInt 64 (sz.getD i 0) &&& BitVec.ofInt 64 3).toNat + 1
theorem nK_le (sz : List Int) (i : Nat) : nK sz i ≤ 4 := by
  unfold nK
  have : (BitVec.ofInt 64 (sz.getD i 0) &&& BitVec.ofInt 64 3).toNat ≤ 3 := by
    rw [BitVec.toNat_and]
    exact Nat.and_le_right
  omega
theorem nK_wrap (sz : List Int) (i : Nat) : IntKind.i64.wrap ((1 : Int) + IntKind.i64.wrap ((BitVec.ofInt 64 (sz.getD i (0 : Int)) &&& BitVec.ofInt 64 (3 : Int)).toNat : Int)) = (nK sz i : Int) := by
  have h : (BitVec.ofInt 64 (sz.getD i 0) &&& BitVec.ofInt 64 3).toNat ≤ 3 := by
    rw [BitVec.toNat_and]
    exact Nat.and_le_right
  rw [wrap64 (n := ((BitVec.ofInt 64 (sz.getD i (0 : Int)) &&& BitVec.ofInt 64 (3 : Int)).toNat : Int)) (by omega) (by omega), wrap64 (by omega) (by omega)]
  unfold nK
  omega
def totK (sz : List Int) : Nat → Nat
  | 0 => 0
  | i + 1 => totK sz i + nK sz i
theorem totK_le (sz : List Int) : ∀ i, totK sz i ≤ 4 * i
  | 0 => Nat.le_refl _
  | i + 1 => by
    have := totK_le sz i
    have := nK_le sz i
    simp only [totK]
    omega
def fK (sz : List Int) : Nat → List Seg
  | 0 => []
  | i + 1 => fK sz i ++ [segK (totK sz i) (nK sz i)]
theorem fK_len (sz : List Int) : ∀ i, (fK sz i).length = i
  | 0 => rfl
  | i + 1 => by simp [fK, fK_len sz i]
theorem fK_small (sz : List Int) : ∀ i, (fK sz i).all smallS = true
  | 0 => rfl
  | i + 1 => by
    simp only [fK, List.all_append, fK_small sz i, Bool.true_and, List.all_cons, List.all_nil, Bool.and_true]
    have := nK_le sz i
    exact decide_eq_true (by rw [show (segK (totK sz i) (nK sz i)).2.2.2.2.1 = segRecs (totK sz i) (nK sz i) from rfl, segRecs_len]; omega)
def zL (f : List Seg) (a : Nat) : LogS := (f, (a : Int), (a : Int), 0, [])
theorem seal_zL (f : List Seg) (a k : Nat) (h : 0 < k) : sealP (LK f a k) = zL (f ++ [segK a k]) (a + k) := by
  obtain ⟨j, rfl⟩ : ∃ j, k = j + 1 := ⟨k - 1, by omega⟩
  rw [seal_LK]
  unfold LK zL
  simp [segRecs, bytS]
def mm7St (sz : List Int) (most : Int) (i : Nat) : St := ⟨[(0, .vl (.int .i64) sz), (1, .int .i64 most), (6, .ptr 0 (.tl 0) 0), (7, .hw 3), (8, .int .i64 i)], logO (zL (fK sz i) (totK sz i)) ++ [(3, .arr 5 recT (segRecs 0 (totK sz i)) [])], 4⟩
theorem mm7_rounds {R : Type} (sz : List Int) (most : Int) (hs : sz.length ≤ 12) (K : Ex → St → Option R) : ∀ (m i : Nat), i + m = sz.length →
    rounds (env consM1) H.merges2 0 (LPof [(11, mm11LC)]) V.cooperagelaw15_SegsMerges_7 L.cooperagelaw15_SegsMerges_7 (m + 1) (mm7St sz most i) K = K (.exit 0) (mm7St sz most sz.length)
  | 0, i, h => by
    obtain rfl : i = sz.length := by omega
    rw [rounds_succ']
    refine (mm7_rd _ _ _ _ _ _ _ _ _ _).trans ?_
    rw [cond_neg (by omega)]
    rfl
  | m + 1, i, h => by
    have ih := mm7_rounds sz most hs K m (i + 1) (by omega)
    have hn := nK_le sz i
    have ht := totK_le sz i
    have hl := fK_len sz i
    rw [rounds_succ']
    refine (mm7_rd _ _ _ _ _ _ _ _ _ _).trans ?_
    have e1 : IntKind.i64.wrap ((i : Int) + 1) = ((i + 1 : Nat) : Int) := by rw [wrap64 (by omega) (by omega)]; omega
    have z1 : (zL (fK sz i) (totK sz i)).1 = fK sz i := rfl
    have z2 : (zL (fK sz i) (totK sz i)).2.1 = (totK sz i : Int) := rfl
    have z3 : (zL (fK sz i) (totK sz i)).2.2.1 = (totK sz i : Int) := rfl
    have z4 : (zL (fK sz i) (totK sz i)).2.2.2.1 = 0 := rfl
    have z5 : (zL (fK sz i) (totK sz i)).2.2.2.2 = [] := rfl
    have c1 : decide ((0 : Int) ≤ (nK sz i : Int)) = true := decide_eq_true (by omega)
    have c2 : decide ((nK sz i : Int) ≤ 4) = true := decide_eq_true (by omega)
    have c3 : decide ((0 : Int) ≤ (totK sz i : Int)) = true := decide_eq_true (by omega)
    have c4 : decide ((totK sz i : Int) ≤ 1000) = true := decide_eq_true (by omega)
    have c5 : decide ((fK sz i).length ≤ 1000) = true := decide_eq_true (by omega)
    have c6 : decide ((LK (fK sz i) (totK sz i) (nK sz i)).1.length ≤ 1000000000) = true := decide_eq_true (by show (fK sz i).length ≤ _; omega)
    rw [cond_pos (by omega), cond_pos2 (by omega) (by omega), Int.toNat_natCast, nK_wrap, z1, z2, z3, z4, z5, Int.toNat_natCast, Int.toNat_natCast, c1, c2, c3, c4, c5, c6, fK_small, e1, seal_zL _ _ _ (by unfold nK; omega)]
    simp only [decide_true, List.isEmpty_nil, Bool.and_self, cond_true]
    exact ih
abbrev mm7LC : LoopC := LoopC.of ⟨[(0, .vl (.int .i64)), (1, .int .i64), (6, .lit (.ptr 0 (.tl 0) 0)), (7, .lit (.hw 3)), (8, .int .i64)], logPA⟩
  (fun ⟨⟨sz, most, _, _, i, _⟩, ⟨_, ⟨f, ⟨b, n, _, _, _, _, _, _, z, _, _⟩, _⟩, rs, ⟨al, _⟩, _⟩⟩ => decide (i = (0 : Int)) && decide (b = (0 : Int)) && decide (n = (0 : Int)) && decide (z = (0 : Int)) && List.isEmpty rs && List.isEmpty f && List.isEmpty al && decide (List.length sz ≤ 12))
  fun ⟨⟨sz, most, _, _, i, _⟩, ⟨_, ⟨f, ⟨b, n, _, _, _, _, _, _, z, _, _⟩, _⟩, rs, ⟨al, _⟩, _⟩⟩ => [(true, .exit 0, mm7St sz most (List.length sz))]
theorem mm7_lok : LoopOK P0 H.merges2 0 L.cooperagelaw15_SegsMerges_7 mm7LC :=
  loop_ok_of (env_ok consM1_ok) glob0 mixed0 (loops_good (tab := [(11, mm11LC)]) (by kernel_rfl) (fun x hx => by simp at hx; subst hx; exact mm11_lok)) V.cooperagelaw15_SegsMerges_7 (by decide) fun ⟨⟨sz, most, _, _, i, _⟩, ⟨_, ⟨f, ⟨b, n, _, _, _, _, _, _, z, _, _⟩, _⟩, rs, ⟨al, _⟩, _⟩⟩ h hw => by
    simp only [Bool.and_eq_true, decide_eq_true_eq] at h
    obtain ⟨⟨⟨⟨⟨⟨⟨rfl, rfl⟩, rfl⟩, rfl⟩, h5⟩, h6⟩, h7⟩, h8⟩ := h
    obtain rfl : rs = [] := List.isEmpty_iff.1 h5
    obtain rfl : f = [] := List.isEmpty_iff.1 h6
    obtain rfl : al = [] := List.isEmpty_iff.1 h7
    exact ⟨_, mm7_rounds sz most h8 _ (List.length sz) 0 (Nat.zero_add _)⟩
def mgNx (most : Int) (f : List Seg) : List Seg := mgL f ((mgAt most f).getD 0)
/-- No merge of a run meets what is too great. -/
def mgFine (most : Int) : Nat → List Seg → Bool
  | 0, _ => true
  | m + 1, f => decide (f.length < 1000000000) && f.all genB && (!(mgAt most f).isSome || mgFine most m (mgNx most f))
def mgStop (most : Int) : Nat → Nat → List Seg → Nat × List Seg
  | 0, i, f => (i, f)
  | m + 1, i, f => bif (mgAt most f).isSome then mgStop most m (i + 1) (mgNx most f) else (i, f)
def mm19St (most : Int) (i : Nat) (al : List Rec) (L : LogS) : St := ⟨[(1, .int .i64 most), (6, .ptr 0 (.tl 0) 0), (7, .hw 3), (12, .int .i64 i)], logO L ++ [(3, .arr 5 recT al [])], 4⟩
theorem mm19_rounds {R : Type} (most : Int) (al : List Rec) (b n z : Int) (rs : List Rec) (K : Ex → St → Option R) : ∀ (m i : Nat) (f : List Seg), i + m = 20 → mgFine most m f = true →
    ∃ c, rounds (env consM1) H.merges2 0 (LPof []) V.cooperagelaw15_SegsMerges_19 L.cooperagelaw15_SegsMerges_19 c (mm19St most i al (f, b, n, z, rs)) K = K (.exit 4) (mm19St most (mgStop most m i f).1 al ((mgStop most m i f).2, b, n, z, rs))
  | 0, i, f, h, _ => by
    refine ⟨1, ?_⟩
    rw [rounds_succ']
    refine (mm19_rd _ _ _ _ _ _ _ _ _).trans ?_
    rw [cond_neg (by omega)]
    rfl
  | m + 1, i, f, h, hf => by
    unfold mgFine at hf
    simp only [Bool.and_eq_true, Bool.or_eq_true] at hf
    obtain ⟨⟨h1, h2⟩, h3⟩ := hf
    have e1 : IntKind.i64.wrap ((i : Int) + 1) = ((i + 1 : Nat) : Int) := by rw [wrap64 (by omega) (by omega)]; omega
    unfold mgStop
    cases hs : (mgAt most f).isSome with
    | false =>
      refine ⟨1, ?_⟩
      rw [rounds_succ']
      refine (mm19_rd _ _ _ _ _ _ _ _ _).trans ?_
      simp only
      rw [cond_pos (by omega), h1, h2, hs]
      have em : mergeP most (f, b, n, z, rs) = (f, b, n, z, rs) := by unfold mergeP; simp only; rw [hs]; rfl
      rw [em]
      rfl
    | true =>
      rw [hs] at h3
      obtain ⟨c, hc⟩ := mm19_rounds most al b n z rs K m (i + 1) (mgNx most f) (by omega) (by simpa using h3)
      refine ⟨c + 1, ?_⟩
      rw [rounds_succ']
      refine (mm19_rd _ _ _ _ _ _ _ _ _).trans ?_
      simp only
      rw [cond_pos (by omega), h1, h2, hs, e1]
      have em : mergeP most (f, b, n, z, rs) = (mgNx most f, b, n, z, rs) := by unfold mergeP; simp only; rw [hs]; rfl
      rw [em]
      exact hc
abbrev mm19LC : LoopC := LoopC.of ⟨[(1, .int .i64), (6, .lit (.ptr 0 (.tl 0) 0)), (7, .lit (.hw 3)), (12, .int .i64)], logPA⟩
  (fun ⟨⟨most, _, _, i, _⟩, ⟨_, ⟨f, ⟨b, n, _, _, _, _, _, _, z, _, _⟩, _⟩, rs, ⟨al, _⟩, _⟩⟩ => decide (i = (0 : Int)) && mgFine most 20 f)
  fun ⟨⟨most, _, _, i, _⟩, ⟨_, ⟨f, ⟨b, n, _, _, _, _, _, _, z, _, _⟩, _⟩, rs, ⟨al, _⟩, _⟩⟩ => [(true, .exit 4, mm19St most (mgStop most 20 0 f).1 al ((mgStop most 20 0 f).2, b, n, z, rs))]
theorem mm19_lok : LoopOK P0 H.merges2 0 L.cooperagelaw15_SegsMerges_19 mm19LC :=
  loop_ok_of (env_ok consM1_ok) glob0 mixed0 noLoops V.cooperagelaw15_SegsMerges_19 (by decide) fun ⟨⟨most, _, _, i, _⟩, ⟨_, ⟨f, ⟨b, n, _, _, _, _, _, _, z, _, _⟩, _⟩, rs, ⟨al, _⟩, _⟩⟩ h hw => by
    simp only [Bool.and_eq_true, decide_eq_true_eq] at h
    obtain ⟨rfl, h2⟩ := h
    exact mm19_rounds most al b n z rs _ 20 0 f rfl h2

end Go.Sim
namespace Go.Sim
set_option linter.unusedSimpArgs false
set_option linter.unusedVariables false
set_option maxRecDepth 10000
def lenG (l : List Seg) (i : Nat) : Nat := (l.getD i segTy.zero).2.2.2.2.1.length
def badM (most : Int) (l : List Seg) (i : Nat) : Bool := decide (i + 2 < l.length) && decide ((lenG l i : Int) + (lenG l (i + 1) : Int) ≤ most)
def catS (l : List Seg) (i : Nat) : List Rec := ((l.take i).map fun g => g.2.2.2.2.1).flatten
theorem catS_succ {l : List Seg} {i : Nat} (h : i < l.length) : catS l (i + 1) = catS l i ++ (l.getD i segTy.zero).2.2.2.2.1 := by
  unfold catS
  rw [stake_snoc h]
  simp
theorem catS_le (l : List Seg) : ∀ (m i : Nat), i + m = l.length → (catS l i).length ≤ (catS l l.length).length
  | 0, i, h => by rw [show i = l.length by omega]; exact Nat.le_refl _
  | m + 1, i, h => by
    have h1 := catS_le l m (i + 1) (by omega)
    rw [catS_succ (by omega), List.length_append] at h1
    omega
def mm26St (most : Int) (q : AV) (al : List Rec) (l : List Seg) (L : LogS) (i k : Nat) : St := ⟨[(1, .int .i64 most), (4, q), (6, .ptr 0 (.tl 0) 0), (7, .hw 3), (14, .vl segT l), (15, .hw 4), (16, .int .i64 i)], logO L ++ [(3, .arr 5 recT al []), (4, .arr 5 recT (catS l k) [])], 5⟩
theorem mm26_step {R : Type} (most : Int) (al : List Rec) (l : List Seg) (M : LogS) (h1 : l.length ≤ 1000000000) (h2 : l.all smallS = true) (h3 : (catS l l.length).length ≤ 1000000000) (i : Nat) (hi : i < l.length) (K : Ex → St → Option R) :
    roundK (env consM1) H.merges2 0 (LPof []) V.cooperagelaw15_SegsMerges_26 L.cooperagelaw15_SegsMerges_26 (mm26St most .undef al l M i i) K = bif badM most l i then K .ret (mm26St most (.bool false) al l M i (i + 1)) else K .normal (mm26St most .undef al l M (i + 1) (i + 1)) := by
  obtain ⟨f, b, n, z, rs⟩ := M
  refine (mm26_rd _ _ _ _ _ _ _ _ _ _ _).trans ?_
  have e1 : IntKind.i64.wrap ((i : Int) + 1) = ((i + 1 : Nat) : Int) := by rw [wrap64 (by omega) (by omega)]; omega
  have e2 : IntKind.i64.wrap ((i : Int) + 2) = ((i + 2 : Nat) : Int) := by rw [wrap64 (by omega) (by omega)]; omega
  have hc := catS_le l (l.length - (i + 1)) (i + 1) (by omega)
  simp only
  rw [e1, e2, cond_pos (by omega), cond_pos2 (by omega) (by omega), Int.toNat_natCast, ← catS_succ hi, cond_pos (by omega), Int.toNat_natCast]
  unfold badM lenG
  by_cases hj : i + 2 < l.length
  · have l1 := small_at h2 hi
    have l2 := small_at h2 (i := i + 1) (by omega)
    have e3 : IntKind.i64.wrap (((l.getD i segTy.zero).2.2.2.2.1.length : Int) + ((l.getD (i + 1) segTy.zero).2.2.2.2.1.length : Int)) = ((l.getD i segTy.zero).2.2.2.2.1.length : Int) + ((l.getD (i + 1) segTy.zero).2.2.2.2.1.length : Int) := wrap64 (by omega) (by omega)
    rw [cond_pos (by omega), cond_pos2 (by omega) (by omega), cond_pos2 (by omega) (by omega), e3, decide_eq_true hj, Option.bind_some, Bool.true_and]
    rfl
  · rw [cond_neg (by omega), decide_eq_false hj, Option.bind_some, Bool.false_and]
    rfl
abbrev logPB : List OPat := [.box 1 [[.lit (.hw 1)]], .arr 10 segT [actP], .log recT, .arr 5 recT [], .arr 5 recT []]
abbrev mm26LC : LoopC := LoopC.of ⟨[(1, .int .i64), (4, .lit .undef), (6, .lit (.ptr 0 (.tl 0) 0)), (7, .lit (.hw 3)), (14, .vl segT), (15, .lit (.hw 4)), (16, .int .i64)], logPB⟩
  (fun ⟨⟨most, q, _, _, l, _, i, _⟩, ⟨_, ⟨f, ⟨b, n, _, _, _, _, _, _, z, _, _⟩, _⟩, rs, ⟨al, _⟩, ⟨le, _⟩, _⟩⟩ => decide (i = (0 : Int)) && List.isEmpty le && decide (List.length l ≤ 1000000000) && List.all l smallS && decide (List.length (catS l (List.length l)) ≤ 1000000000))
  fun ⟨⟨most, q, _, _, l, _, i, _⟩, ⟨_, ⟨f, ⟨b, n, _, _, _, _, _, _, z, _, _⟩, _⟩, rs, ⟨al, _⟩, ⟨le, _⟩, _⟩⟩ =>
    [((firstFrom (badM most l) 0 (List.length l)).isSome, .ret, mm26St most (.bool false) al l (f, b, n, z, rs) ((firstFrom (badM most l) 0 (List.length l)).getD 0) ((firstFrom (badM most l) 0 (List.length l)).getD 0 + 1)), (true, .exit 6, mm26St most .undef al l (f, b, n, z, rs) (List.length l) (List.length l))]
theorem mm26_lok : LoopOK P0 H.merges2 0 L.cooperagelaw15_SegsMerges_26 mm26LC :=
  loop_ok_of (env_ok consM1_ok) glob0 mixed0 noLoops V.cooperagelaw15_SegsMerges_26 (by decide) fun ⟨⟨most, q, _, _, l, _, i, _⟩, ⟨_, ⟨f, ⟨b, n, _, _, _, _, _, _, z, _, _⟩, _⟩, rs, ⟨al, _⟩, ⟨le, _⟩, _⟩⟩ h hw => by
    simp only [Bool.and_eq_true, decide_eq_true_eq] at h
    obtain ⟨⟨⟨⟨rfl, h1⟩, h2⟩, h3⟩, h4⟩ := h
    obtain rfl : le = [] := List.isEmpty_iff.1 h1
    exact ⟨_, Eq.trans (search_rounds (S := fun i => mm26St most .undef al l (f, b, n, z, rs) i i) (T := fun i => mm26St most (.bool false) al l (f, b, n, z, rs) i (i + 1)) (p := badM most l) (n := List.length l) (e1 := .ret) (e2 := .exit 6) (by simp) (by simp) (fun i hi K => mm26_step most al l (f, b, n, z, rs) h2 h3 h4 i hi K) (fun K => by
      refine (mm26_rd _ _ _ _ _ _ _ _ _ _ _).trans ?_
      rw [cond_neg (by omega)]
      rfl) _ (List.length l) 0 (by omega)) search_pick⟩
noncomputable abbrev consM2 : List (FuncId × Con) := [(I.cooperageref1_SameRecords, .eff (brwOf caseSameR)), (I.segs_Log_Merge, .eff (effOf [caseMerge.e])), (I.cooperageref10_RightLog, .pure (pureOf [caseRlog]))] ++ consD3
theorem consM2_ok : ∀ x ∈ consM2, HoldsC P0 x.1 x.2 := by
  intro x hx
  rcases List.mem_append.1 hx with hx | hx
  · simp at hx
    rcases hx with rfl | rfl | rfl
    · exact brw_holds rsame_ok rfl C.cooperageref1_SameRecords
    · exact ⟨fun args objs r objs2 h _ => effOf_holds (by simp; exact merge_ok) args objs r objs2 h, C.segs_Log_Merge⟩
    · exact ⟨pureOf_holds (by simp; exact rlog_ok), C.cooperageref10_RightLog⟩
  · exact consD3_ok x hx
theorem merges_ev (sz : List Int) (most : Int) : evFn (env consM2) H.merges2 (LPof [(7, mm7LC), (11, mm11LC), (19, mm19LC), (26, mm26LC)]) F.cooperagelaw15_SegsMerges [.vl (.int .i64) sz, .int .i64 most] [] (finT [.bool]) = Option.bind (bif decide ((↑sz.length : Int) > (12 : Int)) then some true else bif decide (most < (0 : Int)) then some true else some (decide (most > (30 : Int)))) fun v => bif v then some (true, ()) else bif decide (sz.length ≤ 12) && true then bif mgFine most 20 (zL (fK sz sz.length) (totK sz sz.length)).fst && true then bif smallL (mgStop most 20 0 (zL (fK sz sz.length) (totK sz sz.length)).fst).snd && decide ((zL (fK sz sz.length) (totK sz sz.length)).snd.snd.snd.snd.length ≤ 1000000000) then bif decide ((segsL ((mgStop most 20 0 (zL (fK sz sz.length) (totK sz sz.length)).fst).snd, (zL (fK sz sz.length) (totK sz sz.length)).snd)).length ≤ 1000000000) && (segsL ((mgStop most 20 0 (zL (fK sz sz.length) (totK sz sz.length)).fst).snd, (zL (fK sz sz.length) (totK sz sz.length)).snd)).all smallS && decide ((catS (segsL ((mgStop most 20 0 (zL (fK sz sz.length) (totK sz sz.length)).fst).snd, (zL (fK sz sz.length) (totK sz sz.length)).snd)) (segsL ((mgStop most 20 0 (zL (fK sz sz.length) (totK sz sz.length)).fst).snd, (zL (fK sz sz.length) (totK sz sz.length)).snd)).length).length ≤ 1000000000) && (firstFrom (badM most (segsL ((mgStop most 20 0 (zL (fK sz sz.length) (totK sz sz.length)).fst).snd, (zL (fK sz sz.length) (totK sz sz.length)).snd))) 0 (segsL ((mgStop most 20 0 (zL (fK sz sz.length) (totK sz sz.length)).fst).snd, (zL (fK sz sz.length) (totK sz sz.length)).snd)).length).isSome then some (false, ()) else bif decide ((segsL ((mgStop most 20 0 (zL (fK sz sz.length) (totK sz sz.length)).fst).snd, (zL (fK sz sz.length) (totK sz sz.length)).snd)).length ≤ 1000000000) && (segsL ((mgStop most 20 0 (zL (fK sz sz.length) (totK sz sz.length)).fst).snd, (zL (fK sz sz.length) (totK sz sz.length)).snd)).all smallS && decide ((catS (segsL ((mgStop most 20 0 (zL (fK sz sz.length) (totK sz sz.length)).fst).snd, (zL (fK sz sz.length) (totK sz sz.length)).snd)) (segsL ((mgStop most 20 0 (zL (fK sz sz.length) (totK sz sz.length)).fst).snd, (zL (fK sz sz.length) (totK sz sz.length)).snd)).length).length ≤ 1000000000) && true then bif decide (catS (segsL ((mgStop most 20 0 (zL (fK sz sz.length) (totK sz sz.length)).fst).snd, (zL (fK sz sz.length) (totK sz sz.length)).snd)) (segsL ((mgStop most 20 0 (zL (fK sz sz.length) (totK sz sz.length)).fst).snd, (zL (fK sz sz.length) (totK sz sz.length)).snd)).length ++ [] = segRecs 0 (totK sz sz.length) ++ []) then bif decide ((mgStop most 20 0 (zL (fK sz sz.length) (totK sz sz.length)).fst).snd.length ≤ 1000000000) then bif (zL (fK sz sz.length) (totK sz sz.length)).snd.snd.fst == (↑(segRecs 0 (totK sz sz.length)).length : Int) then bif smallL (segsL ((mgStop most 20 0 (zL (fK sz sz.length) (totK sz sz.length)).fst).snd, (zL (fK sz sz.length) (totK sz sz.length)).snd)) then some (rightB (segsL ((mgStop most 20 0 (zL (fK sz sz.length) (totK sz sz.length)).fst).snd, (zL (fK sz sz.length) (totK sz sz.length)).snd)), ()) else none else some (false, ()) else none else some (false, ()) else none else none else none else none := by kernel_rfl

end Go.Sim
namespace Go.Sim
set_option linter.unusedSimpArgs false
set_option linter.unusedVariables false
set_option maxRecDepth 10000
def segM (a k : Nat) (t v : Int) : Seg := ((a : Int), ((a + k : Nat) : Int), t, v, segRecs a k, true, false, false, ((bytS (segRecs a k)).length : Int), 0)
def chainM (c : Int) : Nat → List Seg → Nat → Prop
  | a, [], e => a = e
  | a, g :: r, e => ∃ k t v, 0 < k ∧ (0 ≤ t ∧ t ≤ 1000000) ∧ (0 ≤ v ∧ v ≤ c) ∧ g = segM a k t v ∧ chainM c (a + k) r e
theorem chain_mono {c d : Int} (h : c ≤ d) : ∀ (f : List Seg) (a e : Nat), chainM c a f e → chainM d a f e
  | [], a, e, x => x
  | g :: r, a, e, x => by
    obtain ⟨k, t, v, h1, h2, h3, h4, h5⟩ := x
    exact ⟨k, t, v, h1, h2, ⟨h3.1, by omega⟩, h4, chain_mono h r _ _ h5⟩
theorem chain_snoc {c : Int} {k : Nat} {t v : Int} (h1 : 0 < k) (h2 : 0 ≤ t ∧ t ≤ 1000000) (h3 : 0 ≤ v ∧ v ≤ c) : ∀ (f : List Seg) (a e : Nat), chainM c a f e → chainM c a (f ++ [segM e k t v]) (e + k)
  | [], a, e, x => by
    obtain rfl : a = e := x
    exact ⟨k, t, v, h1, h2, h3, rfl, rfl⟩
  | g :: r, a, e, x => by
    obtain ⟨k', t', v', g1, g2, g3, g4, g5⟩ := x
    exact ⟨k', t', v', g1, g2, g3, g4, chain_snoc h1 h2 h3 r _ _ g5⟩
theorem chain_le {c : Int} : ∀ (f : List Seg) (a e : Nat), chainM c a f e → a + f.length ≤ e
  | [], a, e, x => by
    obtain rfl : a = e := x
    simp
  | g :: r, a, e, x => by
    obtain ⟨k, t, v, h1, h2, h3, h4, h5⟩ := x
    have := chain_le r _ _ h5
    simp only [List.length_cons]
    omega
theorem latI_le {l : List Rec} {B : Int} (hB : 0 ≤ B) (h : ∀ r ∈ l, 0 ≤ r.2.1 ∧ r.2.1 ≤ B) : ∀ i, i ≤ l.length → 0 ≤ latI l i ∧ latI l i ≤ B
  | 0, _ => ⟨Int.le_refl _, hB⟩
  | i + 1, hi => by
    have ih := latI_le hB h i (by omega)
    have hr : l.getD i recTy.zero ∈ l := by
      rw [List.getD_eq_getElem?_getD, List.getElem?_eq_getElem (by omega)]
      exact List.getElem_mem (by omega)
    have := h _ hr
    unfold latI
    cases decide (i = 0) || decide ((l.getD i recTy.zero).2.1 > latI l i)
    · exact ih
    · exact this
theorem latS_M {a k : Nat} (h : a + k ≤ 1000000) : 0 ≤ latS (segRecs a k) ∧ latS (segRecs a k) ≤ 1000000 :=
  latI_le (by omega) (fun r hr => by
    unfold segRecs at hr
    obtain ⟨j, hj, rfl⟩ := List.mem_map.1 hr
    have := List.mem_range.1 hj
    show (0 : Int) ≤ ((a + j : Nat) : Int) ∧ ((a + j : Nat) : Int) ≤ 1000000
    omega) _ (Nat.le_refl _)
theorem fK_chain (sz : List Int) : ∀ i, i ≤ 12 → chainM 0 0 (fK sz i) (totK sz i)
  | 0, _ => rfl
  | i + 1, hi => by
    have h1 := totK_le sz i
    have h2 := nK_le sz i
    exact chain_snoc (k := nK sz i) (v := 0) (by unfold nK; omega) (latS_M (a := totK sz i) (k := nK sz i) (by omega)) ⟨Int.le_refl _, Int.le_refl _⟩ (fK sz i) 0 (totK sz i) (fK_chain sz i (by omega))
theorem chain_all {c : Int} (hc : c ≤ 1000) : ∀ (f : List Seg) (a e : Nat), e ≤ 1000 → chainM c a f e → f.all genB = true ∧ f.all smallS = true
  | [], _, _, _, _ => ⟨rfl, rfl⟩
  | g :: r, a, e, he, x => by
    have hl := chain_le _ _ _ x
    obtain ⟨k, t, v, h1, h2, h3, rfl, h5⟩ := x
    have hl2 := chain_le _ _ _ h5
    obtain ⟨i1, i2⟩ := chain_all hc r _ e he h5
    have hk : (segRecs a k).length = k := segRecs_len a k
    refine ⟨?_, ?_⟩
    · rw [List.all_cons, i1, Bool.and_true]
      unfold genB segM
      simp only [Bool.and_eq_true, decide_eq_true_eq]
      omega
    · rw [List.all_cons, i2, Bool.and_true]
      unfold smallS segM
      simp only [decide_eq_true_eq]
      omega
theorem mxZ_le {a b c : Int} (ha : a ≤ c) (hb : b ≤ c) : mxZ a b ≤ c := by unfold mxZ; cases decide (b > a) <;> assumption
theorem mxZ_ge {a b c : Int} (ha : c ≤ a) (hb : c ≤ b) : c ≤ mxZ a b := by unfold mxZ; cases decide (b > a) <;> assumption
theorem merge2_M (a k m : Nat) (t u v w : Int) : merge2 (segM a k t v) (segM (a + k) m u w) = segM a (k + m) (mxZ t u) (mxZ v w + 1) := by
  unfold merge2 segM
  simp only [segRecs_add, Bool.and_false, Nat.add_assoc]
theorem chain_mg {c : Int} : ∀ (i : Nat) (f : List Seg) (a e : Nat), chainM c a f e → i + 1 < f.length → chainM (c + 1) a (mgL f i) e
  | 0, [], _, _, _, h => by simp at h
  | 0, [_], _, _, _, h => by simp at h
  | 0, g :: h :: r, a, e, x, _ => by
    obtain ⟨k, t, v, h1, h2, h3, rfl, m, u, w, h4, h5, h6, rfl, h7⟩ := x
    show chainM (c + 1) a (merge2 (segM a k t v) (segM (a + k) m u w) :: r) e
    rw [merge2_M]
    refine ⟨k + m, _, _, by omega, ⟨mxZ_ge h2.1 h5.1, mxZ_le h2.2 h5.2⟩, ⟨?_, ?_⟩, rfl, ?_⟩
    · have := mxZ_ge h3.1 h6.1
      omega
    · have := mxZ_le h3.2 h6.2
      omega
    · rw [← Nat.add_assoc]
      exact chain_mono (by omega) r _ _ h7
  | i + 1, [], _, _, _, h => by simp at h
  | i + 1, g :: r, a, e, x, h => by
    obtain ⟨k, t, v, h1, h2, h3, h4, h5⟩ := x
    exact ⟨k, t, v, h1, h2, ⟨h3.1, by omega⟩, h4, chain_mg i r _ _ h5 (by simpa using h)⟩
theorem mg_lt {most : Int} {f : List Seg} {j : Nat} (h : mgAt most f = some j) : j + 1 < f.length := by
  have := (firstFrom_spec h).2.2.1
  unfold mgP at this
  simp only [Bool.and_eq_true, decide_eq_true_eq] at this
  exact this.1
theorem mgNx_chain {c : Int} {most : Int} {f : List Seg} {a e : Nat} (h : chainM c a f e) (hs : (mgAt most f).isSome = true) : chainM (c + 1) a (mgNx most f) e ∧ (mgNx most f).length + 1 = f.length := by
  obtain ⟨j, hj⟩ := Option.isSome_iff_exists.1 hs
  have := mg_lt hj
  unfold mgNx
  rw [hj, Option.getD_some]
  refine ⟨chain_mg j f a e h this, ?_⟩
  have := twoOne_len (xs := f) (i := j) (y := merge2 (f.getD j segTy.zero) (f.getD (j + 1) segTy.zero)) (by omega)
  unfold mgL
  omega
theorem fine_M {most : Int} : ∀ (m : Nat) (c : Int) (f : List Seg) (a e : Nat), c + m ≤ 1000 → e ≤ 1000 → chainM c a f e → mgFine most m f = true
  | 0, _, _, _, _, _, _, _ => rfl
  | m + 1, c, f, a, e, hc, he, h => by
    have hl := chain_le _ _ _ h
    have ha := (chain_all (by omega) f a e he h).1
    unfold mgFine
    rw [decide_eq_true (show f.length < 1000000000 by omega), ha]
    cases hs : (mgAt most f).isSome with
    | false => rfl
    | true =>
      rw [fine_M m (c + 1) (mgNx most f) a e (by omega) he (mgNx_chain h hs).1]
      rfl
theorem stop_M {most : Int} : ∀ (m i : Nat) (c : Int) (f : List Seg) (a e : Nat), c + m ≤ 1000 → e ≤ 1000 → chainM c a f e → f.length ≤ m + 1 → ∃ d, d ≤ 1000 ∧ chainM d a (mgStop most m i f).2 e ∧ (mgAt most (mgStop most m i f).2).isSome = false
  | 0, i, c, f, a, e, hc, he, h, hl => by
    refine ⟨c, by omega, h, ?_⟩
    cases hs : (mgAt most f).isSome with
    | false => exact hs
    | true =>
      obtain ⟨j, hj⟩ := Option.isSome_iff_exists.1 hs
      have := mg_lt hj
      omega
  | m + 1, i, c, f, a, e, hc, he, h, hl => by
    unfold mgStop
    cases hs : (mgAt most f).isSome with
    | false => exact ⟨c, by omega, h, hs⟩
    | true =>
      obtain ⟨h1, h2⟩ := mgNx_chain h hs
      exact stop_M m (i + 1) (c + 1) (mgNx most f) a e (by omega) he h1 (by omega)
theorem chain_cat {c : Int} : ∀ (f : List Seg) (a e : Nat), chainM c a f e → (f.map fun g => g.2.2.2.2.1).flatten = segRecs a (e - a)
  | [], a, e, x => by
    obtain rfl : a = e := x
    rw [Nat.sub_self]
    rfl
  | g :: r, a, e, x => by
    obtain ⟨k, t, v, h1, h2, h3, rfl, h5⟩ := x
    have hl := chain_le _ _ _ h5
    rw [List.map_cons, List.flatten_cons, chain_cat r _ _ h5]
    show segRecs a k ++ segRecs (a + k) (e - (a + k)) = _
    rw [segRecs_add]
    congr 1
    omega
/-- What a chain has at a place. -/
theorem chain_at {c : Int} : ∀ (i : Nat) (f : List Seg) (a e : Nat), chainM c a f e → i < f.length → ∃ b k t v, 0 < k ∧ (0 ≤ t ∧ t ≤ 1000000) ∧ (0 ≤ v ∧ v ≤ c) ∧ f.getD i segTy.zero = segM b k t v ∧ b + k ≤ e ∧ (i = 0 → b = a) ∧ (∀ j, i = j + 1 → (f.getD j segTy.zero).2.1 = (b : Int)) ∧ (i + 1 = f.length → b + k = e)
  | _, [], _, _, _, h => by simp at h
  | 0, g :: r, a, e, x, _ => by
    obtain ⟨k, t, v, h1, h2, h3, rfl, h5⟩ := x
    have hl := chain_le _ _ _ h5
    refine ⟨a, k, t, v, h1, h2, h3, rfl, by omega, fun _ => rfl, fun j hj => by omega, fun hl => ?_⟩
    have : r = [] := List.eq_nil_of_length_eq_zero (by simp only [List.length_cons] at hl; omega)
    subst this
    exact h5
  | i + 1, g :: r, a, e, x, h => by
    obtain ⟨k, t, v, h1, h2, h3, rfl, h5⟩ := x
    obtain ⟨b, k', t', v', g1, g2, g3, g4, g5, g6, g7, g8⟩ := chain_at i r _ _ h5 (by simpa using h)
    refine ⟨b, k', t', v', g1, g2, g3, g4, g5, fun h0 => by omega, fun j hj => ?_, fun hl => g8 (by simpa using hl)⟩
    obtain rfl : j = i := by omega
    cases j with
    | zero =>
      rw [g6 rfl]
      rfl
    | succ j => exact g7 j rfl
theorem segRecs_get {a k j : Nat} (h : j < k) : (segRecs a k).getD j recTy.zero = recM (a + j) := by
  unfold segRecs
  rw [List.getD_eq_getElem?_getD, List.getElem?_map, List.getElem?_range h]
  rfl
theorem recR_M {j : Nat} (h : j ≤ 1000000) : recR (recM j) = true := by
  unfold recR recM
  simp
  omega
theorem chainB_M {a k : Nat} {t v : Int} (h : a + k ≤ 1000000) : chainB (segM a k t v) = true := by
  unfold chainB
  have hn : firstFrom (badRc (segM a k t v)) 0 (List.length (segM a k t v).2.2.2.2.1) = none := by
    cases hs : firstFrom (badRc (segM a k t v)) 0 (List.length (segM a k t v).2.2.2.2.1) with
    | none => rfl
    | some j =>
      exfalso
      obtain ⟨_, h2, h3, _⟩ := firstFrom_spec hs
      have hk : (segM a k t v).2.2.2.2.1 = segRecs a k := rfl
      rw [hk, segRecs_len] at h2
      unfold badRc at h3
      rw [hk, segRecs_get (by omega), recR_M (by omega)] at h3
      have e1 : (recM (a + j)).1 = ((a + j : Nat) : Int) := rfl
      have e2 : (segM a k t v).2.1 = ((a + k : Nat) : Int) := rfl
      have e3 : nextR (segM a k t v) j = ((a + j : Nat) : Int) := by
        cases j with
        | zero => rfl
        | succ j =>
          show IntKind.i64.wrap (((segM a k t v).2.2.2.2.1.getD j recTy.zero).1 + 1) = _
          rw [hk, segRecs_get (by omega)]
          show IntKind.i64.wrap (((a + j : Nat) : Int) + 1) = _
          rw [wrap64 (by omega) (by omega)]
          omega
      rw [e1, e2, e3] at h3
      simp at h3
      omega
  rw [hn]
  rfl
theorem may_M {a k : Nat} {t v : Int} (hk : 0 < k) (h : a + k ≤ 1000000) (ht : 0 ≤ t ∧ t ≤ 1000000) (hv : 0 ≤ v) : mayB (segM a k t v) false = true := by
  unfold mayB
  rw [chainB_M h]
  unfold segM
  simp
  omega
theorem may_act {e : Nat} (h : e ≤ 1000000) : mayB (actS (zL [] e)) true = true := by
  have hc : chainB (actS (zL [] e)) = true := rfl
  unfold mayB
  rw [hc]
  unfold actS zL
  simp [bytS]
  omega
theorem segsL_len' (f : List Seg) (e : Nat) : (segsL (zL f e)).length = f.length + 1 := segsL_len _
theorem right_M {c : Int} {f : List Seg} {e : Nat} (hc : c ≤ 1000) (he : e ≤ 1000) (h : chainM c 0 f e) : rightB (segsL (zL f e)) = true := by
  rw [← right_eq]
  unfold rightO
  have hl := segsL_len' f e
  have hn : firstFrom (badO (segsL (zL f e))) 0 (List.length (segsL (zL f e))) = none := by
    cases hs : firstFrom (badO (segsL (zL f e))) 0 (List.length (segsL (zL f e))) with
    | none => rfl
    | some j =>
      exfalso
      obtain ⟨_, h2, h3, _⟩ := firstFrom_spec hs
      rw [hl] at h2
      unfold badO at h3
      by_cases hj : j < f.length
      · have hg : (segsL (zL f e)).getD j segTy.zero = f.getD j segTy.zero := segsL_lt (L := zL f e) hj
        obtain ⟨b, k, t, v, g1, g2, g3, g4, g5, g6, g7, g8⟩ := chain_at j f 0 e h hj
        have hq : (((j + 1 : Nat) : Int) == ((segsL (zL f e)).length : Int)) = false := by rw [hl]; simp; omega
        rw [hg, g4, hq, may_M g1 (by omega) g2 g3.1] at h3
        simp only [Bool.not_true, Bool.false_or, Bool.and_eq_true, decide_eq_true_eq] at h3
        obtain ⟨h3, h4⟩ := h3
        obtain ⟨i, rfl⟩ : ∃ i, j = i + 1 := ⟨j - 1, by omega⟩
        have hp : (segsL (zL f e)).getD i segTy.zero = f.getD i segTy.zero := segsL_lt (L := zL f e) (by show i < f.length; omega)
        rw [show i + 1 - 1 = i from rfl, hp, g7 i rfl] at h4
        have e1 : (segM b k t v).1 = (b : Int) := rfl
        have e2 : (segM b k t v).2.2.2.2.2.2.2.1 = false := rfl
        rw [e1, e2] at h4
        simp at h4
      · obtain rfl : j = f.length := by omega
        have hg : (segsL (zL f e)).getD f.length segTy.zero = actS (zL [] e) := segsL_last (zL f e)
        have hq : (((f.length + 1 : Nat) : Int) == ((segsL (zL f e)).length : Int)) = true := by rw [hl]; simp
        rw [hg, hq, may_act (by omega)] at h3
        simp only [Bool.not_true, Bool.false_or, Bool.and_eq_true, decide_eq_true_eq] at h3
        obtain ⟨h3, h4⟩ := h3
        obtain ⟨i, hi⟩ : ∃ i, f.length = i + 1 := ⟨f.length - 1, by omega⟩
        obtain ⟨b, k, t, v, g1, g2, g3, g4, g5, g6, g7, g8⟩ := chain_at i f 0 e h (by omega)
        have hp : (segsL (zL f e)).getD i segTy.zero = f.getD i segTy.zero := segsL_lt (L := zL f e) (by show i < f.length; omega)
        rw [hi, show i + 1 - 1 = i from rfl, hp, g4] at h4
        have e1 : (actS (zL [] e)).1 = (e : Int) := rfl
        have e2 : (actS (zL [] e)).2.2.2.2.2.2.2.1 = false := rfl
        have e3 : (segM b k t v).2.1 = ((b + k : Nat) : Int) := rfl
        rw [e1, e2, e3, g8 hi.symm] at h4
        simp at h4
  rw [hn, hl]
  simp
theorem cat_M {c : Int} {f : List Seg} {e : Nat} (h : chainM c 0 f e) : catS (segsL (zL f e)) (segsL (zL f e)).length = segRecs 0 e := by
  unfold catS
  rw [List.take_length]
  unfold segsL
  rw [List.map_append, List.flatten_append]
  have h1 := chain_cat f 0 e h
  show (f.map fun g => g.2.2.2.2.1).flatten ++ _ = _
  rw [h1]
  simp [actS, zL]
theorem none_bad {c most : Int} {f : List Seg} {e : Nat} (h : chainM c 0 f e) (hs : (mgAt most f).isSome = false) : (firstFrom (badM most (segsL (zL f e))) 0 (segsL (zL f e)).length).isSome = false := by
  have hl := segsL_len' f e
  have hm : mgAt most f = none := by
    cases hh : mgAt most f with
    | none => rfl
    | some j => rw [hh] at hs; cases hs
  cases hs2 : firstFrom (badM most (segsL (zL f e))) 0 (List.length (segsL (zL f e))) with
  | none => rfl
  | some j =>
    exfalso
    obtain ⟨_, h2, h3, _⟩ := firstFrom_spec hs2
    unfold badM at h3
    simp only [Bool.and_eq_true, decide_eq_true_eq] at h3
    obtain ⟨h3, h4⟩ := h3
    rw [hl] at h3
    have h5 := firstFrom_none hm j (Nat.zero_le _) (by omega)
    obtain ⟨b, k, t, v, g1, g2, g3, g4, _⟩ := chain_at j f 0 e h (by omega)
    obtain ⟨b', k', t', v', g1', g2', g3', g4', _⟩ := chain_at (j + 1) f 0 e h (by omega)
    have p1 : (segsL (zL f e)).getD j segTy.zero = f.getD j segTy.zero := segsL_lt (L := zL f e) (by show j < f.length; omega)
    have p2 : (segsL (zL f e)).getD (j + 1) segTy.zero = f.getD (j + 1) segTy.zero := segsL_lt (L := zL f e) (by show j + 1 < f.length; omega)
    unfold lenG at h4
    rw [p1, p2, g4, g4'] at h4
    unfold mgP at h5
    rw [g4, g4', decide_eq_true h4, decide_eq_true (show j + 1 < f.length by omega)] at h5
    cases h5
theorem merges_val (sz : List Int) (most : Int) : evFn (env consM2) H.merges2 (LPof [(7, mm7LC), (11, mm11LC), (19, mm19LC), (26, mm26LC)]) F.cooperagelaw15_SegsMerges [.vl (.int .i64) sz, .int .i64 most] [] (finT [.bool]) = some (true, ()) := by
  rw [merges_ev]
  by_cases h1 : (sz.length : Int) > 12
  · rw [cond_pos h1]; rfl
  by_cases h2 : most < 0
  · rw [cond_neg h1, cond_pos h2]; rfl
  by_cases h3 : most > 30
  · rw [cond_neg h1, cond_neg h2, decide_eq_true h3]; rfl
  rw [cond_neg h1, cond_neg h2, decide_eq_false h3, Option.bind_some, cond_false]
  have hl : sz.length ≤ 12 := by omega
  have ht := totK_le sz sz.length
  have hch := fK_chain sz sz.length hl
  have hfl := fK_len sz sz.length
  have hfine : mgFine most 20 (zL (fK sz sz.length) (totK sz sz.length)).1 = true := fine_M 20 0 (fK sz sz.length) 0 (totK sz sz.length) (by decide) (by omega) hch
  obtain ⟨d, d1, d2, d3⟩ := stop_M (most := most) 20 0 0 (fK sz sz.length) 0 (totK sz sz.length) (by decide) (by omega) hch (by omega)
  have hM : (mgStop most 20 0 (zL (fK sz sz.length) (totK sz sz.length)).1).2 = (mgStop most 20 0 (fK sz sz.length)).2 := rfl
  rw [hM, hfine]
  obtain ⟨M, hMe⟩ : ∃ M, M = (mgStop most 20 0 (fK sz sz.length)).2 := ⟨_, rfl⟩
  obtain ⟨e, hee⟩ : ∃ e, e = totK sz sz.length := ⟨_, rfl⟩
  rw [← hMe] at d2 d3 ⊢
  rw [← hee] at d2 ht ⊢
  have hz : (M, (zL (fK sz sz.length) e).2) = zL M e := rfl
  rw [hz]
  have hle := chain_le _ _ _ d2
  have hall := (chain_all d1 M 0 e (by omega) d2).2
  have hlen := segsL_len' M e
  have hsm : (segsL (zL M e)).all smallS = true := by
    unfold segsL
    rw [List.all_append, show (zL M e).1 = M from rfl, hall]
    rfl
  have c1 : smallL M = true := by unfold smallL; rw [hall, decide_eq_true (show M.length ≤ 1000000000 by omega)]; rfl
  have c2 : smallL (segsL (zL M e)) = true := by unfold smallL; rw [hsm, decide_eq_true (show (segsL (zL M e)).length ≤ 1000000000 by omega)]; rfl
  have c3 : decide ((zL (fK sz sz.length) e).2.2.2.2.length ≤ 1000000000) = true := rfl
  have c4 : decide ((segsL (zL M e)).length ≤ 1000000000) = true := decide_eq_true (by omega)
  have c5 : decide (M.length ≤ 1000000000) = true := decide_eq_true (by omega)
  have hcat := cat_M d2
  have hnb := none_bad d2 d3
  have hr := right_M d1 (by omega) d2
  have hsr := segRecs_len 0 e
  have c6 : decide ((segRecs 0 e).length ≤ 1000000000) = true := decide_eq_true (by omega)
  have c7 : ((zL (fK sz sz.length) e).2.2.1 == ((segRecs 0 e).length : Int)) = true := by rw [hsr]; show ((e : Int) == (e : Int)) = true; simp
  rw [c1, c3, c4, hsm, hcat, hnb, c5, c6, c7, c2, hr, decide_eq_true hl]
  simp
def caseMerges : PCase := ⟨[.ty (.sl (.int .i64)), .ty (.int .i64)], [.bool], fun _ => [(true, (true, ()))]⟩
theorem merges_ok : caseMerges.ok P0 I.cooperagelaw15_SegsMerges := case_ok2 (H := H.merges2) (E := env consM2) (env_ok consM2_ok) glob0 mixed0 G.cooperagelaw15_SegsMerges Bd.cooperagelaw15_SegsMerges (by kernel_rfl)
    (loops_good (tab := [(7, mm7LC), (11, mm11LC), (19, mm19LC), (26, mm26LC)]) (by kernel_rfl) (fun x hx => by simp at hx; rcases hx with rfl | rfl | rfl | rfl; exact mm7_lok; exact mm11_lok; exact mm19_lok; exact mm26_lok)) fun ⟨sz, most, ()⟩ y h hw => by
  obtain ⟨hc, rfl⟩ := pick_pre h
  exact merges_val sz most
theorem merges_good (x : tysDen [.sl (.int .i64), .int .i64]) (hw : tysWf [.sl (.int .i64), .int .i64] x) : ∃ o, EffGood P0 I.cooperagelaw15_SegsMerges (valsOf [.sl (.int .i64), .int .i64] x) [] (.bool true) o := merges_ok x (true, ()) rfl hw

end Go.Sim
