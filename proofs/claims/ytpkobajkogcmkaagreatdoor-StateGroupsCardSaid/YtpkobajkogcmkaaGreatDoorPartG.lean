/-
  WkZ1: walks of the law StateGroups. · WkX6: StateOnce: the outer loop. · WkX7: the law StateOnce. · WkZ2: the law StateGroups. · LdN: what the rows say of the tables of package utf8 holds of the tables of PlTab.
-/
import Derived.Test.YtpkobajkogcmkaaGreatDoorRows
import Derived.OpenShut
import Derived.MakeChecks
import Derived.FnData
import Derived.Test.YtpkobajkogcmkaaGreatDoorPartF
namespace Go.Sim
set_option linter.unusedSimpArgs false
set_option linter.unusedVariables false
set_option maxRecDepth 10000
open Go.Sim.XU
def caseCrightT : PCase := ⟨[.ty cmdT], [.bool], fun x => [(rightC x.1, (true, ()))]⟩
theorem crightT_ok : caseCrightT.ok P0 I.command_Right := fun ⟨c, u⟩ y h hw => by
  obtain ⟨hc, rfl⟩ := pick_pre h
  refine XS.cright_ok ⟨c, u⟩ _ ?_ hw
  show pick [(true, (rightC c, ()))] = _
  rw [hc]
  rfl
theorem setG_zero {xs : List Row2} {r : Row2} (h : validL r.1 = true) (h2 : hasG xs r.1 = true ∨ xs.length < 100) : (setG xs r).2 = 0 := by
  unfold setG
  rw [h, Bool.not_true, cond_false]
  cases hh : hasG xs r.1 with
  | true => rfl
  | false =>
    rw [hh] at h2
    rw [cond_false, cond_neg (by rcases h2 with h2 | h2 <;> first | cases h2 | omega)]
def caseGsetOT : VCase := ⟨[.lit (.ptr 0 (.tl 0) 0), .str, .int .i64], [.box 1 [[.lit (.hw 1)]], .arr 2 XG.rowS []], .int .i64, [.box 1 [[.lit (.hw 1)]], .arr 2 XG.rowS []], fun ⟨_, p, o, _⟩ ⟨_, ⟨xs, _⟩, _⟩ =>
  [(sortedG xs && decide (List.length xs ≤ 1000000) && (validL p && hasG xs p), ((0 : Int), ((((), ()), ()), ((setG xs (p, o)).1, ()), ())))]⟩
theorem gsetot_ok : caseGsetOT.e.ok P0 I.groups_Table_Set := fun ⟨u, p, o, u2⟩ ⟨v, ⟨xs, w⟩, v2⟩ r objs' hxy hw1 hw2 => by
  obtain ⟨z, hz, e0⟩ := pick_mapAlt hxy
  cases e0
  obtain ⟨hc, rfl⟩ := pick_pre hz
  have hc : (sortedG xs && decide (List.length xs ≤ 1000000) && (validL p && hasG xs p)) = true := hc
  refine XG.gseto_ok ⟨u, p, o, u2⟩ ⟨v, ⟨xs, w⟩, v2⟩ _ _ ?_ hw1 hw2
  rw [Bool.and_eq_true, Bool.and_eq_true (validL p)] at hc
  have e : (setG xs (p, o)).2 = 0 := setG_zero hc.2.1 (.inl hc.2.2)
  have e2 : (sortedG xs && decide (List.length xs ≤ 1000000) && (!validL p || hasG xs p || decide ((List.length xs : Int) ≥ 100))) = true := by rw [hc.1, hc.2.1, hc.2.2]; rfl
  show pick [(sortedG xs && decide (List.length xs ≤ 1000000) && (!validL p || hasG xs p || decide ((List.length xs : Int) ≥ 100)), _)] = _
  rw [e2, e]
  rfl
def caseGsetNT : VCase := ⟨[.lit (.ptr 0 (.tl 0) 0), .str, .int .i64], [.box 1 [[.lit (.hw 1)]], .arr 2 XG.rowS []], .int .i64, [.box 1 [[.lit (.hw 2)]], .dead, .arr 2 XG.rowS []], fun ⟨_, p, o, _⟩ ⟨_, ⟨xs, _⟩, _⟩ =>
  [(sortedG xs && decide (List.length xs ≤ 99) && (validL p && !hasG xs p), ((0 : Int), ((((), ()), ()), (), ((setG xs (p, o)).1, ()), ())))]⟩
theorem gsetnt_ok : caseGsetNT.e.ok P0 I.groups_Table_Set := fun ⟨u, p, o, u2⟩ ⟨v, ⟨xs, w⟩, v2⟩ r objs' hxy hw1 hw2 => by
  obtain ⟨z, hz, e0⟩ := pick_mapAlt hxy
  cases e0
  obtain ⟨hc, rfl⟩ := pick_pre hz
  have hc : (sortedG xs && decide (List.length xs ≤ 99) && (validL p && !hasG xs p)) = true := hc
  refine XG.gsetn_ok ⟨u, p, o, u2⟩ ⟨v, ⟨xs, w⟩, v2⟩ _ _ ?_ hw1 hw2
  simp only [Bool.and_eq_true, decide_eq_true_eq, Bool.not_eq_true'] at hc
  obtain ⟨⟨h1, h2⟩, h3, h4⟩ := hc
  have e : (setG xs (p, o)).2 = 0 := setG_zero h3 (.inr (by omega))
  have e2 : (sortedG xs && decide (List.length xs ≤ 1000000) && !(!validL p || hasG xs p || decide ((List.length xs : Int) ≥ 100))) = true := by
    rw [h1, h3, h4, decide_eq_true (show List.length xs ≤ 1000000 by omega), decide_eq_false (show ¬ (List.length xs : Int) ≥ 100 by omega)]
    rfl
  show pick [(sortedG xs && decide (List.length xs ≤ 1000000) && !(!validL p || hasG xs p || decide ((List.length xs : Int) ≥ 100)), _)] = _
  rw [e2, e]
  rfl
def caseGsetT : ECase := ⟨caseGsetOT.ins, caseGsetOT.objs, fun x y => caseGsetOT.e.f x y ++ caseGsetNT.e.f x y⟩
theorem gsett_ok : caseGsetT.ok P0 I.groups_Table_Set := fun x y r objs' h hw1 hw2 => by
  rcases XG.pick_or h with h | h
  · exact gsetot_ok x y r objs' h hw1 hw2
  · exact gsetnt_ok x y r objs' h hw1 hw2
noncomputable abbrev consP1 : List (FuncId × Con) := [(I.groups_Table_Get, .eff (effOf [XG.caseGget.e, XG.caseGget0.e])), (I.groups_Table_Set, .eff (effOf [caseGsetT, XG.caseGset0.e])), (I.groups_Table_Rows, .eff (effOf [XG.caseGrows.e, XG.caseGrows0.e]))] ++ consQ1
theorem consP1_ok : ∀ x ∈ consP1, HoldsC P0 x.1 x.2 := by
  intro x hx
  rcases List.mem_append.1 hx with hx | hx
  · simp at hx
    rcases hx with rfl | rfl | rfl
    · exact ⟨fun args objs r objs2 h _ => effOf_holds (by simp; exact ⟨XG.gget_ok, XG.gget0_ok⟩) args objs r objs2 h, C.groups_Table_Get⟩
    · exact ⟨fun args objs r objs2 h _ => effOf_holds (by simp; exact ⟨gsett_ok, XG.gset0_ok⟩) args objs r objs2 h, C.groups_Table_Set⟩
    · exact ⟨fun args objs r objs2 h _ => effOf_holds (by simp; exact ⟨XG.grows_ok, XG.grows0_ok⟩) args objs r objs2 h, C.groups_Table_Rows⟩
  · exact consQ1_ok x hx
noncomputable abbrev consP2 : List (FuncId × Con) := [(I.state_State_out, inl (env consQ1) H.out2 F.state_State_out (fun R k0 => loopsF (env consQ1) H.out2 k0 B.state_State_out 1))] ++ consP1
theorem consP2_ok : ∀ x ∈ consP2, HoldsC P0 x.1 x.2 := by
  intro x hx
  rcases List.mem_append.1 hx with hx | hx
  · simp at hx
    subst hx
    exact inl_ok (env_ok consQ1_ok) glob0 mixed0 G.state_State_out Bd.state_State_out C.state_State_out (fun R k0 => loopsF_good (env_ok consQ1_ok) glob0 mixed0 (by kernel_rfl) 1)
  · exact consP1_ok x hx
noncomputable abbrev consP3 : List (FuncId × Con) := [(I.state_typed, inl (env []) H.state_typed F.state_typed (fun R k0 => loopsF (env []) H.state_typed k0 B.state_typed 1)), (I.state_State_produce, inl (env consQ1) H.state_State_produce F.state_State_produce (fun R k0 => loopsF (env consQ1) H.state_State_produce k0 B.state_State_produce 1)), (I.state_State_tidy, inl (env consQ1) H.state_State_tidy F.state_State_tidy (fun R k0 => loopsF (env consQ1) H.state_State_tidy k0 B.state_State_tidy 1)), (I.state_State_commit, inl (env consP2) H.state_State_commit F.state_State_commit (fun R k0 => loopsF (env consP2) H.state_State_commit k0 B.state_State_commit 1)), (I.state_State_group, inl (env consP1) H.state_State_group F.state_State_group (fun R k0 => loopsF (env consP1) H.state_State_group k0 B.state_State_group 1)), (I.command_Right, .pure (pureOf [caseCrightT]))] ++ consQ1
theorem consP3_ok : ∀ x ∈ consP3, HoldsC P0 x.1 x.2 := by
  intro x hx
  rcases List.mem_append.1 hx with hx | hx
  · simp at hx
    rcases hx with rfl | rfl | rfl | rfl | rfl | rfl
    · exact inl_ok (env_ok env_nil) glob0 mixed0 G.state_typed Bd.state_typed C.state_typed (fun R k0 => loopsF_good (env_ok env_nil) glob0 mixed0 (by kernel_rfl) 1)
    · exact inl_ok (env_ok consQ1_ok) glob0 mixed0 G.state_State_produce Bd.state_State_produce C.state_State_produce (fun R k0 => loopsF_good (env_ok consQ1_ok) glob0 mixed0 (by kernel_rfl) 1)
    · exact inl_ok (env_ok consQ1_ok) glob0 mixed0 G.state_State_tidy Bd.state_State_tidy C.state_State_tidy (fun R k0 => loopsF_good (env_ok consQ1_ok) glob0 mixed0 (by kernel_rfl) 1)
    · exact inl_ok (env_ok consP2_ok) glob0 mixed0 G.state_State_commit Bd.state_State_commit C.state_State_commit (fun R k0 => loopsF_good (env_ok consP2_ok) glob0 mixed0 (by kernel_rfl) 1)
    · exact inl_ok (env_ok consP1_ok) glob0 mixed0 G.state_State_group Bd.state_State_group C.state_State_group (fun R k0 => loopsF_good (env_ok consP1_ok) glob0 mixed0 (by kernel_rfl) 1)
    · exact ⟨pureOf_holds (by simp; exact crightT_ok), C.command_Right⟩
  · exact consQ1_ok x hx
noncomputable abbrev consP4 : List (FuncId × Con) := [(I.cooperagelaw16_alive, .pure (pureOf [caseAlive16])), (I.cooperagelaw16_num, .pure (pureOf [caseNum16])), (I.state_New, inl (env consQ1) H.state_New F.state_New (fun R k0 => loopsF (env consQ1) H.state_New k0 B.state_New 1)), (I.state_State_Apply, inl (env consP3) H.state_State_Apply F.state_State_Apply (fun R k0 => loopsF (env consP3) H.state_State_Apply k0 B.state_State_Apply 1)), (I.state_State_Groups, inl (env consP1) H.state_State_Groups F.state_State_Groups (fun R k0 => loopsF (env consP1) H.state_State_Groups k0 B.state_State_Groups 1)), (I.cooperageref1_Valid, .pure (pureOf [caseRValid])), (I.cooperageref10_Places_Set, .eff (effOf [XG.caseGrset.e])), (I.cooperagelaw12_SameRows, .pure (pureOf [XG.caseGsrows]))] ++ consQ1
theorem consP4_ok : ∀ x ∈ consP4, HoldsC P0 x.1 x.2 := by
  intro x hx
  rcases List.mem_append.1 hx with hx | hx
  · simp at hx
    rcases hx with rfl | rfl | rfl | rfl | rfl | rfl | rfl | rfl
    · exact ⟨pureOf_holds (by simp; exact alive16_ok), C.cooperagelaw16_alive⟩
    · exact ⟨pureOf_holds (by simp; exact num16_ok), C.cooperagelaw16_num⟩
    · exact inl_ok (env_ok consQ1_ok) glob0 mixed0 G.state_New Bd.state_New C.state_New (fun R k0 => loopsF_good (env_ok consQ1_ok) glob0 mixed0 (by kernel_rfl) 1)
    · exact inl_ok (env_ok consP3_ok) glob0 mixed0 G.state_State_Apply Bd.state_State_Apply C.state_State_Apply (fun R k0 => loopsF_good (env_ok consP3_ok) glob0 mixed0 (by kernel_rfl) 1)
    · exact inl_ok (env_ok consP1_ok) glob0 mixed0 G.state_State_Groups Bd.state_State_Groups C.state_State_Groups (fun R k0 => loopsF_good (env_ok consP1_ok) glob0 mixed0 (by kernel_rfl) 1)
    · exact ⟨pureOf_holds (by simp; exact rvalid_ok), C.cooperageref1_Valid⟩
    · exact ⟨fun args objs r objs2 h _ => effOf_holds (by simp; exact XG.grset_ok) args objs r objs2 h, C.cooperageref10_Places_Set⟩
    · exact ⟨pureOf_holds (by simp; exact XG.gsrows_ok), C.cooperagelaw12_SameRows⟩
  · exact consQ1_ok x hx
def H.gro2 : Hint := { H.cooperagelaw16_StateGroups with vs := [46], join := [(2, 36), (13, 76), (21, 133)] }
theorem g6_rd {R : Type} (nn i : Int) (ms : List Int) (ns : List (List UInt8)) (c1 c2 c3 c4 : Int) (f : List Seg) (b n z : Int) (rs : List Rec) (K : Ex → St → Option R) : roundK (env consP4) H.gro2 0 (LPof []) V.cooperagelaw16_StateGroups_6 L.cooperagelaw16_StateGroups_6 ⟨[(0, .int .i64 nn), (1, .vl (.int .i64) ms), (2, .vl .str ns), (8, .ptr 0 (.tl 0) 0), (9, .int .i64 i)], stAO c1 c2 c3 c4 f b n z rs, 6⟩ K = bif decide (i < nn) then bif okB 500000000 (f, b, n, z, rs) then K Ex.normal { slots := [(0, AV.int IntKind.i64 nn), (1, AV.vl (Ty.int IntKind.i64) ms), (2, AV.vl Ty.str ns), (8, AV.ptr 0 (Elt.tl 0) 0), (9, AV.int IntKind.i64 (IntKind.i64.wrap (i + (1 : Int))))], objs := [(0, AObj.arr 7 Ty.bool [] [[AV.ptr 1 (Elt.tl 0) 0, AV.int IntKind.i64 c1, AV.int IntKind.i64 c2, AV.int IntKind.i64 c3, AV.int IntKind.i64 c4, AV.ptr 4 (Elt.tl 0) 0, AV.ptr 5 (Elt.tl 0) 0]]), (1, AObj.arr 1 Ty.bool [] [[AV.hw 2]]), (2, AObj.arr 10 segTy (apL c1 [((0 : Int), (0 : Int), [(107 : UInt8)], [], false)] (f, b, n, z, rs) 1).fst [[AV.int IntKind.i64 (apL c1 [((0 : Int), (0 : Int), [(107 : UInt8)], [], false)] (f, b, n, z, rs) 1).snd.fst, AV.int IntKind.i64 (apL c1 [((0 : Int), (0 : Int), [(107 : UInt8)], [], false)] (f, b, n, z, rs) 1).snd.snd.fst, AV.int IntKind.i64 (0 : Int), AV.int IntKind.i64 (0 : Int), AV.hw 3, AV.bool false, AV.bool false, AV.bool false, AV.int IntKind.i64 (apL c1 [((0 : Int), (0 : Int), [(107 : UInt8)], [], false)] (f, b, n, z, rs) 1).snd.snd.snd.fst, AV.int IntKind.u32 (0 : Int)]]), (3, AObj.log recTy (apL c1 [((0 : Int), (0 : Int), [(107 : UInt8)], [], false)] (f, b, n, z, rs) 1).snd.snd.snd.snd), (4, AObj.arr 1 Ty.bool [] [[AV.nils]]), (5, AObj.arr 1 Ty.bool [] [[AV.nils]])], nx := 6 } else none else K (Ex.exit 0) { slots := [(0, AV.int IntKind.i64 nn), (1, AV.vl (Ty.int IntKind.i64) ms), (2, AV.vl Ty.str ns), (8, AV.ptr 0 (Elt.tl 0) 0), (9, AV.int IntKind.i64 i)], objs := [(0, AObj.arr 7 Ty.bool [] [[AV.ptr 1 (Elt.tl 0) 0, AV.int IntKind.i64 c1, AV.int IntKind.i64 c2, AV.int IntKind.i64 c3, AV.int IntKind.i64 c4, AV.ptr 4 (Elt.tl 0) 0, AV.ptr 5 (Elt.tl 0) 0]]), (1, AObj.arr 1 Ty.bool [] [[AV.hw 2]]), (2, AObj.arr 10 segTy f [[AV.int IntKind.i64 b, AV.int IntKind.i64 n, AV.int IntKind.i64 (0 : Int), AV.int IntKind.i64 (0 : Int), AV.hw 3, AV.bool false, AV.bool false, AV.bool false, AV.int IntKind.i64 z, AV.int IntKind.u32 (0 : Int)]]), (3, AObj.log recTy rs), (4, AObj.arr 1 Ty.bool [] [[AV.nils]]), (5, AObj.arr 1 Ty.bool [] [[AV.nils]])], nx := 6 } := by kernel_rfl

abbrev gSl (nn : Int) (ms : List Int) (ns : List (List UInt8)) (q : AV) (k : Nat) (i : Int) : Slots := [(0, .int .i64 nn), (1, .vl (.int .i64) ms), (2, .vl .str ns), (6, q), (8, .ptr 0 (.tl 0) 0), (10, .ptr k (.tl 0) 0), (11, .int .i64 i)]
abbrev gON (f : List Seg) (b n z : Int) (rs : List Rec) (xs : List Row2) : List (Nat × AObj) := [(0, .arr 7 .bool [] [[.ptr 1 (.tl 0) 0, .int .i64 100, .int .i64 0, .int .i64 0, .int .i64 0, .ptr 4 (.tl 0) 0, .ptr 5 (.tl 0) 0]]), (1, .arr 1 .bool [] [[.hw 2]]), (2, .arr 10 segT f [actT b n z]), (3, .log recT rs), (4, .arr 1 .bool [] [[.nils]]), (5, .arr 1 .bool [] [[.nils]]), (6, .arr 1 .bool [] [[.vl XG.rowS xs]])]
abbrev gOR (f : List Seg) (b n z : Int) (rs : List Rec) (gs xs : List Row2) : List (Nat × AObj) := [(0, .arr 7 .bool [] [[.ptr 1 (.tl 0) 0, .int .i64 100, .int .i64 0, .int .i64 0, .int .i64 0, .ptr 4 (.tl 0) 0, .ptr 6 (.tl 0) 0]]), (1, .arr 1 .bool [] [[.hw 2]]), (2, .arr 10 segT f [actT b n z]), (3, .log recT rs), (4, .arr 1 .bool [] [[.hw 5]]), (5, .arr 2 XG.rowS gs []), (6, .arr 1 .bool [] [[.nils]]), (7, .arr 1 .bool [] [[.vl XG.rowS xs]])]
theorem g11n_rd {R : Type} (nn i : Int) (ms : List Int) (ns : List (List UInt8)) (xs : List Row2) (f : List Seg) (b n z : Int) (rs : List Rec) (K : Ex → St → Option R) : roundK (env consP4) H.gro2 0 (LPof []) V.cooperagelaw16_StateGroups_11 L.cooperagelaw16_StateGroups_11 ⟨gSl nn ms ns .undef 6 i, gON f b n z rs xs, 7⟩ K = bif decide (i < (↑ms.length : Int)) then Option.bind (bif decide ((0 : Int) ≤ i) && decide (i < (↑ns.length : Int)) then bif !validL (ns.getD i.toNat []) then some true else bif decide ((0 : Int) ≤ i) && decide (i < (↑ms.length : Int)) then bif decide (ms.getD i.toNat (0 : Int) < (0 : Int)) then some true else bif decide ((0 : Int) ≤ i) && decide (i < (↑ms.length : Int)) then some (decide (ms.getD i.toNat (0 : Int) > (1125899906842624 : Int))) else none else none else none) fun v => bif v then K Ex.ret { slots := [(0, AV.int IntKind.i64 nn), (1, AV.vl (Ty.int IntKind.i64) ms), (2, AV.vl Ty.str ns), (6, AV.bool true), (8, AV.ptr 0 (Elt.tl 0) 0), (10, AV.ptr 6 (Elt.tl 0) 0), (11, AV.int IntKind.i64 i)], objs := [(0, AObj.arr 7 Ty.bool [] [[AV.ptr 1 (Elt.tl 0) 0, AV.int IntKind.i64 (100 : Int), AV.int IntKind.i64 (0 : Int), AV.int IntKind.i64 (0 : Int), AV.int IntKind.i64 (0 : Int), AV.ptr 4 (Elt.tl 0) 0, AV.ptr 5 (Elt.tl 0) 0]]), (1, AObj.arr 1 Ty.bool [] [[AV.hw 2]]), (2, AObj.arr 10 segTy f [[AV.int IntKind.i64 b, AV.int IntKind.i64 n, AV.int IntKind.i64 (0 : Int), AV.int IntKind.i64 (0 : Int), AV.hw 3, AV.bool false, AV.bool false, AV.bool false, AV.int IntKind.i64 z, AV.int IntKind.u32 (0 : Int)]]), (3, AObj.log recTy rs), (4, AObj.arr 1 Ty.bool [] [[AV.nils]]), (5, AObj.arr 1 Ty.bool [] [[AV.nils]]), (6, AObj.arr 1 Ty.bool [] [[AV.vl (Ty.str.pair (Ty.int IntKind.i64)) xs]])], nx := 7 } else bif decide ((0 : Int) ≤ i) && decide (i < (↑ns.length : Int)) then bif decide ((0 : Int) ≤ i) && decide (i < (↑ms.length : Int)) then bif rightC ((3 : Int), (0 : Int), (0 : Int), [], ns.getD i.toNat [], ms.getD i.toNat (0 : Int), (0 : Int), (0 : Int), (0 : Int), (0 : Int), (0 : Int), (0 : Int), (0 : Int)) then bif decide (ms.getD i.toNat (0 : Int) < lowP (f, b, n, z, rs)) then bif decide ((0 : Int) ≤ i) && decide (i < (↑ms.length : Int)) then bif decide (ms.getD i.toNat (0 : Int) > nn) then K Ex.normal { slots := [(0, AV.int IntKind.i64 nn), (1, AV.vl (Ty.int IntKind.i64) ms), (2, AV.vl Ty.str ns), (6, AV.undef), (8, AV.ptr 0 (Elt.tl 0) 0), (10, AV.ptr 6 (Elt.tl 0) 0), (11, AV.int IntKind.i64 (IntKind.i64.wrap (i + (1 : Int))))], objs := [(0, AObj.arr 7 Ty.bool [] [[AV.ptr 1 (Elt.tl 0) 0, AV.int IntKind.i64 (100 : Int), AV.int IntKind.i64 (0 : Int), AV.int IntKind.i64 (0 : Int), AV.int IntKind.i64 (0 : Int), AV.ptr 4 (Elt.tl 0) 0, AV.ptr 5 (Elt.tl 0) 0]]), (1, AObj.arr 1 Ty.bool [] [[AV.hw 2]]), (2, AObj.arr 10 segTy f [[AV.int IntKind.i64 b, AV.int IntKind.i64 n, AV.int IntKind.i64 (0 : Int), AV.int IntKind.i64 (0 : Int), AV.hw 3, AV.bool false, AV.bool false, AV.bool false, AV.int IntKind.i64 z, AV.int IntKind.u32 (0 : Int)]]), (3, AObj.log recTy rs), (4, AObj.arr 1 Ty.bool [] [[AV.nils]]), (5, AObj.arr 1 Ty.bool [] [[AV.nils]]), (6, AObj.arr 1 Ty.bool [] [[AV.vl (Ty.str.pair (Ty.int IntKind.i64)) xs]])], nx := 7 } else bif decide ((0 : Int) ≤ i) && decide (i < (↑ns.length : Int)) then bif decide ((0 : Int) ≤ i) && decide (i < (↑ms.length : Int)) then bif decide (xs.length ≤ 1000000) then bif decide ((0 : Int) ≤ i) && decide (i < (↑ns.length : Int)) then bif rightC ((4 : Int), (0 : Int), (0 : Int), [], ns.getD i.toNat [], (0 : Int), (0 : Int), (0 : Int), (0 : Int), (0 : Int), (0 : Int), (0 : Int), (0 : Int)) then K Ex.ret { slots := [(0, AV.int IntKind.i64 nn), (1, AV.vl (Ty.int IntKind.i64) ms), (2, AV.vl Ty.str ns), (6, AV.bool false), (8, AV.ptr 0 (Elt.tl 0) 0), (10, AV.ptr 6 (Elt.tl 0) 0), (11, AV.int IntKind.i64 i)], objs := [(0, AObj.arr 7 Ty.bool [] [[AV.ptr 1 (Elt.tl 0) 0, AV.int IntKind.i64 (100 : Int), AV.int IntKind.i64 (0 : Int), AV.int IntKind.i64 (0 : Int), AV.int IntKind.i64 (0 : Int), AV.ptr 4 (Elt.tl 0) 0, AV.ptr 5 (Elt.tl 0) 0]]), (1, AObj.arr 1 Ty.bool [] [[AV.hw 2]]), (2, AObj.arr 10 segTy f [[AV.int IntKind.i64 b, AV.int IntKind.i64 n, AV.int IntKind.i64 (0 : Int), AV.int IntKind.i64 (0 : Int), AV.hw 3, AV.bool false, AV.bool false, AV.bool false, AV.int IntKind.i64 z, AV.int IntKind.u32 (0 : Int)]]), (3, AObj.log recTy rs), (4, AObj.arr 1 Ty.bool [] [[AV.nils]]), (5, AObj.arr 1 Ty.bool [] [[AV.nils]]), (6, AObj.arr 1 Ty.bool [] [[AV.vl (Ty.str.pair (Ty.int IntKind.i64)) (setG xs (ns.getD i.toNat [], ms.getD i.toNat (0 : Int))).fst]])], nx := 7 } else none else none else none else none else none else none else bif decide (f.length ≤ 1000000000) then bif decide (ms.getD i.toNat (0 : Int) > n) then bif decide ((0 : Int) ≤ i) && decide (i < (↑ms.length : Int)) then bif decide (ms.getD i.toNat (0 : Int) > nn) then K Ex.normal { slots := [(0, AV.int IntKind.i64 nn), (1, AV.vl (Ty.int IntKind.i64) ms), (2, AV.vl Ty.str ns), (6, AV.undef), (8, AV.ptr 0 (Elt.tl 0) 0), (10, AV.ptr 6 (Elt.tl 0) 0), (11, AV.int IntKind.i64 (IntKind.i64.wrap (i + (1 : Int))))], objs := [(0, AObj.arr 7 Ty.bool [] [[AV.ptr 1 (Elt.tl 0) 0, AV.int IntKind.i64 (100 : Int), AV.int IntKind.i64 (0 : Int), AV.int IntKind.i64 (0 : Int), AV.int IntKind.i64 (0 : Int), AV.ptr 4 (Elt.tl 0) 0, AV.ptr 5 (Elt.tl 0) 0]]), (1, AObj.arr 1 Ty.bool [] [[AV.hw 2]]), (2, AObj.arr 10 segTy f [[AV.int IntKind.i64 b, AV.int IntKind.i64 n, AV.int IntKind.i64 (0 : Int), AV.int IntKind.i64 (0 : Int), AV.hw 3, AV.bool false, AV.bool false, AV.bool false, AV.int IntKind.i64 z, AV.int IntKind.u32 (0 : Int)]]), (3, AObj.log recTy rs), (4, AObj.arr 1 Ty.bool [] [[AV.nils]]), (5, AObj.arr 1 Ty.bool [] [[AV.nils]]), (6, AObj.arr 1 Ty.bool [] [[AV.vl (Ty.str.pair (Ty.int IntKind.i64)) xs]])], nx := 7 } else bif decide ((0 : Int) ≤ i) && decide (i < (↑ns.length : Int)) then bif decide ((0 : Int) ≤ i) && decide (i < (↑ms.length : Int)) then bif decide (xs.length ≤ 1000000) then bif decide ((0 : Int) ≤ i) && decide (i < (↑ns.length : Int)) then bif rightC ((4 : Int), (0 : Int), (0 : Int), [], ns.getD i.toNat [], (0 : Int), (0 : Int), (0 : Int), (0 : Int), (0 : Int), (0 : Int), (0 : Int), (0 : Int)) then K Ex.ret { slots := [(0, AV.int IntKind.i64 nn), (1, AV.vl (Ty.int IntKind.i64) ms), (2, AV.vl Ty.str ns), (6, AV.bool false), (8, AV.ptr 0 (Elt.tl 0) 0), (10, AV.ptr 6 (Elt.tl 0) 0), (11, AV.int IntKind.i64 i)], objs := [(0, AObj.arr 7 Ty.bool [] [[AV.ptr 1 (Elt.tl 0) 0, AV.int IntKind.i64 (100 : Int), AV.int IntKind.i64 (0 : Int), AV.int IntKind.i64 (0 : Int), AV.int IntKind.i64 (0 : Int), AV.ptr 4 (Elt.tl 0) 0, AV.ptr 5 (Elt.tl 0) 0]]), (1, AObj.arr 1 Ty.bool [] [[AV.hw 2]]), (2, AObj.arr 10 segTy f [[AV.int IntKind.i64 b, AV.int IntKind.i64 n, AV.int IntKind.i64 (0 : Int), AV.int IntKind.i64 (0 : Int), AV.hw 3, AV.bool false, AV.bool false, AV.bool false, AV.int IntKind.i64 z, AV.int IntKind.u32 (0 : Int)]]), (3, AObj.log recTy rs), (4, AObj.arr 1 Ty.bool [] [[AV.nils]]), (5, AObj.arr 1 Ty.bool [] [[AV.nils]]), (6, AObj.arr 1 Ty.bool [] [[AV.vl (Ty.str.pair (Ty.int IntKind.i64)) (setG xs (ns.getD i.toNat [], ms.getD i.toNat (0 : Int))).fst]])], nx := 7 } else none else none else none else none else none else none else bif validL (ns.getD i.toNat []) then bif decide ((0 : Int) ≤ i) && decide (i < (↑ms.length : Int)) then bif decide (ms.getD i.toNat (0 : Int) > nn) then K Ex.ret { slots := [(0, AV.int IntKind.i64 nn), (1, AV.vl (Ty.int IntKind.i64) ms), (2, AV.vl Ty.str ns), (6, AV.bool false), (8, AV.ptr 0 (Elt.tl 0) 0), (10, AV.ptr 7 (Elt.tl 0) 0), (11, AV.int IntKind.i64 i)], objs := [(0, AObj.arr 7 Ty.bool [] [[AV.ptr 1 (Elt.tl 0) 0, AV.int IntKind.i64 (100 : Int), AV.int IntKind.i64 (0 : Int), AV.int IntKind.i64 (0 : Int), AV.int IntKind.i64 (0 : Int), AV.ptr 4 (Elt.tl 0) 0, AV.ptr 6 (Elt.tl 0) 0]]), (1, AObj.arr 1 Ty.bool [] [[AV.hw 2]]), (2, AObj.arr 10 segTy f [[AV.int IntKind.i64 b, AV.int IntKind.i64 n, AV.int IntKind.i64 (0 : Int), AV.int IntKind.i64 (0 : Int), AV.hw 3, AV.bool false, AV.bool false, AV.bool false, AV.int IntKind.i64 z, AV.int IntKind.u32 (0 : Int)]]), (3, AObj.log recTy rs), (4, AObj.arr 1 Ty.bool [] [[AV.hw 5]]), (5, AObj.arr 2 (Ty.str.pair (Ty.int IntKind.i64)) [(ns.getD i.toNat [], ms.getD i.toNat (0 : Int))] []), (6, AObj.arr 1 Ty.bool [] [[AV.nils]]), (7, AObj.arr 1 Ty.bool [] [[AV.vl (Ty.str.pair (Ty.int IntKind.i64)) xs]])], nx := 8 } else bif decide ((0 : Int) ≤ i) && decide (i < (↑ns.length : Int)) then bif decide ((0 : Int) ≤ i) && decide (i < (↑ms.length : Int)) then bif decide (xs.length ≤ 1000000) then bif decide ((0 : Int) ≤ i) && decide (i < (↑ns.length : Int)) then bif rightC ((4 : Int), (0 : Int), (0 : Int), [], ns.getD i.toNat [], (0 : Int), (0 : Int), (0 : Int), (0 : Int), (0 : Int), (0 : Int), (0 : Int), (0 : Int)) then bif (getGr [(ns.getD i.toNat [], ms.getD i.toNat (0 : Int))] (ns.getD i.toNat [])).snd then Option.bind (bif decide ((0 : Int) ≤ i) && decide (i < (↑ms.length : Int)) then some ((getGr [(ns.getD i.toNat [], ms.getD i.toNat (0 : Int))] (ns.getD i.toNat [])).fst != ms.getD i.toNat (0 : Int)) else none) fun v => bif v then K Ex.ret { slots := [(0, AV.int IntKind.i64 nn), (1, AV.vl (Ty.int IntKind.i64) ms), (2, AV.vl Ty.str ns), (6, AV.bool false), (8, AV.ptr 0 (Elt.tl 0) 0), (10, AV.ptr 7 (Elt.tl 0) 0), (11, AV.int IntKind.i64 i)], objs := [(0, AObj.arr 7 Ty.bool [] [[AV.ptr 1 (Elt.tl 0) 0, AV.int IntKind.i64 (100 : Int), AV.int IntKind.i64 (0 : Int), AV.int IntKind.i64 (0 : Int), AV.int IntKind.i64 (0 : Int), AV.ptr 4 (Elt.tl 0) 0, AV.ptr 6 (Elt.tl 0) 0]]), (1, AObj.arr 1 Ty.bool [] [[AV.hw 2]]), (2, AObj.arr 10 segTy f [[AV.int IntKind.i64 b, AV.int IntKind.i64 n, AV.int IntKind.i64 (0 : Int), AV.int IntKind.i64 (0 : Int), AV.hw 3, AV.bool false, AV.bool false, AV.bool false, AV.int IntKind.i64 z, AV.int IntKind.u32 (0 : Int)]]), (3, AObj.log recTy rs), (4, AObj.arr 1 Ty.bool [] [[AV.hw 5]]), (5, AObj.arr 2 (Ty.str.pair (Ty.int IntKind.i64)) [(ns.getD i.toNat [], ms.getD i.toNat (0 : Int))] []), (6, AObj.arr 1 Ty.bool [] [[AV.nils]]), (7, AObj.arr 1 Ty.bool [] [[AV.vl (Ty.str.pair (Ty.int IntKind.i64)) (setG xs (ns.getD i.toNat [], ms.getD i.toNat (0 : Int))).fst]])], nx := 8 } else K Ex.normal { slots := [(0, AV.int IntKind.i64 nn), (1, AV.vl (Ty.int IntKind.i64) ms), (2, AV.vl Ty.str ns), (6, AV.undef), (8, AV.ptr 0 (Elt.tl 0) 0), (10, AV.ptr 7 (Elt.tl 0) 0), (11, AV.int IntKind.i64 (IntKind.i64.wrap (i + (1 : Int))))], objs := [(0, AObj.arr 7 Ty.bool [] [[AV.ptr 1 (Elt.tl 0) 0, AV.int IntKind.i64 (100 : Int), AV.int IntKind.i64 (0 : Int), AV.int IntKind.i64 (0 : Int), AV.int IntKind.i64 (0 : Int), AV.ptr 4 (Elt.tl 0) 0, AV.ptr 6 (Elt.tl 0) 0]]), (1, AObj.arr 1 Ty.bool [] [[AV.hw 2]]), (2, AObj.arr 10 segTy f [[AV.int IntKind.i64 b, AV.int IntKind.i64 n, AV.int IntKind.i64 (0 : Int), AV.int IntKind.i64 (0 : Int), AV.hw 3, AV.bool false, AV.bool false, AV.bool false, AV.int IntKind.i64 z, AV.int IntKind.u32 (0 : Int)]]), (3, AObj.log recTy rs), (4, AObj.arr 1 Ty.bool [] [[AV.hw 5]]), (5, AObj.arr 2 (Ty.str.pair (Ty.int IntKind.i64)) [(ns.getD i.toNat [], ms.getD i.toNat (0 : Int))] []), (6, AObj.arr 1 Ty.bool [] [[AV.nils]]), (7, AObj.arr 1 Ty.bool [] [[AV.vl (Ty.str.pair (Ty.int IntKind.i64)) (setG xs (ns.getD i.toNat [], ms.getD i.toNat (0 : Int))).fst]])], nx := 8 } else K Ex.ret { slots := [(0, AV.int IntKind.i64 nn), (1, AV.vl (Ty.int IntKind.i64) ms), (2, AV.vl Ty.str ns), (6, AV.bool false), (8, AV.ptr 0 (Elt.tl 0) 0), (10, AV.ptr 7 (Elt.tl 0) 0), (11, AV.int IntKind.i64 i)], objs := [(0, AObj.arr 7 Ty.bool [] [[AV.ptr 1 (Elt.tl 0) 0, AV.int IntKind.i64 (100 : Int), AV.int IntKind.i64 (0 : Int), AV.int IntKind.i64 (0 : Int), AV.int IntKind.i64 (0 : Int), AV.ptr 4 (Elt.tl 0) 0, AV.ptr 6 (Elt.tl 0) 0]]), (1, AObj.arr 1 Ty.bool [] [[AV.hw 2]]), (2, AObj.arr 10 segTy f [[AV.int IntKind.i64 b, AV.int IntKind.i64 n, AV.int IntKind.i64 (0 : Int), AV.int IntKind.i64 (0 : Int), AV.hw 3, AV.bool false, AV.bool false, AV.bool false, AV.int IntKind.i64 z, AV.int IntKind.u32 (0 : Int)]]), (3, AObj.log recTy rs), (4, AObj.arr 1 Ty.bool [] [[AV.hw 5]]), (5, AObj.arr 2 (Ty.str.pair (Ty.int IntKind.i64)) [(ns.getD i.toNat [], ms.getD i.toNat (0 : Int))] []), (6, AObj.arr 1 Ty.bool [] [[AV.nils]]), (7, AObj.arr 1 Ty.bool [] [[AV.vl (Ty.str.pair (Ty.int IntKind.i64)) (setG xs (ns.getD i.toNat [], ms.getD i.toNat (0 : Int))).fst]])], nx := 8 } else none else none else none else none else none else none else none else none else none else none else none else K (Ex.exit 2) { slots := [(0, AV.int IntKind.i64 nn), (1, AV.vl (Ty.int IntKind.i64) ms), (2, AV.vl Ty.str ns), (6, AV.undef), (8, AV.ptr 0 (Elt.tl 0) 0), (10, AV.ptr 6 (Elt.tl 0) 0), (11, AV.int IntKind.i64 i)], objs := [(0, AObj.arr 7 Ty.bool [] [[AV.ptr 1 (Elt.tl 0) 0, AV.int IntKind.i64 (100 : Int), AV.int IntKind.i64 (0 : Int), AV.int IntKind.i64 (0 : Int), AV.int IntKind.i64 (0 : Int), AV.ptr 4 (Elt.tl 0) 0, AV.ptr 5 (Elt.tl 0) 0]]), (1, AObj.arr 1 Ty.bool [] [[AV.hw 2]]), (2, AObj.arr 10 segTy f [[AV.int IntKind.i64 b, AV.int IntKind.i64 n, AV.int IntKind.i64 (0 : Int), AV.int IntKind.i64 (0 : Int), AV.hw 3, AV.bool false, AV.bool false, AV.bool false, AV.int IntKind.i64 z, AV.int IntKind.u32 (0 : Int)]]), (3, AObj.log recTy rs), (4, AObj.arr 1 Ty.bool [] [[AV.nils]]), (5, AObj.arr 1 Ty.bool [] [[AV.nils]]), (6, AObj.arr 1 Ty.bool [] [[AV.vl (Ty.str.pair (Ty.int IntKind.i64)) xs]])], nx := 7 } := by kernel_rfl

theorem g11r_rd {R : Type} (nn i : Int) (ms : List Int) (ns : List (List UInt8)) (gs xs : List Row2) (f : List Seg) (b n z : Int) (rs : List Rec) (K : Ex → St → Option R) : roundK (env consP4) H.gro2 0 (LPof []) V.cooperagelaw16_StateGroups_11 L.cooperagelaw16_StateGroups_11 ⟨gSl nn ms ns .undef 7 i, gOR f b n z rs gs xs, 8⟩ K = bif decide (i < (↑ms.length : Int)) then Option.bind (bif decide ((0 : Int) ≤ i) && decide (i < (↑ns.length : Int)) then bif !validL (ns.getD i.toNat []) then some true else bif decide ((0 : Int) ≤ i) && decide (i < (↑ms.length : Int)) then bif decide (ms.getD i.toNat (0 : Int) < (0 : Int)) then some true else bif decide ((0 : Int) ≤ i) && decide (i < (↑ms.length : Int)) then some (decide (ms.getD i.toNat (0 : Int) > (1125899906842624 : Int))) else none else none else none) fun v => bif v then K Ex.ret { slots := [(0, AV.int IntKind.i64 nn), (1, AV.vl (Ty.int IntKind.i64) ms), (2, AV.vl Ty.str ns), (6, AV.bool true), (8, AV.ptr 0 (Elt.tl 0) 0), (10, AV.ptr 7 (Elt.tl 0) 0), (11, AV.int IntKind.i64 i)], objs := [(0, AObj.arr 7 Ty.bool [] [[AV.ptr 1 (Elt.tl 0) 0, AV.int IntKind.i64 (100 : Int), AV.int IntKind.i64 (0 : Int), AV.int IntKind.i64 (0 : Int), AV.int IntKind.i64 (0 : Int), AV.ptr 4 (Elt.tl 0) 0, AV.ptr 6 (Elt.tl 0) 0]]), (1, AObj.arr 1 Ty.bool [] [[AV.hw 2]]), (2, AObj.arr 10 segTy f [[AV.int IntKind.i64 b, AV.int IntKind.i64 n, AV.int IntKind.i64 (0 : Int), AV.int IntKind.i64 (0 : Int), AV.hw 3, AV.bool false, AV.bool false, AV.bool false, AV.int IntKind.i64 z, AV.int IntKind.u32 (0 : Int)]]), (3, AObj.log recTy rs), (4, AObj.arr 1 Ty.bool [] [[AV.hw 5]]), (5, AObj.arr 2 (Ty.str.pair (Ty.int IntKind.i64)) gs []), (6, AObj.arr 1 Ty.bool [] [[AV.nils]]), (7, AObj.arr 1 Ty.bool [] [[AV.vl (Ty.str.pair (Ty.int IntKind.i64)) xs]])], nx := 8 } else bif decide ((0 : Int) ≤ i) && decide (i < (↑ns.length : Int)) then bif decide ((0 : Int) ≤ i) && decide (i < (↑ms.length : Int)) then bif rightC ((3 : Int), (0 : Int), (0 : Int), [], ns.getD i.toNat [], ms.getD i.toNat (0 : Int), (0 : Int), (0 : Int), (0 : Int), (0 : Int), (0 : Int), (0 : Int), (0 : Int)) then bif decide (ms.getD i.toNat (0 : Int) < lowP (f, b, n, z, rs)) then bif decide ((0 : Int) ≤ i) && decide (i < (↑ms.length : Int)) then bif decide (ms.getD i.toNat (0 : Int) > nn) then K Ex.normal { slots := [(0, AV.int IntKind.i64 nn), (1, AV.vl (Ty.int IntKind.i64) ms), (2, AV.vl Ty.str ns), (6, AV.undef), (8, AV.ptr 0 (Elt.tl 0) 0), (10, AV.ptr 7 (Elt.tl 0) 0), (11, AV.int IntKind.i64 (IntKind.i64.wrap (i + (1 : Int))))], objs := [(0, AObj.arr 7 Ty.bool [] [[AV.ptr 1 (Elt.tl 0) 0, AV.int IntKind.i64 (100 : Int), AV.int IntKind.i64 (0 : Int), AV.int IntKind.i64 (0 : Int), AV.int IntKind.i64 (0 : Int), AV.ptr 4 (Elt.tl 0) 0, AV.ptr 6 (Elt.tl 0) 0]]), (1, AObj.arr 1 Ty.bool [] [[AV.hw 2]]), (2, AObj.arr 10 segTy f [[AV.int IntKind.i64 b, AV.int IntKind.i64 n, AV.int IntKind.i64 (0 : Int), AV.int IntKind.i64 (0 : Int), AV.hw 3, AV.bool false, AV.bool false, AV.bool false, AV.int IntKind.i64 z, AV.int IntKind.u32 (0 : Int)]]), (3, AObj.log recTy rs), (4, AObj.arr 1 Ty.bool [] [[AV.hw 5]]), (5, AObj.arr 2 (Ty.str.pair (Ty.int IntKind.i64)) gs []), (6, AObj.arr 1 Ty.bool [] [[AV.nils]]), (7, AObj.arr 1 Ty.bool [] [[AV.vl (Ty.str.pair (Ty.int IntKind.i64)) xs]])], nx := 8 } else bif decide ((0 : Int) ≤ i) && decide (i < (↑ns.length : Int)) then bif decide ((0 : Int) ≤ i) && decide (i < (↑ms.length : Int)) then bif decide (xs.length ≤ 1000000) then bif decide ((0 : Int) ≤ i) && decide (i < (↑ns.length : Int)) then bif rightC ((4 : Int), (0 : Int), (0 : Int), [], ns.getD i.toNat [], (0 : Int), (0 : Int), (0 : Int), (0 : Int), (0 : Int), (0 : Int), (0 : Int), (0 : Int)) then bif sortedG gs && decide (gs.length ≤ 1000000) then bif (getGr gs (ns.getD i.toNat [])).snd then K Ex.ret { slots := [(0, AV.int IntKind.i64 nn), (1, AV.vl (Ty.int IntKind.i64) ms), (2, AV.vl Ty.str ns), (6, AV.bool false), (8, AV.ptr 0 (Elt.tl 0) 0), (10, AV.ptr 7 (Elt.tl 0) 0), (11, AV.int IntKind.i64 i)], objs := [(0, AObj.arr 7 Ty.bool [] [[AV.ptr 1 (Elt.tl 0) 0, AV.int IntKind.i64 (100 : Int), AV.int IntKind.i64 (0 : Int), AV.int IntKind.i64 (0 : Int), AV.int IntKind.i64 (0 : Int), AV.ptr 4 (Elt.tl 0) 0, AV.ptr 6 (Elt.tl 0) 0]]), (1, AObj.arr 1 Ty.bool [] [[AV.hw 2]]), (2, AObj.arr 10 segTy f [[AV.int IntKind.i64 b, AV.int IntKind.i64 n, AV.int IntKind.i64 (0 : Int), AV.int IntKind.i64 (0 : Int), AV.hw 3, AV.bool false, AV.bool false, AV.bool false, AV.int IntKind.i64 z, AV.int IntKind.u32 (0 : Int)]]), (3, AObj.log recTy rs), (4, AObj.arr 1 Ty.bool [] [[AV.hw 5]]), (5, AObj.arr 2 (Ty.str.pair (Ty.int IntKind.i64)) gs []), (6, AObj.arr 1 Ty.bool [] [[AV.nils]]), (7, AObj.arr 1 Ty.bool [] [[AV.vl (Ty.str.pair (Ty.int IntKind.i64)) (setG xs (ns.getD i.toNat [], ms.getD i.toNat (0 : Int))).fst]])], nx := 8 } else K Ex.ret { slots := [(0, AV.int IntKind.i64 nn), (1, AV.vl (Ty.int IntKind.i64) ms), (2, AV.vl Ty.str ns), (6, AV.bool false), (8, AV.ptr 0 (Elt.tl 0) 0), (10, AV.ptr 7 (Elt.tl 0) 0), (11, AV.int IntKind.i64 i)], objs := [(0, AObj.arr 7 Ty.bool [] [[AV.ptr 1 (Elt.tl 0) 0, AV.int IntKind.i64 (100 : Int), AV.int IntKind.i64 (0 : Int), AV.int IntKind.i64 (0 : Int), AV.int IntKind.i64 (0 : Int), AV.ptr 4 (Elt.tl 0) 0, AV.ptr 6 (Elt.tl 0) 0]]), (1, AObj.arr 1 Ty.bool [] [[AV.hw 2]]), (2, AObj.arr 10 segTy f [[AV.int IntKind.i64 b, AV.int IntKind.i64 n, AV.int IntKind.i64 (0 : Int), AV.int IntKind.i64 (0 : Int), AV.hw 3, AV.bool false, AV.bool false, AV.bool false, AV.int IntKind.i64 z, AV.int IntKind.u32 (0 : Int)]]), (3, AObj.log recTy rs), (4, AObj.arr 1 Ty.bool [] [[AV.hw 5]]), (5, AObj.arr 2 (Ty.str.pair (Ty.int IntKind.i64)) gs []), (6, AObj.arr 1 Ty.bool [] [[AV.nils]]), (7, AObj.arr 1 Ty.bool [] [[AV.vl (Ty.str.pair (Ty.int IntKind.i64)) (setG xs (ns.getD i.toNat [], ms.getD i.toNat (0 : Int))).fst]])], nx := 8 } else none else none else none else none else none else none else none else bif decide (f.length ≤ 1000000000) then bif decide (ms.getD i.toNat (0 : Int) > n) then bif decide ((0 : Int) ≤ i) && decide (i < (↑ms.length : Int)) then bif decide (ms.getD i.toNat (0 : Int) > nn) then K Ex.normal { slots := [(0, AV.int IntKind.i64 nn), (1, AV.vl (Ty.int IntKind.i64) ms), (2, AV.vl Ty.str ns), (6, AV.undef), (8, AV.ptr 0 (Elt.tl 0) 0), (10, AV.ptr 7 (Elt.tl 0) 0), (11, AV.int IntKind.i64 (IntKind.i64.wrap (i + (1 : Int))))], objs := [(0, AObj.arr 7 Ty.bool [] [[AV.ptr 1 (Elt.tl 0) 0, AV.int IntKind.i64 (100 : Int), AV.int IntKind.i64 (0 : Int), AV.int IntKind.i64 (0 : Int), AV.int IntKind.i64 (0 : Int), AV.ptr 4 (Elt.tl 0) 0, AV.ptr 6 (Elt.tl 0) 0]]), (1, AObj.arr 1 Ty.bool [] [[AV.hw 2]]), (2, AObj.arr 10 segTy f [[AV.int IntKind.i64 b, AV.int IntKind.i64 n, AV.int IntKind.i64 (0 : Int), AV.int IntKind.i64 (0 : Int), AV.hw 3, AV.bool false, AV.bool false, AV.bool false, AV.int IntKind.i64 z, AV.int IntKind.u32 (0 : Int)]]), (3, AObj.log recTy rs), (4, AObj.arr 1 Ty.bool [] [[AV.hw 5]]), (5, AObj.arr 2 (Ty.str.pair (Ty.int IntKind.i64)) gs []), (6, AObj.arr 1 Ty.bool [] [[AV.nils]]), (7, AObj.arr 1 Ty.bool [] [[AV.vl (Ty.str.pair (Ty.int IntKind.i64)) xs]])], nx := 8 } else bif decide ((0 : Int) ≤ i) && decide (i < (↑ns.length : Int)) then bif decide ((0 : Int) ≤ i) && decide (i < (↑ms.length : Int)) then bif decide (xs.length ≤ 1000000) then bif decide ((0 : Int) ≤ i) && decide (i < (↑ns.length : Int)) then bif rightC ((4 : Int), (0 : Int), (0 : Int), [], ns.getD i.toNat [], (0 : Int), (0 : Int), (0 : Int), (0 : Int), (0 : Int), (0 : Int), (0 : Int), (0 : Int)) then bif sortedG gs && decide (gs.length ≤ 1000000) then bif (getGr gs (ns.getD i.toNat [])).snd then K Ex.ret { slots := [(0, AV.int IntKind.i64 nn), (1, AV.vl (Ty.int IntKind.i64) ms), (2, AV.vl Ty.str ns), (6, AV.bool false), (8, AV.ptr 0 (Elt.tl 0) 0), (10, AV.ptr 7 (Elt.tl 0) 0), (11, AV.int IntKind.i64 i)], objs := [(0, AObj.arr 7 Ty.bool [] [[AV.ptr 1 (Elt.tl 0) 0, AV.int IntKind.i64 (100 : Int), AV.int IntKind.i64 (0 : Int), AV.int IntKind.i64 (0 : Int), AV.int IntKind.i64 (0 : Int), AV.ptr 4 (Elt.tl 0) 0, AV.ptr 6 (Elt.tl 0) 0]]), (1, AObj.arr 1 Ty.bool [] [[AV.hw 2]]), (2, AObj.arr 10 segTy f [[AV.int IntKind.i64 b, AV.int IntKind.i64 n, AV.int IntKind.i64 (0 : Int), AV.int IntKind.i64 (0 : Int), AV.hw 3, AV.bool false, AV.bool false, AV.bool false, AV.int IntKind.i64 z, AV.int IntKind.u32 (0 : Int)]]), (3, AObj.log recTy rs), (4, AObj.arr 1 Ty.bool [] [[AV.hw 5]]), (5, AObj.arr 2 (Ty.str.pair (Ty.int IntKind.i64)) gs []), (6, AObj.arr 1 Ty.bool [] [[AV.nils]]), (7, AObj.arr 1 Ty.bool [] [[AV.vl (Ty.str.pair (Ty.int IntKind.i64)) (setG xs (ns.getD i.toNat [], ms.getD i.toNat (0 : Int))).fst]])], nx := 8 } else K Ex.ret { slots := [(0, AV.int IntKind.i64 nn), (1, AV.vl (Ty.int IntKind.i64) ms), (2, AV.vl Ty.str ns), (6, AV.bool false), (8, AV.ptr 0 (Elt.tl 0) 0), (10, AV.ptr 7 (Elt.tl 0) 0), (11, AV.int IntKind.i64 i)], objs := [(0, AObj.arr 7 Ty.bool [] [[AV.ptr 1 (Elt.tl 0) 0, AV.int IntKind.i64 (100 : Int), AV.int IntKind.i64 (0 : Int), AV.int IntKind.i64 (0 : Int), AV.int IntKind.i64 (0 : Int), AV.ptr 4 (Elt.tl 0) 0, AV.ptr 6 (Elt.tl 0) 0]]), (1, AObj.arr 1 Ty.bool [] [[AV.hw 2]]), (2, AObj.arr 10 segTy f [[AV.int IntKind.i64 b, AV.int IntKind.i64 n, AV.int IntKind.i64 (0 : Int), AV.int IntKind.i64 (0 : Int), AV.hw 3, AV.bool false, AV.bool false, AV.bool false, AV.int IntKind.i64 z, AV.int IntKind.u32 (0 : Int)]]), (3, AObj.log recTy rs), (4, AObj.arr 1 Ty.bool [] [[AV.hw 5]]), (5, AObj.arr 2 (Ty.str.pair (Ty.int IntKind.i64)) gs []), (6, AObj.arr 1 Ty.bool [] [[AV.nils]]), (7, AObj.arr 1 Ty.bool [] [[AV.vl (Ty.str.pair (Ty.int IntKind.i64)) (setG xs (ns.getD i.toNat [], ms.getD i.toNat (0 : Int))).fst]])], nx := 8 } else none else none else none else none else none else none else none else bif sortedG gs && decide (gs.length ≤ 1000000) && (validL (ns.getD i.toNat []) && hasG gs (ns.getD i.toNat [])) then bif decide ((0 : Int) ≤ i) && decide (i < (↑ms.length : Int)) then bif decide (ms.getD i.toNat (0 : Int) > nn) then K Ex.ret { slots := [(0, AV.int IntKind.i64 nn), (1, AV.vl (Ty.int IntKind.i64) ms), (2, AV.vl Ty.str ns), (6, AV.bool false), (8, AV.ptr 0 (Elt.tl 0) 0), (10, AV.ptr 7 (Elt.tl 0) 0), (11, AV.int IntKind.i64 i)], objs := [(0, AObj.arr 7 Ty.bool [] [[AV.ptr 1 (Elt.tl 0) 0, AV.int IntKind.i64 (100 : Int), AV.int IntKind.i64 (0 : Int), AV.int IntKind.i64 (0 : Int), AV.int IntKind.i64 (0 : Int), AV.ptr 4 (Elt.tl 0) 0, AV.ptr 6 (Elt.tl 0) 0]]), (1, AObj.arr 1 Ty.bool [] [[AV.hw 2]]), (2, AObj.arr 10 segTy f [[AV.int IntKind.i64 b, AV.int IntKind.i64 n, AV.int IntKind.i64 (0 : Int), AV.int IntKind.i64 (0 : Int), AV.hw 3, AV.bool false, AV.bool false, AV.bool false, AV.int IntKind.i64 z, AV.int IntKind.u32 (0 : Int)]]), (3, AObj.log recTy rs), (4, AObj.arr 1 Ty.bool [] [[AV.hw 5]]), (5, AObj.arr 2 (Ty.str.pair (Ty.int IntKind.i64)) (setG gs (ns.getD i.toNat [], ms.getD i.toNat (0 : Int))).fst []), (6, AObj.arr 1 Ty.bool [] [[AV.nils]]), (7, AObj.arr 1 Ty.bool [] [[AV.vl (Ty.str.pair (Ty.int IntKind.i64)) xs]])], nx := 8 } else bif decide ((0 : Int) ≤ i) && decide (i < (↑ns.length : Int)) then bif decide ((0 : Int) ≤ i) && decide (i < (↑ms.length : Int)) then bif decide (xs.length ≤ 1000000) then bif decide ((0 : Int) ≤ i) && decide (i < (↑ns.length : Int)) then bif rightC ((4 : Int), (0 : Int), (0 : Int), [], ns.getD i.toNat [], (0 : Int), (0 : Int), (0 : Int), (0 : Int), (0 : Int), (0 : Int), (0 : Int), (0 : Int)) then bif sortedG (setG gs (ns.getD i.toNat [], ms.getD i.toNat (0 : Int))).fst && decide ((setG gs (ns.getD i.toNat [], ms.getD i.toNat (0 : Int))).fst.length ≤ 1000000) then bif (getGr (setG gs (ns.getD i.toNat [], ms.getD i.toNat (0 : Int))).fst (ns.getD i.toNat [])).snd then Option.bind (bif decide ((0 : Int) ≤ i) && decide (i < (↑ms.length : Int)) then some ((getGr (setG gs (ns.getD i.toNat [], ms.getD i.toNat (0 : Int))).fst (ns.getD i.toNat [])).fst != ms.getD i.toNat (0 : Int)) else none) fun v => bif v then K Ex.ret { slots := [(0, AV.int IntKind.i64 nn), (1, AV.vl (Ty.int IntKind.i64) ms), (2, AV.vl Ty.str ns), (6, AV.bool false), (8, AV.ptr 0 (Elt.tl 0) 0), (10, AV.ptr 7 (Elt.tl 0) 0), (11, AV.int IntKind.i64 i)], objs := [(0, AObj.arr 7 Ty.bool [] [[AV.ptr 1 (Elt.tl 0) 0, AV.int IntKind.i64 (100 : Int), AV.int IntKind.i64 (0 : Int), AV.int IntKind.i64 (0 : Int), AV.int IntKind.i64 (0 : Int), AV.ptr 4 (Elt.tl 0) 0, AV.ptr 6 (Elt.tl 0) 0]]), (1, AObj.arr 1 Ty.bool [] [[AV.hw 2]]), (2, AObj.arr 10 segTy f [[AV.int IntKind.i64 b, AV.int IntKind.i64 n, AV.int IntKind.i64 (0 : Int), AV.int IntKind.i64 (0 : Int), AV.hw 3, AV.bool false, AV.bool false, AV.bool false, AV.int IntKind.i64 z, AV.int IntKind.u32 (0 : Int)]]), (3, AObj.log recTy rs), (4, AObj.arr 1 Ty.bool [] [[AV.hw 5]]), (5, AObj.arr 2 (Ty.str.pair (Ty.int IntKind.i64)) (setG gs (ns.getD i.toNat [], ms.getD i.toNat (0 : Int))).fst []), (6, AObj.arr 1 Ty.bool [] [[AV.nils]]), (7, AObj.arr 1 Ty.bool [] [[AV.vl (Ty.str.pair (Ty.int IntKind.i64)) (setG xs (ns.getD i.toNat [], ms.getD i.toNat (0 : Int))).fst]])], nx := 8 } else K Ex.normal { slots := [(0, AV.int IntKind.i64 nn), (1, AV.vl (Ty.int IntKind.i64) ms), (2, AV.vl Ty.str ns), (6, AV.undef), (8, AV.ptr 0 (Elt.tl 0) 0), (10, AV.ptr 7 (Elt.tl 0) 0), (11, AV.int IntKind.i64 (IntKind.i64.wrap (i + (1 : Int))))], objs := [(0, AObj.arr 7 Ty.bool [] [[AV.ptr 1 (Elt.tl 0) 0, AV.int IntKind.i64 (100 : Int), AV.int IntKind.i64 (0 : Int), AV.int IntKind.i64 (0 : Int), AV.int IntKind.i64 (0 : Int), AV.ptr 4 (Elt.tl 0) 0, AV.ptr 6 (Elt.tl 0) 0]]), (1, AObj.arr 1 Ty.bool [] [[AV.hw 2]]), (2, AObj.arr 10 segTy f [[AV.int IntKind.i64 b, AV.int IntKind.i64 n, AV.int IntKind.i64 (0 : Int), AV.int IntKind.i64 (0 : Int), AV.hw 3, AV.bool false, AV.bool false, AV.bool false, AV.int IntKind.i64 z, AV.int IntKind.u32 (0 : Int)]]), (3, AObj.log recTy rs), (4, AObj.arr 1 Ty.bool [] [[AV.hw 5]]), (5, AObj.arr 2 (Ty.str.pair (Ty.int IntKind.i64)) (setG gs (ns.getD i.toNat [], ms.getD i.toNat (0 : Int))).fst []), (6, AObj.arr 1 Ty.bool [] [[AV.nils]]), (7, AObj.arr 1 Ty.bool [] [[AV.vl (Ty.str.pair (Ty.int IntKind.i64)) (setG xs (ns.getD i.toNat [], ms.getD i.toNat (0 : Int))).fst]])], nx := 8 } else K Ex.ret { slots := [(0, AV.int IntKind.i64 nn), (1, AV.vl (Ty.int IntKind.i64) ms), (2, AV.vl Ty.str ns), (6, AV.bool false), (8, AV.ptr 0 (Elt.tl 0) 0), (10, AV.ptr 7 (Elt.tl 0) 0), (11, AV.int IntKind.i64 i)], objs := [(0, AObj.arr 7 Ty.bool [] [[AV.ptr 1 (Elt.tl 0) 0, AV.int IntKind.i64 (100 : Int), AV.int IntKind.i64 (0 : Int), AV.int IntKind.i64 (0 : Int), AV.int IntKind.i64 (0 : Int), AV.ptr 4 (Elt.tl 0) 0, AV.ptr 6 (Elt.tl 0) 0]]), (1, AObj.arr 1 Ty.bool [] [[AV.hw 2]]), (2, AObj.arr 10 segTy f [[AV.int IntKind.i64 b, AV.int IntKind.i64 n, AV.int IntKind.i64 (0 : Int), AV.int IntKind.i64 (0 : Int), AV.hw 3, AV.bool false, AV.bool false, AV.bool false, AV.int IntKind.i64 z, AV.int IntKind.u32 (0 : Int)]]), (3, AObj.log recTy rs), (4, AObj.arr 1 Ty.bool [] [[AV.hw 5]]), (5, AObj.arr 2 (Ty.str.pair (Ty.int IntKind.i64)) (setG gs (ns.getD i.toNat [], ms.getD i.toNat (0 : Int))).fst []), (6, AObj.arr 1 Ty.bool [] [[AV.nils]]), (7, AObj.arr 1 Ty.bool [] [[AV.vl (Ty.str.pair (Ty.int IntKind.i64)) (setG xs (ns.getD i.toNat [], ms.getD i.toNat (0 : Int))).fst]])], nx := 8 } else none else none else none else none else none else none else none else bif sortedG gs && decide (gs.length ≤ 99) && (validL (ns.getD i.toNat []) && !hasG gs (ns.getD i.toNat [])) then bif decide ((0 : Int) ≤ i) && decide (i < (↑ms.length : Int)) then bif decide (ms.getD i.toNat (0 : Int) > nn) then K Ex.ret { slots := [(0, AV.int IntKind.i64 nn), (1, AV.vl (Ty.int IntKind.i64) ms), (2, AV.vl Ty.str ns), (6, AV.bool false), (8, AV.ptr 0 (Elt.tl 0) 0), (10, AV.ptr 7 (Elt.tl 0) 0), (11, AV.int IntKind.i64 i)], objs := [(0, AObj.arr 7 Ty.bool [] [[AV.ptr 1 (Elt.tl 0) 0, AV.int IntKind.i64 (100 : Int), AV.int IntKind.i64 (0 : Int), AV.int IntKind.i64 (0 : Int), AV.int IntKind.i64 (0 : Int), AV.ptr 4 (Elt.tl 0) 0, AV.ptr 6 (Elt.tl 0) 0]]), (1, AObj.arr 1 Ty.bool [] [[AV.hw 2]]), (2, AObj.arr 10 segTy f [[AV.int IntKind.i64 b, AV.int IntKind.i64 n, AV.int IntKind.i64 (0 : Int), AV.int IntKind.i64 (0 : Int), AV.hw 3, AV.bool false, AV.bool false, AV.bool false, AV.int IntKind.i64 z, AV.int IntKind.u32 (0 : Int)]]), (3, AObj.log recTy rs), (4, AObj.arr 1 Ty.bool [] [[AV.hw 5]]), (5, AObj.arr 2 (Ty.str.pair (Ty.int IntKind.i64)) (setG gs (ns.getD i.toNat [], ms.getD i.toNat (0 : Int))).fst []), (6, AObj.arr 1 Ty.bool [] [[AV.nils]]), (7, AObj.arr 1 Ty.bool [] [[AV.vl (Ty.str.pair (Ty.int IntKind.i64)) xs]])], nx := 8 } else bif decide ((0 : Int) ≤ i) && decide (i < (↑ns.length : Int)) then bif decide ((0 : Int) ≤ i) && decide (i < (↑ms.length : Int)) then bif decide (xs.length ≤ 1000000) then bif decide ((0 : Int) ≤ i) && decide (i < (↑ns.length : Int)) then bif rightC ((4 : Int), (0 : Int), (0 : Int), [], ns.getD i.toNat [], (0 : Int), (0 : Int), (0 : Int), (0 : Int), (0 : Int), (0 : Int), (0 : Int), (0 : Int)) then bif sortedG (setG gs (ns.getD i.toNat [], ms.getD i.toNat (0 : Int))).fst && decide ((setG gs (ns.getD i.toNat [], ms.getD i.toNat (0 : Int))).fst.length ≤ 1000000) then bif (getGr (setG gs (ns.getD i.toNat [], ms.getD i.toNat (0 : Int))).fst (ns.getD i.toNat [])).snd then Option.bind (bif decide ((0 : Int) ≤ i) && decide (i < (↑ms.length : Int)) then some ((getGr (setG gs (ns.getD i.toNat [], ms.getD i.toNat (0 : Int))).fst (ns.getD i.toNat [])).fst != ms.getD i.toNat (0 : Int)) else none) fun v => bif v then K Ex.ret { slots := [(0, AV.int IntKind.i64 nn), (1, AV.vl (Ty.int IntKind.i64) ms), (2, AV.vl Ty.str ns), (6, AV.bool false), (8, AV.ptr 0 (Elt.tl 0) 0), (10, AV.ptr 7 (Elt.tl 0) 0), (11, AV.int IntKind.i64 i)], objs := [(0, AObj.arr 7 Ty.bool [] [[AV.ptr 1 (Elt.tl 0) 0, AV.int IntKind.i64 (100 : Int), AV.int IntKind.i64 (0 : Int), AV.int IntKind.i64 (0 : Int), AV.int IntKind.i64 (0 : Int), AV.ptr 4 (Elt.tl 0) 0, AV.ptr 6 (Elt.tl 0) 0]]), (1, AObj.arr 1 Ty.bool [] [[AV.hw 2]]), (2, AObj.arr 10 segTy f [[AV.int IntKind.i64 b, AV.int IntKind.i64 n, AV.int IntKind.i64 (0 : Int), AV.int IntKind.i64 (0 : Int), AV.hw 3, AV.bool false, AV.bool false, AV.bool false, AV.int IntKind.i64 z, AV.int IntKind.u32 (0 : Int)]]), (3, AObj.log recTy rs), (4, AObj.arr 1 Ty.bool [] [[AV.hw 5]]), (5, AObj.arr 2 (Ty.str.pair (Ty.int IntKind.i64)) (setG gs (ns.getD i.toNat [], ms.getD i.toNat (0 : Int))).fst []), (6, AObj.arr 1 Ty.bool [] [[AV.nils]]), (7, AObj.arr 1 Ty.bool [] [[AV.vl (Ty.str.pair (Ty.int IntKind.i64)) (setG xs (ns.getD i.toNat [], ms.getD i.toNat (0 : Int))).fst]])], nx := 8 } else K Ex.normal { slots := [(0, AV.int IntKind.i64 nn), (1, AV.vl (Ty.int IntKind.i64) ms), (2, AV.vl Ty.str ns), (6, AV.undef), (8, AV.ptr 0 (Elt.tl 0) 0), (10, AV.ptr 7 (Elt.tl 0) 0), (11, AV.int IntKind.i64 (IntKind.i64.wrap (i + (1 : Int))))], objs := [(0, AObj.arr 7 Ty.bool [] [[AV.ptr 1 (Elt.tl 0) 0, AV.int IntKind.i64 (100 : Int), AV.int IntKind.i64 (0 : Int), AV.int IntKind.i64 (0 : Int), AV.int IntKind.i64 (0 : Int), AV.ptr 4 (Elt.tl 0) 0, AV.ptr 6 (Elt.tl 0) 0]]), (1, AObj.arr 1 Ty.bool [] [[AV.hw 2]]), (2, AObj.arr 10 segTy f [[AV.int IntKind.i64 b, AV.int IntKind.i64 n, AV.int IntKind.i64 (0 : Int), AV.int IntKind.i64 (0 : Int), AV.hw 3, AV.bool false, AV.bool false, AV.bool false, AV.int IntKind.i64 z, AV.int IntKind.u32 (0 : Int)]]), (3, AObj.log recTy rs), (4, AObj.arr 1 Ty.bool [] [[AV.hw 5]]), (5, AObj.arr 2 (Ty.str.pair (Ty.int IntKind.i64)) (setG gs (ns.getD i.toNat [], ms.getD i.toNat (0 : Int))).fst []), (6, AObj.arr 1 Ty.bool [] [[AV.nils]]), (7, AObj.arr 1 Ty.bool [] [[AV.vl (Ty.str.pair (Ty.int IntKind.i64)) (setG xs (ns.getD i.toNat [], ms.getD i.toNat (0 : Int))).fst]])], nx := 8 } else K Ex.ret { slots := [(0, AV.int IntKind.i64 nn), (1, AV.vl (Ty.int IntKind.i64) ms), (2, AV.vl Ty.str ns), (6, AV.bool false), (8, AV.ptr 0 (Elt.tl 0) 0), (10, AV.ptr 7 (Elt.tl 0) 0), (11, AV.int IntKind.i64 i)], objs := [(0, AObj.arr 7 Ty.bool [] [[AV.ptr 1 (Elt.tl 0) 0, AV.int IntKind.i64 (100 : Int), AV.int IntKind.i64 (0 : Int), AV.int IntKind.i64 (0 : Int), AV.int IntKind.i64 (0 : Int), AV.ptr 4 (Elt.tl 0) 0, AV.ptr 6 (Elt.tl 0) 0]]), (1, AObj.arr 1 Ty.bool [] [[AV.hw 2]]), (2, AObj.arr 10 segTy f [[AV.int IntKind.i64 b, AV.int IntKind.i64 n, AV.int IntKind.i64 (0 : Int), AV.int IntKind.i64 (0 : Int), AV.hw 3, AV.bool false, AV.bool false, AV.bool false, AV.int IntKind.i64 z, AV.int IntKind.u32 (0 : Int)]]), (3, AObj.log recTy rs), (4, AObj.arr 1 Ty.bool [] [[AV.hw 5]]), (5, AObj.arr 2 (Ty.str.pair (Ty.int IntKind.i64)) (setG gs (ns.getD i.toNat [], ms.getD i.toNat (0 : Int))).fst []), (6, AObj.arr 1 Ty.bool [] [[AV.nils]]), (7, AObj.arr 1 Ty.bool [] [[AV.vl (Ty.str.pair (Ty.int IntKind.i64)) (setG xs (ns.getD i.toNat [], ms.getD i.toNat (0 : Int))).fst]])], nx := 8 } else none else none else none else none else none else none else none else none else none else none else none else none else K (Ex.exit 2) { slots := [(0, AV.int IntKind.i64 nn), (1, AV.vl (Ty.int IntKind.i64) ms), (2, AV.vl Ty.str ns), (6, AV.undef), (8, AV.ptr 0 (Elt.tl 0) 0), (10, AV.ptr 7 (Elt.tl 0) 0), (11, AV.int IntKind.i64 i)], objs := [(0, AObj.arr 7 Ty.bool [] [[AV.ptr 1 (Elt.tl 0) 0, AV.int IntKind.i64 (100 : Int), AV.int IntKind.i64 (0 : Int), AV.int IntKind.i64 (0 : Int), AV.int IntKind.i64 (0 : Int), AV.ptr 4 (Elt.tl 0) 0, AV.ptr 6 (Elt.tl 0) 0]]), (1, AObj.arr 1 Ty.bool [] [[AV.hw 2]]), (2, AObj.arr 10 segTy f [[AV.int IntKind.i64 b, AV.int IntKind.i64 n, AV.int IntKind.i64 (0 : Int), AV.int IntKind.i64 (0 : Int), AV.hw 3, AV.bool false, AV.bool false, AV.bool false, AV.int IntKind.i64 z, AV.int IntKind.u32 (0 : Int)]]), (3, AObj.log recTy rs), (4, AObj.arr 1 Ty.bool [] [[AV.hw 5]]), (5, AObj.arr 2 (Ty.str.pair (Ty.int IntKind.i64)) gs []), (6, AObj.arr 1 Ty.bool [] [[AV.nils]]), (7, AObj.arr 1 Ty.bool [] [[AV.vl (Ty.str.pair (Ty.int IntKind.i64)) xs]])], nx := 8 } := by kernel_rfl

end Go.Sim
namespace Go.Sim
set_option linter.unusedSimpArgs false
set_option linter.unusedVariables false
set_option maxRecDepth 10000
open Go.Sim.XU
end Go.Sim
namespace Go.Sim
set_option linter.unusedSimpArgs false
set_option linter.unusedVariables false
set_option maxRecDepth 10000
open Go.Sim.XU
theorem cond_t {α : Type _} {c : Bool} {a b : α} (h : c = true) : cond c a b = a := by rw [h]; rfl
theorem cond_f {α : Type _} {c : Bool} {a b : α} (h : c = false) : cond c a b = b := by rw [h]; rfl
structure InvO (l : List Rec) (j : Nat) (M : LogS) : Prop where
  next : M.2.2.1 = ((j * l.length : Nat) : Int)
  low : lowP M = 0
  ok : okB (100 * j) M = true
end Go.Sim
namespace Go.Sim
set_option linter.unusedSimpArgs false
set_option linter.unusedVariables false
set_option maxRecDepth 10000
open Go.Sim.XU
def gLg : Nat → LogS
  | 0 => ([], 0, 0, 0, [])
  | i + 1 => apR 100 (gLg i) (0, 0, [107], [], false)
theorem gLg_inv : ∀ i, i ≤ 1000 → (gLg i).2.2.1 = (i : Int) ∧ lowP (gLg i) = 0 ∧ okB (2 * i) (gLg i) = true
  | 0, _ => ⟨rfl, rfl, rfl⟩
  | i + 1, h => by
    obtain ⟨h1, h2, h3⟩ := gLg_inv i (by omega)
    have h4 := apR_ok (c := 2 * i) 100 (0, 0, [107], [], false) h3 (by omega)
    refine ⟨?_, (apR_low 100 _ _).trans h2, h4⟩
    exact (apR_next (most := 100) (L := gLg i) (r := (0, 0, [107], [], false)) (by rfl)).trans (by rw [h1]; omega)
abbrev stBL (M : LogS) : List (Nat × AObj) := stAO 100 0 0 0 M.1 M.2.1 M.2.2.1 M.2.2.2.1 M.2.2.2.2
def g6St (nn : Int) (ms : List Int) (ns : List (List UInt8)) (i : Nat) : St := ⟨[(0, .int .i64 nn), (1, .vl (.int .i64) ms), (2, .vl .str ns), (8, .ptr 0 (.tl 0) 0), (9, .int .i64 i)], stBL (gLg i), 6⟩
theorem g6_rounds {R : Type} (nn : Nat) (hn : nn ≤ 30) (ms : List Int) (ns : List (List UInt8)) (K : Ex → St → Option R) : ∀ (m i : Nat), i + m = nn →
    rounds (env consP4) H.gro2 0 (LPof []) V.cooperagelaw16_StateGroups_6 L.cooperagelaw16_StateGroups_6 (m + 1) (g6St nn ms ns i) K = K (.exit 0) (g6St nn ms ns nn)
  | 0, i, h => by
    obtain rfl : i = nn := by omega
    rw [rounds_succ']
    refine (g6_rd _ _ _ _ 100 0 0 0 _ _ _ _ _ _).trans ?_
    rw [cond_neg (by omega)]
    rfl
  | m + 1, i, h => by
    have ih := g6_rounds nn hn ms ns K m (i + 1) (by omega)
    have e1 : IntKind.i64.wrap ((i : Int) + 1) = ((i + 1 : Nat) : Int) := by rw [wrap64 (by omega) (by omega)]; omega
    have hok : okB 500000000 ((gLg i).1, (gLg i).2.1, (gLg i).2.2.1, (gLg i).2.2.2.1, (gLg i).2.2.2.2) = true := okB_mono (gLg_inv i (by omega)).2.2 (by omega)
    have e4 : apL 100 [((0 : Int), (0 : Int), [107], [], false)] ((gLg i).1, (gLg i).2.1, (gLg i).2.2.1, (gLg i).2.2.2.1, (gLg i).2.2.2.2) 1 = gLg (i + 1) := rfl
    rw [rounds_succ']
    refine (g6_rd _ _ _ _ 100 0 0 0 _ _ _ _ _ _).trans ?_
    rw [cond_pos (by omega), hok, cond_true, e1, e4]
    exact ih
abbrev g6LC : LoopC := LoopC.of ⟨[(0, .int .i64), (1, .vl (.int .i64)), (2, .vl .str), (8, .lit (.ptr 0 (.tl 0) 0)), (9, .int .i64)], stAP⟩
  (fun ⟨⟨nn, ms, ns, _, i, _⟩, ⟨⟨⟨_, c1, c2, c3, c4, _, _, _⟩, _⟩, _, ⟨f, ⟨b, n, _, _, _, _, _, _, z, _, _⟩, _⟩, rs, _, _, _⟩⟩ => decide (i = (0 : Int)) && decide ((0 : Int) ≤ nn) && decide (nn ≤ (30 : Int)) && decide (c1 = (100 : Int)) && decide (c2 = (0 : Int)) && decide (c3 = (0 : Int)) && decide (c4 = (0 : Int)) && List.isEmpty f && List.isEmpty rs && decide (b = (0 : Int)) && decide (n = (0 : Int)) && decide (z = (0 : Int)))
  fun ⟨⟨nn, ms, ns, _, i, _⟩, ⟨⟨⟨_, c1, c2, c3, c4, _, _, _⟩, _⟩, _, ⟨f, ⟨b, n, _, _, _, _, _, _, z, _, _⟩, _⟩, rs, _, _, _⟩⟩ => [(true, .exit 0, g6St nn ms ns nn.toNat)]
theorem g6_go (nn i : Int) (ms : List Int) (ns : List (List UInt8)) (c1 c2 c3 c4 b n z : Int) (f : List Seg) (rs : List Rec) (h1 : i = 0) (h2 : 0 ≤ nn) (h3 : nn ≤ 30) (h4 : c1 = 100) (h5 : c2 = 0) (h6 : c3 = 0) (h7 : c4 = 0) (h8 : f.isEmpty = true) (h9 : rs.isEmpty = true) (h10 : b = 0) (h11 : n = 0) (h12 : z = 0) :
    ∃ m, rounds (env consP4) H.gro2 0 (LPof []) V.cooperagelaw16_StateGroups_6 L.cooperagelaw16_StateGroups_6 m ⟨[(0, .int .i64 nn), (1, .vl (.int .i64) ms), (2, .vl .str ns), (8, .ptr 0 (.tl 0) 0), (9, .int .i64 i)], stAO c1 c2 c3 c4 f b n z rs, 6⟩ (fun e s => some (e, s)) = some (.exit 0, g6St nn ms ns nn.toNat) := by
  subst h1 h4 h5 h6 h7 h10 h11 h12
  obtain rfl := List.isEmpty_iff.1 h8
  obtain rfl := List.isEmpty_iff.1 h9
  obtain ⟨k, rfl⟩ := Int.eq_ofNat_of_zero_le h2
  exact ⟨_, g6_rounds k (by omega) ms ns _ k 0 (Nat.zero_add _)⟩
theorem g6_lok : LoopOK P0 H.gro2 0 L.cooperagelaw16_StateGroups_6 g6LC :=
  loop_ok_of (env_ok consP4_ok) glob0 mixed0 noLoops V.cooperagelaw16_StateGroups_6 (by decide) fun ⟨⟨nn, ms, ns, _, i, _⟩, ⟨⟨⟨_, c1, c2, c3, c4, _, _, _⟩, _⟩, _, ⟨f, ⟨b, n, _, _, _, _, _, _, z, _, _⟩, _⟩, rs, _, _, _⟩⟩ h hw => by
    simp only [Bool.and_eq_true, decide_eq_true_eq] at h
    obtain ⟨⟨⟨⟨⟨⟨⟨⟨⟨⟨⟨h1, h2⟩, h3⟩, h4⟩, h5⟩, h6⟩, h7⟩, h8⟩, h9⟩, h10⟩, h11⟩, h12⟩ := h
    exact g6_go nn i ms ns c1 c2 c3 c4 b n z f rs h1 h2 h3 h4 h5 h6 h7 h8 h9 h10 h11 h12
/-! the places -/
theorem getGr_at {xs : List Row2} (hs : sortedG xs = true) {x : Row2} (h : x ∈ xs) : getGr xs x.1 = (x.2, true) := by
  obtain ⟨i, hi, rfl⟩ := List.mem_iff_getElem.1 h
  have e : atG xs i = xs[i] := by unfold atG; rw [List.getD_eq_getElem?_getD, List.getElem?_eq_getElem hi]; rfl
  have hp : posG xs (xs[i]).1 = i := posG_eq (by omega) (fun j hj => by rw [← e]; exact sortedG_lt hs hj hi) (fun _ => by rw [e]; exact sl_irrefl _)
  unfold getGr
  rw [hasG_of_mem hs h, hp, e]
  rfl
theorem setG_in {xs : List Row2} {r : Row2} (hv : validL r.1 = true) (hl : xs.length < 100) : r ∈ (setG xs r).1 := by
  unfold setG
  rw [hv, Bool.not_true, cond_false]
  cases hasG xs r.1 with
  | true => rw [cond_true]; unfold putG; simp
  | false =>
    rw [cond_false, cond_neg (by omega)]
    unfold putG
    simp
theorem setG_more {xs : List Row2} {r : Row2} (hl : xs.length < 100) : (setG xs r).1.length ≤ xs.length + 1 := by
  have hp := posG_le xs r.1
  unfold setG
  cases validL r.1 with
  | false => simp
  | true =>
    rw [Bool.not_true, cond_false]
    cases hh : hasG xs r.1 with
    | true =>
      rw [cond_true]
      have := (hasG_lt hh).1
      simp only
      rw [putG_len (by omega) (by omega)]
      omega
    | false =>
      rw [cond_false, cond_neg (by omega)]
      simp only
      rw [putG_len (Nat.le_refl _) hp]
      omega
theorem setG_nil {r : Row2} (hv : validL r.1 = true) : (setG [] r).1 = [r] := by
  unfold setG
  rw [hv]
  rfl
def tabC (nn : Int) (ms : List Int) (ns : List (List UInt8)) : Nat → List Row2
  | 0 => []
  | j + 1 => bif decide (ms.getD j 0 > nn) then tabC nn ms ns j else (setG (tabC nn ms ns j) (ns.getD j [], ms.getD j 0)).1
theorem tabC_ok (nn : Int) (ms : List Int) (ns : List (List UInt8)) : ∀ j, j ≤ 30 → sortedG (tabC nn ms ns j) = true ∧ (tabC nn ms ns j).length ≤ j
  | 0, _ => ⟨rfl, Nat.le_refl _⟩
  | j + 1, h => by
    obtain ⟨h1, h2⟩ := tabC_ok nn ms ns j (by omega)
    unfold tabC
    cases decide (ms.getD j 0 > nn) with
    | true => exact ⟨h1, by rw [cond_true]; omega⟩
    | false =>
      rw [cond_false]
      have := setG_more (xs := tabC nn ms ns j) (r := (ns.getD j [], ms.getD j 0)) (by omega)
      exact ⟨setG_sorted _ h1, by omega⟩
def badC (ms : List Int) (ns : List (List UInt8)) (j : Nat) : Bool := !validL (ns.getD j []) || (decide (ms.getD j 0 < 0) || decide (ms.getD j 0 > 1125899906842624))
theorem rightCm {p : List UInt8} {m : Int} (hv : validL p = true) (h1 : ¬ m < 0) (h2 : ¬ m > 1125899906842624) : rightC ((3 : Int), (0 : Int), (0 : Int), [], p, m, (0 : Int), (0 : Int), (0 : Int), (0 : Int), (0 : Int), (0 : Int), (0 : Int)) = true := by
  have e : withinB m 0 1125899906842624 = true := by unfold withinB; simp; omega
  simp [rightC, plainC, e, hv]
theorem rightGr {p : List UInt8} (hv : validL p = true) : rightC ((4 : Int), (0 : Int), (0 : Int), [], p, (0 : Int), (0 : Int), (0 : Int), (0 : Int), (0 : Int), (0 : Int), (0 : Int), (0 : Int)) = true := by
  simp [rightC, plainC, hv]
def gNSt (nn : Int) (ms : List Int) (ns : List (List UInt8)) (q : AV) (M : LogS) (j : Nat) : St := ⟨gSl nn ms ns q 6 j, gON M.1 M.2.1 M.2.2.1 M.2.2.2.1 M.2.2.2.2 [], 7⟩
def gRSt (nn : Int) (ms : List Int) (ns : List (List UInt8)) (q : AV) (M : LogS) (ps : List Row2) (j : Nat) : St := ⟨gSl nn ms ns q 7 j, gOR M.1 M.2.1 M.2.2.1 M.2.2.2.1 M.2.2.2.2 ps ps, 8⟩
def gSt (nn : Int) (ms : List Int) (ns : List (List UInt8)) (q : AV) (M : LogS) (ps : List Row2) (j : Nat) : St := if ps = [] then gNSt nn ms ns q M j else gRSt nn ms ns q M ps j
theorem g11_step {R : Type} (nn : Nat) (hn : nn ≤ 30) (ms : List Int) (ns : List (List UInt8)) (hm : ms.length ≤ 30) (hl : ms.length ≤ ns.length) (j : Nat) (hj : j < ms.length) (K : Ex → St → Option R) :
    roundK (env consP4) H.gro2 0 (LPof []) V.cooperagelaw16_StateGroups_11 L.cooperagelaw16_StateGroups_11 (gSt nn ms ns .undef (gLg nn) (tabC nn ms ns j) j) K = bif badC ms ns j then K .ret (gSt nn ms ns (.bool true) (gLg nn) (tabC nn ms ns j) j) else K .normal (gSt nn ms ns .undef (gLg nn) (tabC nn ms ns (j + 1)) (j + 1)) := by
  obtain ⟨i1, i2, i3⟩ := gLg_inv nn (by omega)
  obtain ⟨o1, o2, o3, o4, o5, o6, o7, o8⟩ := okB_iff.1 i3
  obtain ⟨t1, t2⟩ := tabC_ok nn ms ns j (by omega)
  obtain ⟨u1, u2⟩ := tabC_ok nn ms ns (j + 1) (by omega)
  have hM : ((gLg nn).1, (gLg nn).2.1, (gLg nn).2.2.1, (gLg nn).2.2.2.1, (gLg nn).2.2.2.2) = gLg nn := rfl
  have e1 : IntKind.i64.wrap ((j : Int) + 1) = ((j + 1 : Nat) : Int) := by rw [wrap64 (by omega) (by omega)]; omega
  have b1 : (decide ((0 : Int) ≤ (j : Int)) && decide ((j : Int) < (ns.length : Int))) = true := by simp; omega
  have b2 : (decide ((0 : Int) ≤ (j : Int)) && decide ((j : Int) < (ms.length : Int))) = true := by simp; omega
  have b3 : decide ((j : Int) < (ms.length : Int)) = true := decide_eq_true (by omega)
  have b4 : decide ((gLg nn).1.length ≤ 1000000000) = true := decide_eq_true (by omega)
  have bad : ∀ (a b c : Bool), (bif !a then some true else bif b then some true else some c) = some (!a || (b || c)) := fun a b c => by cases a <;> cases b <;> rfl
  by_cases hp : tabC nn ms ns j = []
  · have eS : ∀ q k, gSt nn ms ns q (gLg nn) (tabC nn ms ns j) k = gNSt nn ms ns q (gLg nn) k := fun q k => by unfold gSt; rw [if_pos hp]
    rw [eS, eS]
    refine (g11n_rd nn j ms ns [] (gLg nn).1 (gLg nn).2.1 (gLg nn).2.2.1 (gLg nn).2.2.2.1 (gLg nn).2.2.2.2 K).trans ?_
    rw [hM, i2, i1, b1, b2, b3, b4, Int.toNat_natCast, e1]
    simp only [cond_true]
    rw [bad, Option.bind_some]
    show (bif badC ms ns j then _ else _) = _
    cases hb : badC ms ns j with
    | true =>
      simp only [cond_true]
      (unfold gNSt gON; rw [i1]) <;> rfl
    | false =>
      unfold badC at hb
      simp only [Bool.or_eq_false_iff, Bool.not_eq_false', decide_eq_false_iff_not] at hb
      obtain ⟨v1, v2, v3⟩ := hb
      rw [cond_false, cond_false, rightCm v1 v2 v3, cond_true, cond_neg (show ¬ ms.getD j 0 < 0 from v2)]
      by_cases hg : ms.getD j 0 > (nn : Int)
      · have eT : tabC nn ms ns (j + 1) = tabC nn ms ns j := by
          show (bif decide (ms.getD j 0 > (nn : Int)) then _ else _) = _
          rw [decide_eq_true hg]; rfl
        rw [decide_eq_true hg, cond_true, eT, eS]
        simp only [cond_true]
        (unfold gNSt gON; rw [i1]) <;> rfl
      · have eT : tabC nn ms ns (j + 1) = [(ns.getD j [], ms.getD j 0)] := by
          show (bif decide (ms.getD j 0 > (nn : Int)) then _ else _) = _
          rw [decide_eq_false hg, cond_false, hp]
          exact setG_nil v1
        have eG : getGr [(ns.getD j [], ms.getD j 0)] (ns.getD j []) = (ms.getD j 0, true) := getGr_at (x := (ns.getD j [], ms.getD j 0)) rfl (List.mem_singleton.2 rfl)
        have eN : (setG [] (ns.getD j [], ms.getD j 0)).1 = [(ns.getD j [], ms.getD j 0)] := setG_nil v1
        have eQ : (ms.getD j 0 != ms.getD j 0) = false := by simp
        rw [decide_eq_false hg, v1, rightGr v1, eG, eN, eT]
        simp only [cond_true, cond_false, eQ, Option.bind_some, List.length_nil, Nat.zero_le, decide_true]
        unfold gSt
        rw [if_neg (by simp)]
        (unfold gRSt gOR; rw [i1]) <;> rfl
  · have eS : ∀ q k, gSt nn ms ns q (gLg nn) (tabC nn ms ns j) k = gRSt nn ms ns q (gLg nn) (tabC nn ms ns j) k := fun q k => by unfold gSt; rw [if_neg hp]
    rw [eS, eS]
    refine (g11r_rd nn j ms ns (tabC nn ms ns j) (tabC nn ms ns j) (gLg nn).1 (gLg nn).2.1 (gLg nn).2.2.1 (gLg nn).2.2.2.1 (gLg nn).2.2.2.2 K).trans ?_
    have b5 : decide ((tabC nn ms ns j).length ≤ 1000000) = true := decide_eq_true (by omega)
    have b6 : decide ((tabC nn ms ns j).length ≤ 99) = true := decide_eq_true (by omega)
    rw [hM, i2, i1, b1, b2, b3, b4, b5, b6, Int.toNat_natCast, e1, t1]
    simp only [cond_true]
    rw [bad, Option.bind_some]
    show (bif badC ms ns j then _ else _) = _
    cases hb : badC ms ns j with
    | true =>
      simp only [cond_true]
      (unfold gRSt gOR; rw [i1]) <;> rfl
    | false =>
      unfold badC at hb
      simp only [Bool.or_eq_false_iff, Bool.not_eq_false', decide_eq_false_iff_not] at hb
      obtain ⟨v1, v2, v3⟩ := hb
      rw [cond_false, cond_false, rightCm v1 v2 v3, cond_true, cond_neg (show ¬ ms.getD j 0 < 0 from v2)]
      by_cases hg : ms.getD j 0 > (nn : Int)
      · have eT : tabC nn ms ns (j + 1) = tabC nn ms ns j := by
          show (bif decide (ms.getD j 0 > (nn : Int)) then _ else _) = _
          rw [decide_eq_true hg]; rfl
        rw [decide_eq_true hg, cond_true, eT, eS]
        simp only [cond_true]
        (unfold gRSt gOR; rw [i1]) <;> rfl
      · have eT : (setG (tabC nn ms ns j) (ns.getD j [], ms.getD j 0)).1 = tabC nn ms ns (j + 1) := by
          show _ = (bif decide (ms.getD j 0 > (nn : Int)) then _ else _)
          rw [decide_eq_false hg]; rfl
        have hin : (ns.getD j [], ms.getD j 0) ∈ tabC nn ms ns (j + 1) := by rw [← eT]; exact setG_in v1 (by omega)
        have eG : getGr (tabC nn ms ns (j + 1)) (ns.getD j []) = (ms.getD j 0, true) := getGr_at (x := (ns.getD j [], ms.getD j 0)) u1 hin
        have eQ : (ms.getD j 0 != ms.getD j 0) = false := by simp
        have hne : tabC nn ms ns (j + 1) ≠ [] := fun h => by rw [h] at hin; cases hin
        have b7 : decide ((tabC nn ms ns (j + 1)).length ≤ 1000000) = true := decide_eq_true (by omega)
        rw [decide_eq_false hg, v1, rightGr v1, eT, eG, u1, b7]
        simp only [cond_true, cond_false, eQ, Option.bind_some, Bool.true_and, Bool.and_true]
        unfold gSt
        rw [if_neg hne]
        cases hasG (tabC nn ms ns j) (ns.getD j []) <;> ((unfold gRSt gOR; rw [i1]) <;> rfl)
theorem g11_last {R : Type} (nn : Nat) (hn : nn ≤ 30) (ms : List Int) (ns : List (List UInt8)) (ps : List Row2) (K : Ex → St → Option R) :
    roundK (env consP4) H.gro2 0 (LPof []) V.cooperagelaw16_StateGroups_11 L.cooperagelaw16_StateGroups_11 (gSt nn ms ns .undef (gLg nn) ps ms.length) K = K (.exit 2) (gSt nn ms ns .undef (gLg nn) ps ms.length) := by
  unfold gSt
  by_cases hp : ps = []
  · rw [if_pos hp]
    refine (g11n_rd nn ms.length ms ns [] (gLg nn).1 (gLg nn).2.1 (gLg nn).2.2.1 (gLg nn).2.2.2.1 (gLg nn).2.2.2.2 K).trans ?_
    rw [cond_neg (by omega)]
    rfl
  · rw [if_neg hp]
    refine (g11r_rd nn ms.length ms ns ps ps (gLg nn).1 (gLg nn).2.1 (gLg nn).2.2.1 (gLg nn).2.2.2.1 (gLg nn).2.2.2.2 K).trans ?_
    rw [cond_neg (by omega)]
    rfl
open Classical in
noncomputable def isG (nn : Int) (M : LogS) : Bool := decide (M = gLg nn.toNat)
theorem isG_eq {nn : Int} {M : LogS} (h : isG nn M = true) : M = gLg nn.toNat := by
  unfold isG at h
  exact @of_decide_eq_true _ (_) h
theorem isG_self (nn : Int) : isG nn (gLg nn.toNat) = true := by
  unfold isG
  exact @decide_eq_true _ (_) rfl
abbrev gONP : List OPat := [.box 7 [[.lit (.ptr 1 (.tl 0) 0), .lit (.int .i64 100), .lit (.int .i64 0), .lit (.int .i64 0), .lit (.int .i64 0), .lit (.ptr 4 (.tl 0) 0), .lit (.ptr 5 (.tl 0) 0)]], .box 1 [[.lit (.hw 2)]], .arr 10 segT [actTP], .log recT, .box 1 [[.lit .nils]], .box 1 [[.lit .nils]], .box 1 [[.vl XG.rowS]]]
abbrev gAlts (nn : Int) (ms : List Int) (ns : List (List UInt8)) (M : LogS) : List (Bool × Ex × St) :=
  [((firstFrom (badC ms ns) 0 ms.length).isSome && (tabC nn ms ns ((firstFrom (badC ms ns) 0 ms.length).getD 0)).isEmpty, .ret, gNSt nn ms ns (.bool true) M ((firstFrom (badC ms ns) 0 ms.length).getD 0)),
   ((firstFrom (badC ms ns) 0 ms.length).isSome, .ret, gRSt nn ms ns (.bool true) M (tabC nn ms ns ((firstFrom (badC ms ns) 0 ms.length).getD 0)) ((firstFrom (badC ms ns) 0 ms.length).getD 0)),
   ((tabC nn ms ns ms.length).isEmpty, .exit 2, gNSt nn ms ns .undef M ms.length),
   (true, .exit 2, gRSt nn ms ns .undef M (tabC nn ms ns ms.length) ms.length)]
theorem gSt_emp (nn : Int) (ms : List Int) (ns : List (List UInt8)) (q : AV) (M : LogS) (ps : List Row2) (j : Nat) : gSt nn ms ns q M ps j = bif ps.isEmpty then gNSt nn ms ns q M j else gRSt nn ms ns q M ps j := by
  unfold gSt
  cases ps with
  | nil => rfl
  | cons a l => rfl
theorem g11_pick (nn : Int) (ms : List Int) (ns : List (List UInt8)) (M : LogS) : pick [((firstFrom (badC ms ns) 0 ms.length).isSome, Ex.ret, gSt nn ms ns (.bool true) M (tabC nn ms ns ((firstFrom (badC ms ns) 0 ms.length).getD 0)) ((firstFrom (badC ms ns) 0 ms.length).getD 0)), (true, .exit 2, gSt nn ms ns .undef M (tabC nn ms ns ms.length) ms.length)] = pick (gAlts nn ms ns M) := by
  rw [gSt_emp, gSt_emp]
  unfold gAlts
  cases (firstFrom (badC ms ns) 0 ms.length).isSome <;> cases (tabC nn ms ns ((firstFrom (badC ms ns) 0 ms.length).getD 0)).isEmpty <;> cases (tabC nn ms ns ms.length).isEmpty <;> rfl
noncomputable abbrev g11LC : LoopC := LoopC.of ⟨[(0, .int .i64), (1, .vl (.int .i64)), (2, .vl .str), (6, .lit .undef), (8, .lit (.ptr 0 (.tl 0) 0)), (10, .lit (.ptr 6 (.tl 0) 0)), (11, .int .i64)], gONP⟩
  (fun ⟨⟨nn, ms, ns, _, _, _, i, _⟩, ⟨_, _, ⟨f, ⟨b, n, _, _, _, _, _, _, z, _, _⟩, _⟩, rs, _, _, ⟨⟨xs, _⟩, _⟩, _⟩⟩ => decide (i = (0 : Int)) && decide ((0 : Int) ≤ nn) && decide (nn ≤ (30 : Int)) && decide (List.length ms ≤ 30) && decide (List.length ms ≤ List.length ns) && List.isEmpty xs && isG nn (f, b, n, z, rs))
  fun ⟨⟨nn, ms, ns, _, _, _, i, _⟩, ⟨_, _, ⟨f, ⟨b, n, _, _, _, _, _, _, z, _, _⟩, _⟩, rs, _, _, ⟨⟨xs, _⟩, _⟩, _⟩⟩ => gAlts nn ms ns (f, b, n, z, rs)
theorem g11_go (nn i : Int) (ms : List Int) (ns : List (List UInt8)) (M : LogS) (xs : List Row2) (h1 : i = 0) (h2 : 0 ≤ nn) (h3 : nn ≤ 30) (h4 : ms.length ≤ 30) (h5 : ms.length ≤ ns.length) (h6 : xs.isEmpty = true) (h7 : M = gLg nn.toNat) :
    ∃ m, rounds (env consP4) H.gro2 0 (LPof []) V.cooperagelaw16_StateGroups_11 L.cooperagelaw16_StateGroups_11 m ⟨gSl nn ms ns .undef 6 i, gON M.1 M.2.1 M.2.2.1 M.2.2.2.1 M.2.2.2.2 xs, 7⟩ (fun e s => some (e, s)) = pick (gAlts nn ms ns M) := by
  subst h1 h7
  obtain rfl := List.isEmpty_iff.1 h6
  obtain ⟨k, rfl⟩ := Int.eq_ofNat_of_zero_le h2
  rw [← g11_pick]
  have e : (⟨gSl (k : Int) ms ns .undef 6 0, gON (gLg k).1 (gLg k).2.1 (gLg k).2.2.1 (gLg k).2.2.2.1 (gLg k).2.2.2.2 [], 7⟩ : St) = gSt k ms ns .undef (gLg k) (tabC k ms ns 0) 0 := by
    unfold gSt
    rw [if_pos (show tabC (k : Int) ms ns 0 = [] from rfl)]
    rfl
  show ∃ m, rounds (env consP4) H.gro2 0 (LPof []) V.cooperagelaw16_StateGroups_11 L.cooperagelaw16_StateGroups_11 m (⟨gSl (k : Int) ms ns .undef 6 0, gON (gLg k).1 (gLg k).2.1 (gLg k).2.2.1 (gLg k).2.2.2.1 (gLg k).2.2.2.2 [], 7⟩ : St) (fun e s => some (e, s)) = _
  rw [e]
  exact ⟨_, Eq.trans (search_rounds (S := fun j => gSt k ms ns .undef (gLg k) (tabC k ms ns j) j) (T := fun j => gSt k ms ns (.bool true) (gLg k) (tabC k ms ns j) j) (p := badC ms ns) (n := ms.length) (e1 := .ret) (e2 := .exit 2) (by simp) (by simp) (fun j hj K => g11_step k (by omega) ms ns h4 h5 j hj K) (fun K => g11_last k (by omega) ms ns _ K) _ ms.length 0 (by omega)) search_pick⟩
theorem g11_lok : LoopOK P0 H.gro2 0 L.cooperagelaw16_StateGroups_11 g11LC :=
  loop_ok_of (env_ok consP4_ok) glob0 mixed0 noLoops V.cooperagelaw16_StateGroups_11 (by decide) fun ⟨⟨nn, ms, ns, _, _, _, i, _⟩, ⟨_, _, ⟨f, ⟨b, n, _, _, _, _, _, _, z, _, _⟩, _⟩, rs, _, _, ⟨⟨xs, _⟩, _⟩, _⟩⟩ h hw => by
    simp only [Bool.and_eq_true, decide_eq_true_eq] at h
    obtain ⟨⟨⟨⟨⟨⟨h1, h2⟩, h3⟩, h4⟩, h5⟩, h6⟩, h7⟩ := h
    exact g11_go nn i ms ns (f, b, n, z, rs) xs h1 h2 h3 h4 h5 h6 (isG_eq h7)
theorem gro_ev (nn : Int) (ms : List Int) (ns : List (List UInt8)) : evFn (env consP4) H.gro2 (LPof [(6, g6LC), (11, g11LC)]) F.cooperagelaw16_StateGroups [.int .i64 nn, .vl (.int .i64) ms, .vl .str ns] [] (finT [.bool]) = Option.bind (bif decide (nn < (0 : Int)) then some true else bif decide (nn > (30 : Int)) then some true else bif decide ((↑ms.length : Int) > (30 : Int)) then some true else some (decide ((↑ns.length : Int) < (↑ms.length : Int)))) fun v => bif v then some (true, ()) else bif decide ((0 : Int) ≤ nn) && decide (nn ≤ (30 : Int)) && true && true && true && true && true && true && true && true && true && true then bif decide ((0 : Int) ≤ nn) && decide (nn ≤ (30 : Int)) && decide (ms.length ≤ 30) && decide (ms.length ≤ ns.length) && true && isG nn (gLg nn.toNat) && ((firstFrom (badC ms ns) 0 ms.length).isSome && (tabC nn ms ns ((firstFrom (badC ms ns) 0 ms.length).getD 0)).isEmpty) then some (true, ()) else bif decide ((0 : Int) ≤ nn) && decide (nn ≤ (30 : Int)) && decide (ms.length ≤ 30) && decide (ms.length ≤ ns.length) && true && isG nn (gLg nn.toNat) && (firstFrom (badC ms ns) 0 ms.length).isSome then some (true, ()) else bif decide ((0 : Int) ≤ nn) && decide (nn ≤ (30 : Int)) && decide (ms.length ≤ 30) && decide (ms.length ≤ ns.length) && true && isG nn (gLg nn.toNat) && (tabC nn ms ns ms.length).isEmpty then some (true, ()) else bif decide ((0 : Int) ≤ nn) && decide (nn ≤ (30 : Int)) && decide (ms.length ≤ 30) && decide (ms.length ≤ ns.length) && true && isG nn (gLg nn.toNat) && true then bif decide (0 < (tabC nn ms ns ms.length).length) && decide ((tabC nn ms ns ms.length).length ≤ 1000000) then some (decide (tabC nn ms ns ms.length = tabC nn ms ns ms.length), ()) else none else none else none := by kernel_rfl

theorem gro_val (nn : Int) (ms : List Int) (ns : List (List UInt8)) : evFn (env consP4) H.gro2 (LPof [(6, g6LC), (11, g11LC)]) F.cooperagelaw16_StateGroups [.int .i64 nn, .vl (.int .i64) ms, .vl .str ns] [] (finT [.bool]) = some (true, ()) := by
  rw [gro_ev]
  by_cases h1 : nn < 0
  · rw [cond_pos h1]; rfl
  by_cases h2 : nn > 30
  · rw [cond_neg h1, cond_pos h2]; rfl
  by_cases h3 : (ms.length : Int) > 30
  · rw [cond_neg h1, cond_neg h2, cond_pos h3]; rfl
  by_cases h4 : (ns.length : Int) < (ms.length : Int)
  · rw [cond_neg h1, cond_neg h2, cond_neg h3, decide_eq_true h4]; rfl
  rw [cond_neg h1, cond_neg h2, cond_neg h3, decide_eq_false h4, Option.bind_some, cond_false]
  obtain ⟨t1, t2⟩ := tabC_ok nn ms ns ms.length (by omega)
  have e1 : decide ((0 : (Pat.int IntKind.i64).den) ≤ nn) = true := decide_eq_true (show (0 : Int) ≤ nn by omega)
  have e2 : decide (nn ≤ (30 : (Pat.int IntKind.i64).den)) = true := decide_eq_true (show nn ≤ (30 : Int) by omega)
  have e3 : decide (ms.length ≤ 30) = true := decide_eq_true (by omega)
  have e4 : decide (ms.length ≤ ns.length) = true := decide_eq_true (by omega)
  have e5 : decide ((tabC nn ms ns ms.length).length ≤ 1000000) = true := decide_eq_true (by omega)
  rw [e1, e2, e3, e4, e5, isG_self]
  simp only [Bool.and_self, Bool.true_and, Bool.and_true, cond_true, decide_true]
  cases hE : (tabC nn ms ns ms.length).isEmpty with
  | true => cases (firstFrom (badC ms ns) 0 ms.length).isSome <;> cases (tabC nn ms ns ((firstFrom (badC ms ns) 0 ms.length).getD 0)).isEmpty <;> rfl
  | false =>
    have e6 : decide (0 < (tabC nn ms ns ms.length).length) = true := decide_eq_true (by
      cases h : tabC nn ms ns ms.length with
      | nil => rw [h] at hE; cases hE
      | cons a l => simp)
    rw [e6]
    cases (firstFrom (badC ms ns) 0 ms.length).isSome <;> cases (tabC nn ms ns ((firstFrom (badC ms ns) 0 ms.length).getD 0)).isEmpty <;> rfl
def caseGro : PCase := ⟨[.ty (.int .i64), .ty (.sl (.int .i64)), .ty (.sl .str)], [.bool], fun x => [(true, (true, ()))]⟩
theorem gro_ok : caseGro.ok P0 I.cooperagelaw16_StateGroups := case_ok2 (H := H.gro2) (E := env consP4) (env_ok consP4_ok) glob0 mixed0 G.cooperagelaw16_StateGroups Bd.cooperagelaw16_StateGroups (by kernel_rfl) (loops_good (tab := [(6, g6LC), (11, g11LC)]) (by kernel_rfl) (fun x hx => by simp at hx; rcases hx with rfl | rfl; exact g6_lok; exact g11_lok)) fun ⟨nn, ms, ns, ()⟩ y h hw => by
  obtain ⟨hc, rfl⟩ := pick_pre h
  exact gro_val nn ms ns
theorem gro_good (x : tysDen [.int .i64, .sl (.int .i64), .sl .str]) (hw : tysWf [.int .i64, .sl (.int .i64), .sl .str] x) : ∃ o, EffGood P0 I.cooperagelaw16_StateGroups (valsOf [.int .i64, .sl (.int .i64), .sl .str] x) [] (.bool true) o := gro_ok x (true, ()) rfl hw
end Go.Sim
namespace Go.Sim
set_option maxRecDepth 10000
open Go.Proofs Go.Proofs.YtpkobajkogcmkaaGreatDoor
/-- A package variable that is an array, read whole. -/
theorem laid_array {P : Program} {W : World} {g n t e : Nat} {y : Ty} {cs : Array Value} {fuel : Nat} {ds : List (DataW Unit)} {p : List MemPlace} (hcell : ∀ i, W.cell? ⟨g, i, none⟩ = cs[i]?) (ht : P.underlying t = some (.array n e))
    (hd : DataW.trod (fun _ => ()) P W 0 (fun _ => true) false fuel t cs.toList = some (.agg ds, p)) (hsz : P.cellsOf e = y.sz) {xs : List y.den} (hlen : xs.length = n) (hn : n ≤ maxL)
    (hel : ∀ (i : Nat) x d (m : Nat) cs' p', xs[i]? = some x → ds[i]? = some d → DataW.trod (fun _ => ()) P W 0 (fun _ => true) false m e cs' = some (d, p') → Vt (phi0 W) W y x cs') :
    Vt (phi0 W) W (.sl y) xs [.slice (some ⟨g, 0, none⟩) xs.length xs.length] := by
  obtain ⟨zs, m, _, ex, hc, hz, hE⟩ := DataW.trod_array ht hd
  have hds : ds = zs.map (·.1) := DataW.agg.inj (Prod.mk.inj ex).1
  refine ⟨by rw [hlen]; exact hn, some ⟨g, 0, none⟩, xs.length, rfl, Nat.le_refl _, fun i x hx => ?_⟩
  have hi : i < n := by have := (List.getElem?_eq_some_iff.1 hx).1; omega
  have h1 := hE i hi
  rw [List.getElem?_eq_getElem (by omega : i < zs.length)] at h1
  have h2 : ds[i]? = some (zs[i]'(by omega)).1 := by rw [hds, List.getElem?_map, List.getElem?_eq_getElem (by omega : i < zs.length)]; rfl
  refine ⟨⟨g, 0, none⟩, _, rfl, rfl, hel i x _ m _ _ hx h2 h1, fun j v hj => ?_⟩
  have hj2 : cs.toList[i * y.sz + j]? = some v := by
    rw [hsz] at hj
    have hjl := (List.getElem?_eq_some_iff.1 hj).1
    rw [List.getElem?_take_of_lt (by rw [List.length_take] at hjl; omega), List.getElem?_drop] at hj
    exact hj
  have hc2 : W.cell? ⟨g, 0 + i * y.sz + j, none⟩ = some v := by
    rw [hcell, Nat.zero_add, ← Array.getElem?_toList]
    exact hj2
  exact ⟨hc2, (cell_phi0 hc2).2.1⟩
theorem pin_first : (Go.Pinned.utf8First : DataW Unit) = .agg (utf8First.map fun n => .lit (.int .u8 n)) := by kernel_rfl
theorem acc_laid : (Rows.laid_unicode_utf8_acceptRanges : DataW Unit) = .agg (utf8Acc.map fun x => .agg [.lit (.int .u8 x.1), .lit (.int .u8 x.2)]) := by kernel_rfl
theorem get_map {α β : Type} {f : α → β} {l : List α} {i : Nat} {x : α} {d : β} (hx : l[i]? = some x) (hd : (l.map f)[i]? = some d) : d = f x := by
  rw [List.getElem?_map, hx] at hd
  exact (Option.some.inj hd).symm
theorem laidN {W : World} (h : laidMetH Tryz.prog [("unicode/utf8.acceptRanges", Rows.laid_unicode_utf8_acceptRanges), ("unicode/utf8.first", Rows.laid_unicode_utf8_first)] W) : LaidT P0 (phi0 W) W := by
  rw [MakeChecks.laidMetH_plain _ _ _ (by kernel_rfl)] at h
  obtain ⟨ps, ⟨g1, t1, cs1, fuel1, p1, q1, hg1, ht1, hv1, hd1, ⟨g0, t0, cs0, fuel0, p0, q0, hg0, ht0, hv0, hd0, _, _⟩, _⟩, _, _⟩ := h
  have e1 := Option.some.inj ((show Tryz.prog.globalNamed "unicode/utf8.acceptRanges" = some 1 by kernel_rfl).symm.trans hg1)
  have e0 := Option.some.inj ((show Tryz.prog.globalNamed "unicode/utf8.first" = some 0 by kernel_rfl).symm.trans hg0)
  subst e1; subst e0
  have f1 := Option.some.inj ((show (Tryz.prog.globals[1]?).map (·.type) = some 234 by kernel_rfl).symm.trans ht1)
  have f0 := Option.some.inj ((show (Tryz.prog.globals[0]?).map (·.type) = some 231 by kernel_rfl).symm.trans ht0)
  subst f1; subst f0
  have hd0' : DataW.trod (fun _ => ()) Tryz.prog W 0 (fun _ => true) false fuel0 231 cs0.toList = some (.agg (utf8First.map fun n => .lit (.int .u8 n)), p0) := by rw [← pin_first]; exact hd0
  rw [acc_laid] at hd1
  have hint : ∀ (m : Nat) cs' (n : Int) p', DataW.trod (fun _ => ()) Tryz.prog W 0 (fun _ => true) false m 5 cs' = some (.lit (.int .u8 n), p') → cs' = [.int .u8 n] ∧ In .u8 n := fun m cs' n p' hm => by
    obtain ⟨z, z1, z2, z3⟩ := DataW.trod_int (k := .u8) (show Tryz.prog.underlying 5 = some (.int .u8) by kernel_rfl) hm
    have : n = z := by simpa using (Prod.mk.inj z2).1
    subst this
    exact ⟨z1, wf_In z3⟩
  intro x hx
  simp only [Tabs.tab, List.mem_cons, List.mem_nil_iff, or_false] at hx
  rcases hx with rfl | rfl
  · refine laid_array (fun i => World.var?_cell hg0 hv0 i) (show Tryz.prog.underlying 231 = some (.array 256 5) by kernel_rfl) hd0' (by kernel_rfl) utf8First_length (by decide) fun i x d m cs' p' hx hd ht => ?_
    have := get_map hx hd
    subst this
    exact hint m cs' x p' ht
  · refine laid_array (fun i => World.var?_cell hg1 hv1 i) (show Tryz.prog.underlying 234 = some (.array 16 233) by kernel_rfl) hd1 (by kernel_rfl) rfl (by decide) fun i x d m cs' p' hx hd ht => ?_
    have := get_map hx hd
    subst this
    obtain ⟨zs, m', _, ex, hc, hz, hE⟩ := DataW.trod_struct Tryz.underlying233 ht
    have c5 : Tryz.prog.cellsOf 5 = 1 := by kernel_rfl
    have c61 : Tryz.prog.cellsOf 233 = 2 := by kernel_rfl
    have a0 := hE 0 _ rfl
    have a1 := hE 1 _ rfl
    have hz2 : zs.length = 2 := hz
    obtain ⟨z0, z1, rfl⟩ : ∃ z0 z1, zs = [z0, z1] := by
      match zs, hz2 with
      | [z0, z1], _ => exact ⟨z0, z1, rfl⟩
    rw [c61] at hc
    obtain ⟨u0, u1, rfl⟩ : ∃ u0 u1, cs' = [u0, u1] := by
      match cs', hc with
      | [u0, u1], _ => exact ⟨u0, u1, rfl⟩
    have ex2 := (Prod.mk.inj ex).1
    simp only [List.map_cons, List.map_nil, DataW.agg.injEq, List.cons.injEq, and_true] at ex2
    obtain ⟨y0, p0'⟩ := z0
    obtain ⟨y1, p1'⟩ := z1
    obtain ⟨rfl, rfl⟩ := ex2
    have b0 := hint m' [u0] x.1 p0' (by rw [← show (([u0, u1] : List Value).drop 0).take (Tryz.prog.cellsOf 5) = [u0] by rw [c5]; rfl]; exact a0)
    have b1 := hint m' [u1] x.2 p1' (by rw [← show (([u0, u1] : List Value).drop 1).take (Tryz.prog.cellsOf 5) = [u1] by rw [c5]; rfl]; exact a1)
    exact ⟨[u0], [u1], rfl, b0, b1⟩
end Go.Sim
