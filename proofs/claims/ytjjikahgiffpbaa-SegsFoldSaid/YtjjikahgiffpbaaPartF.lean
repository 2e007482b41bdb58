/-
  WkUC: walks of a log of segments: Clean. · SimCut: code in parts. · WkUE: a log of segments: Clean. · WkRA: walks of the law SegsFold. · WkRB: SegsFold: what calls leave of a log. · WkRC: the law SegsFold.
-/
import Derived.Test.YtjjikahgiffpbaaPartE
namespace Go.Sim
set_option linter.unusedSimpArgs false
set_option linter.unusedVariables false
set_option maxRecDepth 10000
noncomputable abbrev consU1 : List (FuncId × Con) := [(I.clean_Keep, .pure (pureOf [caseKeep])), (I.slices_Clone_api_Record_api_Record, .pure (pureOf [caseRclone]))] ++ consS1
theorem consU1_ok : ∀ x ∈ consU1, HoldsC P0 x.1 x.2 := by
  intro x hx
  rcases List.mem_append.1 hx with hx | hx
  · simp at hx
    rcases hx with rfl | rfl
    · exact ⟨pureOf_holds (by simp; exact keep_ok), C.clean_Keep⟩
    · exact ⟨pureOf_holds (by simp; exact rclone_ok), C.slices_Clone_api_Record_api_Record⟩
  · exact consS1_ok x hx
def H.clean2 : Hint := { H.segs_Log_Clean with vs := [33, 42] }
theorem cl4_rd {R : Type} (pt nw gr m i : Int) (d : Bool) (ac : List Rec) (f : List Seg) (b n z : Int) (rs : List Rec) (K : Ex → St → Option R) : roundK (env consU1) H.clean2 3 (LPof []) V.segs_Log_Clean_4 L.segs_Log_Clean_4 ⟨[(0, .ptr 0 (.tl 0) 0), (1, .int .i64 pt), (2, .int .i64 nw), (3, .int .i64 gr), (8, .hw 3), (9, .bool d), (25, .hw 1), (26, .int .i64 m), (27, .int .i64 i)], [(0, .arr 1 .bool [] [[.hw 1]]), (1, .arr 10 segT f [actC b n z]), (2, .log recT rs), (3, .arr 5 recT ac [])], 4⟩ K = bif decide (i < m) then bif decide ((0 : Int) ≤ i) && decide (i < (↑(f.length + 1) : Int)) then bif decide (i.toNat < f.length) then bif decide ((ac ++ (f.getD i.toNat segTy.zero).snd.snd.snd.snd.fst).length * 56 ≤ 140737488355328) then Option.bind (bif d then some !(f.getD i.toNat segTy.zero).snd.snd.snd.snd.snd.snd.snd.fst else some false) fun v => K Ex.normal { slots := [(0, AV.ptr 0 (Elt.tl 0) 0), (1, AV.int IntKind.i64 pt), (2, AV.int IntKind.i64 nw), (3, AV.int IntKind.i64 gr), (8, AV.hw 3), (9, AV.bool v), (25, AV.hw 1), (26, AV.int IntKind.i64 m), (27, AV.int IntKind.i64 (IntKind.i64.wrap (i + (1 : Int))))], objs := [(0, AObj.arr 1 Ty.bool [] [[AV.hw 1]]), (1, AObj.arr 10 segTy f [[AV.int IntKind.i64 b, AV.int IntKind.i64 n, AV.int IntKind.i64 (0 : Int), AV.int IntKind.i64 (0 : Int), AV.hw 2, AV.bool false, AV.bool false, AV.bool false, AV.int IntKind.i64 z, AV.int IntKind.u32 (0 : Int)]]), (2, AObj.log recTy rs), (3, AObj.arr 5 recTy (ac ++ (f.getD i.toNat segTy.zero).snd.snd.snd.snd.fst) [])], nx := 4 } else none else bif decide (i.toNat - f.length = 0) then bif decide ((ac ++ rs).length * 56 ≤ 140737488355328) then Option.bind (bif d then some true else some false) fun v => K Ex.normal { slots := [(0, AV.ptr 0 (Elt.tl 0) 0), (1, AV.int IntKind.i64 pt), (2, AV.int IntKind.i64 nw), (3, AV.int IntKind.i64 gr), (8, AV.hw 3), (9, AV.bool v), (25, AV.hw 1), (26, AV.int IntKind.i64 m), (27, AV.int IntKind.i64 (IntKind.i64.wrap (i + (1 : Int))))], objs := [(0, AObj.arr 1 Ty.bool [] [[AV.hw 1]]), (1, AObj.arr 10 segTy f [[AV.int IntKind.i64 b, AV.int IntKind.i64 n, AV.int IntKind.i64 (0 : Int), AV.int IntKind.i64 (0 : Int), AV.hw 2, AV.bool false, AV.bool false, AV.bool false, AV.int IntKind.i64 z, AV.int IntKind.u32 (0 : Int)]]), (2, AObj.log recTy rs), (3, AObj.arr 5 recTy (ac ++ rs) [])], nx := 4 } else none else none else none else K (Ex.exit 0) { slots := [(0, AV.ptr 0 (Elt.tl 0) 0), (1, AV.int IntKind.i64 pt), (2, AV.int IntKind.i64 nw), (3, AV.int IntKind.i64 gr), (8, AV.hw 3), (9, AV.bool d), (25, AV.hw 1), (26, AV.int IntKind.i64 m), (27, AV.int IntKind.i64 i)], objs := [(0, AObj.arr 1 Ty.bool [] [[AV.hw 1]]), (1, AObj.arr 10 segTy f [[AV.int IntKind.i64 b, AV.int IntKind.i64 n, AV.int IntKind.i64 (0 : Int), AV.int IntKind.i64 (0 : Int), AV.hw 2, AV.bool false, AV.bool false, AV.bool false, AV.int IntKind.i64 z, AV.int IntKind.u32 (0 : Int)]]), (2, AObj.log recTy rs), (3, AObj.arr 5 recTy ac [])], nx := 4 } := by kernel_rfl

theorem cl16_rd {R : Type} (pt m i k : Int) (p : Nat) (kp : List Rec) (f : List Seg) (b n z : Int) (rs : List Rec) (K : Ex → St → Option R) : roundK (env consU1) H.clean2 3 (LPof []) V.segs_Log_Clean_16 L.segs_Log_Clean_16 ⟨[(0, .ptr 0 (.tl 0) 0), (1, .int .i64 pt), (8, .vl recT kp), (13, .ptr 1 (.ty p) 0), (14, .int .i64 k), (52, .int .i64 m), (53, .int .i64 i)], [(0, .arr 1 .bool [] [[.hw 1]]), (1, .arr 10 segT f [actC b n z]), (2, .log recT rs)], 3⟩ K = Option.bind (bif decide (k < (↑kp.length : Int)) then bif decide ((0 : Int) ≤ k) && decide (k < (↑kp.length : Int)) then some (decide ((kp.getD k.toNat recTy.zero).fst < (f.getD p segTy.zero).snd.fst)) else none else some false) fun v => bif v then K Ex.normal { slots := [(0, AV.ptr 0 (Elt.tl 0) 0), (1, AV.int IntKind.i64 pt), (8, AV.vl recTy kp), (13, AV.ptr 1 (Elt.ty p) 0), (14, AV.int IntKind.i64 (IntKind.i64.wrap (k + (1 : Int)))), (52, AV.int IntKind.i64 m), (53, AV.int IntKind.i64 i)], objs := [(0, AObj.arr 1 Ty.bool [] [[AV.hw 1]]), (1, AObj.arr 10 segTy f [[AV.int IntKind.i64 b, AV.int IntKind.i64 n, AV.int IntKind.i64 (0 : Int), AV.int IntKind.i64 (0 : Int), AV.hw 2, AV.bool false, AV.bool false, AV.bool false, AV.int IntKind.i64 z, AV.int IntKind.u32 (0 : Int)]]), (2, AObj.log recTy rs)], nx := 3 } else K (Ex.exit 4) { slots := [(0, AV.ptr 0 (Elt.tl 0) 0), (1, AV.int IntKind.i64 pt), (8, AV.vl recTy kp), (13, AV.ptr 1 (Elt.ty p) 0), (14, AV.int IntKind.i64 k), (52, AV.int IntKind.i64 m), (53, AV.int IntKind.i64 i)], objs := [(0, AObj.arr 1 Ty.bool [] [[AV.hw 1]]), (1, AObj.arr 10 segTy f [[AV.int IntKind.i64 b, AV.int IntKind.i64 n, AV.int IntKind.i64 (0 : Int), AV.int IntKind.i64 (0 : Int), AV.hw 2, AV.bool false, AV.bool false, AV.bool false, AV.int IntKind.i64 z, AV.int IntKind.u32 (0 : Int)]]), (2, AObj.log recTy rs)], nx := 3 } := by kernel_rfl

def cl4St (pt nw gr : Int) (M : LogS) (i : Nat) : St := ⟨[(0, .ptr 0 (.tl 0) 0), (1, .int .i64 pt), (2, .int .i64 nw), (3, .int .i64 gr), (8, .hw 3), (9, .bool (locG ((segsL M).take i))), (25, .hw 1), (26, .int .i64 (M.1.length + 1 : Nat)), (27, .int .i64 i)], logO M ++ [(3, .arr 5 recT (catG ((segsL M).take i)) [])], 4⟩
theorem cl4_rounds {R : Type} (pt nw gr : Int) (M : LogS) (h1 : M.1.length ≤ 1000000000) (h2 : (catG (segsL M)).length ≤ 1048576) (K : Ex → St → Option R) : ∀ (m i : Nat), i + m = M.1.length + 1 →
    rounds (env consU1) H.clean2 3 (LPof []) V.segs_Log_Clean_4 L.segs_Log_Clean_4 (m + 1) (cl4St pt nw gr M i) K = K (.exit 0) (cl4St pt nw gr M (M.1.length + 1))
  | 0, i, h => by
    obtain rfl : i = M.1.length + 1 := by omega
    rw [rounds_succ']
    refine (cl4_rd _ _ _ _ _ _ _ _ _ _ _ _ _).trans ?_
    rw [cond_neg (by omega)]
    rfl
  | m + 1, i, h => by
    have ih := cl4_rounds pt nw gr M h1 h2 K m (i + 1) (by omega)
    have e1 : IntKind.i64.wrap ((i : Int) + 1) = ((i + 1 : Nat) : Int) := by rw [wrap64 (by omega) (by omega)]; omega
    have e2 := stake_snoc (l := segsL M) (i := i) (by rw [segsL_len]; omega)
    have e3 : catG ((segsL M).take (i + 1)) = catG ((segsL M).take i) ++ ((segsL M).getD i segTy.zero).2.2.2.2.1 := by rw [e2, catG_snoc]
    have e4 : locG ((segsL M).take (i + 1)) = (locG ((segsL M).take i) && !((segsL M).getD i segTy.zero).2.2.2.2.2.2.2.1) := by rw [e2, locG_snoc]
    have hb := catG_le (segsL M) (i + 1)
    have e5 : ∀ (a c : Bool), (bif a then some c else some false) = some (a && c) := fun a c => by cases a <;> rfl
    rw [rounds_succ']
    refine (cl4_rd _ _ _ _ _ _ _ _ _ _ _ _ _).trans ?_
    unfold cl4St at ih
    rw [e3, e4] at ih
    rw [e3] at hb
    rw [cond_pos (by omega), cond_pos2 (by omega) (by omega), Int.toNat_natCast, e1]
    by_cases hi : i < M.1.length
    · rw [segsL_lt hi] at ih hb
      rw [cond_pos hi, cond_pos (by omega), e5, Option.bind_some]
      exact ih
    · obtain rfl : i = M.1.length := by omega
      rw [segsL_last] at ih hb
      have hb : (catG ((segsL M).take M.1.length) ++ M.2.2.2.2).length ≤ (catG (segsL M)).length := hb
      rw [cond_neg hi, cond_pos (by omega), cond_pos (by omega), e5, Option.bind_some]
      exact ih
abbrev cl4LC : LoopC := LoopC.of ⟨[(0, .lit (.ptr 0 (.tl 0) 0)), (1, .int .i64), (2, .int .i64), (3, .int .i64), (8, .lit (.hw 3)), (9, .bool), (25, .lit (.hw 1)), (26, .int .i64), (27, .int .i64)], [.box 1 [[.lit (.hw 1)]], .arr 10 segT [actP], .log recT, .arr 5 recT []]⟩
  (fun ⟨⟨_, pt, nw, gr, _, d, _, m, i, _⟩, ⟨_, ⟨f, ⟨b, n, _, _, _, _, _, _, z, _, _⟩, _⟩, rs, ⟨ac, _⟩, _⟩⟩ => decide (i = (0 : Int)) && d && List.isEmpty ac && decide (m = ((List.length f + 1 : Nat) : Int)) && decide (List.length f ≤ 1000000000) && decide (List.length (catG (segsL (f, b, n, z, rs))) ≤ 1048576))
  fun ⟨⟨_, pt, nw, gr, _, d, _, m, i, _⟩, ⟨_, ⟨f, ⟨b, n, _, _, _, _, _, _, z, _, _⟩, _⟩, rs, ⟨ac, _⟩, _⟩⟩ => [(true, .exit 0, cl4St pt nw gr (f, b, n, z, rs) (List.length f + 1))]
theorem cl4_lok : LoopOK P0 H.clean2 3 L.segs_Log_Clean_4 cl4LC :=
  loop_ok_of (env_ok consU1_ok) glob0 mixed0 noLoops V.segs_Log_Clean_4 (by decide) fun ⟨⟨_, pt, nw, gr, _, d, _, m, i, _⟩, ⟨_, ⟨f, ⟨b, n, _, _, _, _, _, _, z, _, _⟩, _⟩, rs, ⟨ac, _⟩, _⟩⟩ h hw => by
    simp only [Bool.and_eq_true, decide_eq_true_eq] at h
    obtain ⟨⟨⟨⟨⟨rfl, h2⟩, h3⟩, rfl⟩, h5⟩, h6⟩ := h
    obtain rfl : ac = [] := List.isEmpty_iff.1 h3
    have h2 : d = true := h2
    subst h2
    exact ⟨_, cl4_rounds pt nw gr (f, b, n, z, rs) h5 h6 _ (List.length f + 1) 0 (Nat.zero_add _)⟩
def cl16St (pt : Int) (p : Nat) (m i : Int) (kp : List Rec) (M : LogS) (k : Nat) : St := ⟨[(0, .ptr 0 (.tl 0) 0), (1, .int .i64 pt), (8, .vl recT kp), (13, .ptr 1 (.ty p) 0), (14, .int .i64 k), (52, .int .i64 m), (53, .int .i64 i)], logO M, 3⟩
theorem cl16_go (pt : Int) (p : Nat) (m i : Int) (kp : List Rec) (M : LogS) (hk : kp.length ≤ 1000000000) :
    ∃ c, rounds (env consU1) H.clean2 3 (LPof []) V.segs_Log_Clean_16 L.segs_Log_Clean_16 c (cl16St pt p m i kp M 0) (fun e s => some (e, s)) = some (.exit 4, cl16St pt p m i kp M (cutN (M.1.getD p segTy.zero).2.1 kp)) := by
  refine ⟨_, Eq.trans (search_rounds (S := cl16St pt p m i kp M) (T := cl16St pt p m i kp M) (p := notYet (M.1.getD p segTy.zero).2.1 kp) (n := kp.length) (e1 := .exit 4) (e2 := .exit 4) (s2 := cl16St pt p m i kp M kp.length) (by simp) (by simp) (fun k hk2 K => ?_) (fun K => ?_) _ kp.length 0 (by omega)) ?_⟩
  · refine (cl16_rd _ _ _ _ _ _ _ _ _ _ _ _).trans ?_
    have e1 : IntKind.i64.wrap ((k : Int) + 1) = ((k + 1 : Nat) : Int) := by rw [wrap64 (by omega) (by omega)]; omega
    rw [cond_pos (by omega), cond_pos2 (by omega) (by omega), Int.toNat_natCast, Option.bind_some, e1]
    unfold notYet
    cases decide ((kp.getD k recTy.zero).1 < (M.1.getD p segTy.zero).2.1) <;> rfl
  · refine (cl16_rd _ _ _ _ _ _ _ _ _ _ _ _).trans ?_
    rw [cond_neg (by omega), Option.bind_some]
    rfl
  · unfold cutN
    cases firstFrom (notYet (M.1.getD p segTy.zero).2.1 kp) 0 kp.length <;> rfl
abbrev cl16LC : LoopC := LoopC.of ⟨[(0, .lit (.ptr 0 (.tl 0) 0)), (1, .int .i64), (8, .vl recT), (13, .pe 1 0), (14, .int .i64), (52, .int .i64), (53, .int .i64)], logP⟩
  (fun ⟨⟨_, pt, kp, p, k, m, i, _⟩, ⟨_, ⟨f, ⟨b, n, _, _, _, _, _, _, z, _, _⟩, _⟩, rs, _⟩⟩ => decide (k = (0 : Int)) && decide (List.length kp ≤ 1000000000))
  fun ⟨⟨_, pt, kp, p, k, m, i, _⟩, ⟨_, ⟨f, ⟨b, n, _, _, _, _, _, _, z, _, _⟩, _⟩, rs, _⟩⟩ => [(true, .exit 4, cl16St pt p m i kp (f, b, n, z, rs) (cutN (f.getD p segTy.zero).2.1 kp))]
theorem cl16_lok : LoopOK P0 H.clean2 3 L.segs_Log_Clean_16 cl16LC :=
  loop_ok_of (env_ok consU1_ok) glob0 mixed0 noLoops V.segs_Log_Clean_16 (by decide) fun ⟨⟨_, pt, kp, p, k, m, i, _⟩, ⟨_, ⟨f, ⟨b, n, _, _, _, _, _, _, z, _, _⟩, _⟩, rs, _⟩⟩ h hw => by
    simp only [Bool.and_eq_true, decide_eq_true_eq] at h
    obtain ⟨rfl, h2⟩ := h
    exact cl16_go pt p m i kp (f, b, n, z, rs) h2
theorem cl11_rd {R : Type} (pt m i : Int) (kp : List Rec) (f : List Seg) (b n z : Int) (rs : List Rec) (K : Ex → St → Option R) : roundK (env consU1) H.clean2 3 (LPof [(16, cl16LC)]) V.segs_Log_Clean_11 L.segs_Log_Clean_11 ⟨[(0, .ptr 0 (.tl 0) 0), (1, .int .i64 pt), (8, .vl recT kp), (52, .int .i64 m), (53, .int .i64 i)], [(0, .arr 1 .bool [] [[.hw 1]]), (1, .arr 10 segT f [actC b n z]), (2, .log recT rs)], 3⟩ K = bif decide (i < m) then bif decide ((0 : Int) ≤ i) && decide (i < (↑(f.length + 1) : Int)) then bif decide (i.toNat < f.length) then Option.bind (bif !(f.getD i.toNat segTy.zero).snd.snd.snd.snd.snd.fst then some true else some (f.getD i.toNat segTy.zero).snd.snd.snd.snd.snd.snd.snd.fst) fun v => bif v then K Ex.normal { slots := [(0, AV.ptr 0 (Elt.tl 0) 0), (1, AV.int IntKind.i64 pt), (8, AV.vl recTy kp), (52, AV.int IntKind.i64 m), (53, AV.int IntKind.i64 (IntKind.i64.wrap (i + (1 : Int))))], objs := [(0, AObj.arr 1 Ty.bool [] [[AV.hw 1]]), (1, AObj.arr 10 segTy f [[AV.int IntKind.i64 b, AV.int IntKind.i64 n, AV.int IntKind.i64 (0 : Int), AV.int IntKind.i64 (0 : Int), AV.hw 2, AV.bool false, AV.bool false, AV.bool false, AV.int IntKind.i64 z, AV.int IntKind.u32 (0 : Int)]]), (2, AObj.log recTy rs)], nx := 3 } else bif decide (kp.length ≤ 1000000000) && true then bif decide ((↑(cutN (f.getD i.toNat segTy.zero).snd.fst kp) : Int) < (↑(List.length (f.getD i.toNat segTy.zero).snd.snd.snd.snd.fst) : Int)) then Option.bind (bif f.length.ble f.length then some (f.set i.toNat ((f.getD i.toNat segTy.zero).fst, (f.getD i.toNat segTy.zero).snd.fst, (f.getD i.toNat segTy.zero).snd.snd.fst, IntKind.i64.wrap ((f.getD i.toNat segTy.zero).snd.snd.snd.fst + (1 : Int)), (f.getD i.toNat segTy.zero).snd.snd.snd.snd)) else none) fun v => bif decide ((0 : Int) ≤ (↑(cutN (f.getD i.toNat segTy.zero).snd.fst kp) : Int)) && decide ((↑(cutN (f.getD i.toNat segTy.zero).snd.fst kp) : Int) ≤ (↑kp.length : Int)) then bif decide ((List.take (cutN (f.getD i.toNat segTy.zero).snd.fst kp) kp).length ≤ 1000000000) then bif decide ((0 : Int) ≤ (↑(cutN (f.getD i.toNat segTy.zero).snd.fst kp) : Int)) && decide ((↑(cutN (f.getD i.toNat segTy.zero).snd.fst kp) : Int) ≤ (↑kp.length : Int)) then Option.bind (bif v.length.ble v.length then some (v.set i.toNat ((v.getD i.toNat segTy.zero).fst, (v.getD i.toNat segTy.zero).snd.fst, (v.getD i.toNat segTy.zero).snd.snd.fst, (v.getD i.toNat segTy.zero).snd.snd.snd.fst, List.take (cutN (f.getD i.toNat segTy.zero).snd.fst kp) kp, (v.getD i.toNat segTy.zero).snd.snd.snd.snd.snd)) else none) fun v => bif decide (List.length (v.getD i.toNat segTy.zero).snd.snd.snd.snd.fst ≤ 1000000000) then Option.bind (bif v.length.ble v.length then some (v.set i.toNat ((v.getD i.toNat segTy.zero).fst, (v.getD i.toNat segTy.zero).snd.fst, (v.getD i.toNat segTy.zero).snd.snd.fst, (v.getD i.toNat segTy.zero).snd.snd.snd.fst, (v.getD i.toNat segTy.zero).snd.snd.snd.snd.fst, (v.getD i.toNat segTy.zero).snd.snd.snd.snd.snd.fst, (v.getD i.toNat segTy.zero).snd.snd.snd.snd.snd.snd.fst, (v.getD i.toNat segTy.zero).snd.snd.snd.snd.snd.snd.snd.fst, (↑(bytS (v.getD i.toNat segTy.zero).snd.snd.snd.snd.fst).length : Int), (v.getD i.toNat segTy.zero).snd.snd.snd.snd.snd.snd.snd.snd.snd)) else none) fun v => bif (v.getD i.toNat segTy.zero).snd.snd.snd.snd.snd.snd.fst then Option.bind (bif v.length.ble v.length then some (v.set i.toNat ((v.getD i.toNat segTy.zero).fst, (v.getD i.toNat segTy.zero).snd.fst, (v.getD i.toNat segTy.zero).snd.snd.fst, (v.getD i.toNat segTy.zero).snd.snd.snd.fst, (v.getD i.toNat segTy.zero).snd.snd.snd.snd.fst, (v.getD i.toNat segTy.zero).snd.snd.snd.snd.snd.fst, true, (v.getD i.toNat segTy.zero).snd.snd.snd.snd.snd.snd.snd)) else none) fun v => K Ex.normal { slots := [(0, AV.ptr 0 (Elt.tl 0) 0), (1, AV.int IntKind.i64 pt), (8, AV.vl recTy (List.drop (cutN (f.getD i.toNat segTy.zero).snd.fst kp) kp)), (52, AV.int IntKind.i64 m), (53, AV.int IntKind.i64 (IntKind.i64.wrap (i + (1 : Int))))], objs := [(0, AObj.arr 1 Ty.bool [] [[AV.hw 1]]), (1, AObj.arr 10 segTy v [[AV.int IntKind.i64 b, AV.int IntKind.i64 n, AV.int IntKind.i64 (0 : Int), AV.int IntKind.i64 (0 : Int), AV.hw 2, AV.bool false, AV.bool false, AV.bool false, AV.int IntKind.i64 z, AV.int IntKind.u32 (0 : Int)]]), (2, AObj.log recTy rs)], nx := 3 } else Option.bind (bif v.length.ble v.length then some (v.set i.toNat ((v.getD i.toNat segTy.zero).fst, (v.getD i.toNat segTy.zero).snd.fst, (v.getD i.toNat segTy.zero).snd.snd.fst, (v.getD i.toNat segTy.zero).snd.snd.snd.fst, (v.getD i.toNat segTy.zero).snd.snd.snd.snd.fst, (v.getD i.toNat segTy.zero).snd.snd.snd.snd.snd.fst, decide ((v.getD i.toNat segTy.zero).snd.fst ≤ pt), (v.getD i.toNat segTy.zero).snd.snd.snd.snd.snd.snd.snd)) else none) fun v => K Ex.normal { slots := [(0, AV.ptr 0 (Elt.tl 0) 0), (1, AV.int IntKind.i64 pt), (8, AV.vl recTy (List.drop (cutN (f.getD i.toNat segTy.zero).snd.fst kp) kp)), (52, AV.int IntKind.i64 m), (53, AV.int IntKind.i64 (IntKind.i64.wrap (i + (1 : Int))))], objs := [(0, AObj.arr 1 Ty.bool [] [[AV.hw 1]]), (1, AObj.arr 10 segTy v [[AV.int IntKind.i64 b, AV.int IntKind.i64 n, AV.int IntKind.i64 (0 : Int), AV.int IntKind.i64 (0 : Int), AV.hw 2, AV.bool false, AV.bool false, AV.bool false, AV.int IntKind.i64 z, AV.int IntKind.u32 (0 : Int)]]), (2, AObj.log recTy rs)], nx := 3 } else none else none else none else none else bif decide ((0 : Int) ≤ (↑(cutN (f.getD i.toNat segTy.zero).snd.fst kp) : Int)) && decide ((↑(cutN (f.getD i.toNat segTy.zero).snd.fst kp) : Int) ≤ (↑kp.length : Int)) then bif decide ((List.take (cutN (f.getD i.toNat segTy.zero).snd.fst kp) kp).length ≤ 1000000000) then bif decide ((0 : Int) ≤ (↑(cutN (f.getD i.toNat segTy.zero).snd.fst kp) : Int)) && decide ((↑(cutN (f.getD i.toNat segTy.zero).snd.fst kp) : Int) ≤ (↑kp.length : Int)) then Option.bind (bif f.length.ble f.length then some (f.set i.toNat ((f.getD i.toNat segTy.zero).fst, (f.getD i.toNat segTy.zero).snd.fst, (f.getD i.toNat segTy.zero).snd.snd.fst, (f.getD i.toNat segTy.zero).snd.snd.snd.fst, List.take (cutN (f.getD i.toNat segTy.zero).snd.fst kp) kp, (f.getD i.toNat segTy.zero).snd.snd.snd.snd.snd)) else none) fun v => bif decide (List.length (v.getD i.toNat segTy.zero).snd.snd.snd.snd.fst ≤ 1000000000) then Option.bind (bif v.length.ble v.length then some (v.set i.toNat ((v.getD i.toNat segTy.zero).fst, (v.getD i.toNat segTy.zero).snd.fst, (v.getD i.toNat segTy.zero).snd.snd.fst, (v.getD i.toNat segTy.zero).snd.snd.snd.fst, (v.getD i.toNat segTy.zero).snd.snd.snd.snd.fst, (v.getD i.toNat segTy.zero).snd.snd.snd.snd.snd.fst, (v.getD i.toNat segTy.zero).snd.snd.snd.snd.snd.snd.fst, (v.getD i.toNat segTy.zero).snd.snd.snd.snd.snd.snd.snd.fst, (↑(bytS (v.getD i.toNat segTy.zero).snd.snd.snd.snd.fst).length : Int), (v.getD i.toNat segTy.zero).snd.snd.snd.snd.snd.snd.snd.snd.snd)) else none) fun v => bif (v.getD i.toNat segTy.zero).snd.snd.snd.snd.snd.snd.fst then Option.bind (bif v.length.ble v.length then some (v.set i.toNat ((v.getD i.toNat segTy.zero).fst, (v.getD i.toNat segTy.zero).snd.fst, (v.getD i.toNat segTy.zero).snd.snd.fst, (v.getD i.toNat segTy.zero).snd.snd.snd.fst, (v.getD i.toNat segTy.zero).snd.snd.snd.snd.fst, (v.getD i.toNat segTy.zero).snd.snd.snd.snd.snd.fst, true, (v.getD i.toNat segTy.zero).snd.snd.snd.snd.snd.snd.snd)) else none) fun v => K Ex.normal { slots := [(0, AV.ptr 0 (Elt.tl 0) 0), (1, AV.int IntKind.i64 pt), (8, AV.vl recTy (List.drop (cutN (f.getD i.toNat segTy.zero).snd.fst kp) kp)), (52, AV.int IntKind.i64 m), (53, AV.int IntKind.i64 (IntKind.i64.wrap (i + (1 : Int))))], objs := [(0, AObj.arr 1 Ty.bool [] [[AV.hw 1]]), (1, AObj.arr 10 segTy v [[AV.int IntKind.i64 b, AV.int IntKind.i64 n, AV.int IntKind.i64 (0 : Int), AV.int IntKind.i64 (0 : Int), AV.hw 2, AV.bool false, AV.bool false, AV.bool false, AV.int IntKind.i64 z, AV.int IntKind.u32 (0 : Int)]]), (2, AObj.log recTy rs)], nx := 3 } else Option.bind (bif v.length.ble v.length then some (v.set i.toNat ((v.getD i.toNat segTy.zero).fst, (v.getD i.toNat segTy.zero).snd.fst, (v.getD i.toNat segTy.zero).snd.snd.fst, (v.getD i.toNat segTy.zero).snd.snd.snd.fst, (v.getD i.toNat segTy.zero).snd.snd.snd.snd.fst, (v.getD i.toNat segTy.zero).snd.snd.snd.snd.snd.fst, decide ((v.getD i.toNat segTy.zero).snd.fst ≤ pt), (v.getD i.toNat segTy.zero).snd.snd.snd.snd.snd.snd.snd)) else none) fun v => K Ex.normal { slots := [(0, AV.ptr 0 (Elt.tl 0) 0), (1, AV.int IntKind.i64 pt), (8, AV.vl recTy (List.drop (cutN (f.getD i.toNat segTy.zero).snd.fst kp) kp)), (52, AV.int IntKind.i64 m), (53, AV.int IntKind.i64 (IntKind.i64.wrap (i + (1 : Int))))], objs := [(0, AObj.arr 1 Ty.bool [] [[AV.hw 1]]), (1, AObj.arr 10 segTy v [[AV.int IntKind.i64 b, AV.int IntKind.i64 n, AV.int IntKind.i64 (0 : Int), AV.int IntKind.i64 (0 : Int), AV.hw 2, AV.bool false, AV.bool false, AV.bool false, AV.int IntKind.i64 z, AV.int IntKind.u32 (0 : Int)]]), (2, AObj.log recTy rs)], nx := 3 } else none else none else none else none else none else bif decide (i.toNat - f.length = 0) then K Ex.normal { slots := [(0, AV.ptr 0 (Elt.tl 0) 0), (1, AV.int IntKind.i64 pt), (8, AV.vl recTy kp), (52, AV.int IntKind.i64 m), (53, AV.int IntKind.i64 (IntKind.i64.wrap (i + (1 : Int))))], objs := [(0, AObj.arr 1 Ty.bool [] [[AV.hw 1]]), (1, AObj.arr 10 segTy f [[AV.int IntKind.i64 b, AV.int IntKind.i64 n, AV.int IntKind.i64 (0 : Int), AV.int IntKind.i64 (0 : Int), AV.hw 2, AV.bool false, AV.bool false, AV.bool false, AV.int IntKind.i64 z, AV.int IntKind.u32 (0 : Int)]]), (2, AObj.log recTy rs)], nx := 3 } else none else none else K (Ex.exit 2) { slots := [(0, AV.ptr 0 (Elt.tl 0) 0), (1, AV.int IntKind.i64 pt), (8, AV.vl recTy kp), (52, AV.int IntKind.i64 m), (53, AV.int IntKind.i64 i)], objs := [(0, AObj.arr 1 Ty.bool [] [[AV.hw 1]]), (1, AObj.arr 10 segTy f [[AV.int IntKind.i64 b, AV.int IntKind.i64 n, AV.int IntKind.i64 (0 : Int), AV.int IntKind.i64 (0 : Int), AV.hw 2, AV.bool false, AV.bool false, AV.bool false, AV.int IntKind.i64 z, AV.int IntKind.u32 (0 : Int)]]), (2, AObj.log recTy rs)], nx := 3 } := by kernel_rfl

theorem getD_setS {f : List Seg} {i : Nat} (h : i < f.length) (g : Seg) : (f.set i g).getD i segTy.zero = g := by
  rw [List.getD_eq_getElem?_getD, List.getElem?_set_self h]
  rfl
theorem set_selfS {f : List Seg} {i : Nat} (h : i < f.length) : f.set i (f.getD i segTy.zero) = f := by
  rw [List.getD_eq_getElem?_getD, List.getElem?_eq_getElem h]
  exact List.set_getElem_self h
def cl11St (pt : Int) (n : Nat) (M : LogS) (kp : List Rec) (i : Nat) : St := ⟨[(0, .ptr 0 (.tl 0) 0), (1, .int .i64 pt), (8, .vl recT kp), (52, .int .i64 (n + 1 : Nat)), (53, .int .i64 i)], logO M, 3⟩
theorem cl11_step {R : Type} (pt : Int) (M : LogS) (kp : List Rec) (hk : kp.length ≤ 1000000000) (hf : M.1.length ≤ 1000000000) (i : Nat) (hi : i < M.1.length) (K : Ex → St → Option R) :
    roundK (env consU1) H.clean2 3 (LPof [(16, cl16LC)]) V.segs_Log_Clean_11 L.segs_Log_Clean_11 (cl11St pt M.1.length M kp i) K = K .normal (cl11St pt M.1.length (M.1.set i (clOne pt (M.1.getD i segTy.zero) kp).1, M.2) (clOne pt (M.1.getD i segTy.zero) kp).2 (i + 1)) := by
  obtain ⟨f, b, n, z, rs⟩ := M
  simp only at hf hi ⊢
  refine (cl11_rd pt (f.length + 1 : Nat) i kp f b n z rs K).trans ?_
  have e1 : IntKind.i64.wrap ((i : Int) + 1) = ((i + 1 : Nat) : Int) := by rw [wrap64 (by omega) (by omega)]; omega
  have e2 : ∀ (a c : Bool), (bif !a then some true else some c) = some (!a || c) := fun a c => by cases a <;> rfl
  have hc := cutN_le (f.getD i segTy.zero).2.1 kp
  have c1 : (decide ((0 : Int) ≤ (cutN (f.getD i segTy.zero).2.1 kp : Int)) && decide ((cutN (f.getD i segTy.zero).2.1 kp : Int) ≤ (kp.length : Int))) = true := by rw [decide_eq_true (by omega), decide_eq_true (by omega)]; rfl
  have c2 : decide ((List.take (cutN (f.getD i segTy.zero).2.1 kp) kp).length ≤ 1000000000) = true := decide_eq_true (by rw [List.length_take]; omega)
  rw [cond_pos (by omega), cond_pos2 (by omega) (by omega), Int.toNat_natCast, cond_pos hi, e1, e2, Option.bind_some]
  unfold clOne
  cases hs : !(f.getD i segTy.zero).2.2.2.2.2.1 || (f.getD i segTy.zero).2.2.2.2.2.2.2.1 with
  | true =>
    simp only [cond_true]
    rw [set_selfS hi]
    rfl
  | false =>
    simp only [cond_false]
    rw [decide_eq_true hk, c1, c2]
    simp only [Bool.and_self, cond_true, ble_selfK, Option.bind_some, getD_setS hi, List.set_set, c2]
    unfold clG
    cases decide ((cutN (f.getD i segTy.zero).2.1 kp : Int) < ((f.getD i segTy.zero).2.2.2.2.1.length : Int)) <;> cases (f.getD i segTy.zero).2.2.2.2.2.2.1 <;> simp only [cond_true, cond_false, Bool.true_or, Bool.false_or] <;> rfl
theorem cl11_tail {R : Type} (pt : Int) (M : LogS) (kp : List Rec) (hf : M.1.length ≤ 1000000000) (K : Ex → St → Option R) :
    roundK (env consU1) H.clean2 3 (LPof [(16, cl16LC)]) V.segs_Log_Clean_11 L.segs_Log_Clean_11 (cl11St pt M.1.length M kp M.1.length) K = K .normal (cl11St pt M.1.length M kp (M.1.length + 1)) := by
  obtain ⟨f, b, n, z, rs⟩ := M
  simp only at hf ⊢
  refine (cl11_rd pt (f.length + 1 : Nat) f.length kp f b n z rs K).trans ?_
  have e1 : IntKind.i64.wrap ((f.length : Int) + 1) = ((f.length + 1 : Nat) : Int) := by rw [wrap64 (by omega) (by omega)]; omega
  rw [cond_pos (by omega), cond_pos2 (by omega) (by omega), Int.toNat_natCast, cond_neg (by omega), cond_pos (by omega), e1]
  rfl
theorem cl11_last {R : Type} (pt : Int) (M : LogS) (kp : List Rec) (K : Ex → St → Option R) :
    roundK (env consU1) H.clean2 3 (LPof [(16, cl16LC)]) V.segs_Log_Clean_11 L.segs_Log_Clean_11 (cl11St pt M.1.length M kp (M.1.length + 1)) K = K (.exit 2) (cl11St pt M.1.length M kp (M.1.length + 1)) := by
  obtain ⟨f, b, n, z, rs⟩ := M
  refine (cl11_rd pt (f.length + 1 : Nat) (f.length + 1 : Nat) kp f b n z rs K).trans ?_
  rw [cond_neg (by omega)]
  rfl
theorem clS_len (pt : Int) (f : List Seg) (kp : List Rec) : ∀ i, (clS pt f kp i).1.length = f.length ∧ (clS pt f kp i).2.length ≤ kp.length
  | 0 => ⟨rfl, Nat.le_refl _⟩
  | i + 1 => by
    obtain ⟨h1, h2⟩ := clS_len pt f kp i
    refine ⟨by simp only [clS, List.length_set, h1], ?_⟩
    simp only [clS]
    unfold clOne
    cases !((clS pt f kp i).1.getD i segTy.zero).2.2.2.2.2.1 || ((clS pt f kp i).1.getD i segTy.zero).2.2.2.2.2.2.2.1 with
    | true => exact h2
    | false => rw [cond_false]; simp only [List.length_drop]; omega
theorem cl11_rounds {R : Type} (pt : Int) (f : List Seg) (y : Int × Int × Int × List Rec) (kp : List Rec) (hk : kp.length ≤ 1000000000) (hf : f.length ≤ 1000000000) (K : Ex → St → Option R) : ∀ (m i : Nat), i + m = f.length →
    rounds (env consU1) H.clean2 3 (LPof [(16, cl16LC)]) V.segs_Log_Clean_11 L.segs_Log_Clean_11 (m + 2) (cl11St pt f.length ((clS pt f kp i).1, y) (clS pt f kp i).2 i) K = K (.exit 2) (cl11St pt f.length ((clS pt f kp f.length).1, y) (clS pt f kp f.length).2 (f.length + 1))
  | 0, i, h => by
    obtain rfl : i = f.length := by omega
    obtain ⟨h1, h2⟩ := clS_len pt f kp f.length
    rw [rounds_succ']
    have s1 := cl11_tail (R := R) pt ((clS pt f kp f.length).1, y) (clS pt f kp f.length).2 (by simp only; omega)
    simp only [h1] at s1
    refine (s1 _).trans ?_
    show rounds _ _ _ _ _ _ 1 _ K = _
    rw [rounds_succ']
    have s2 := cl11_last (R := R) pt ((clS pt f kp f.length).1, y) (clS pt f kp f.length).2
    simp only [h1] at s2
    exact (s2 _).trans rfl
  | m + 1, i, h => by
    obtain ⟨h1, h2⟩ := clS_len pt f kp i
    have ih := cl11_rounds pt f y kp hk hf K m (i + 1) (by omega)
    rw [rounds_succ']
    have s1 := cl11_step (R := R) pt ((clS pt f kp i).1, y) (clS pt f kp i).2 (by omega) (by simp only; omega) i (by simp only; omega)
    simp only [h1] at s1
    refine (s1 _).trans ?_
    exact ih
abbrev cl11LC : LoopC := LoopC.of ⟨[(0, .lit (.ptr 0 (.tl 0) 0)), (1, .int .i64), (8, .vl recT), (52, .int .i64), (53, .int .i64)], logP⟩
  (fun ⟨⟨_, pt, kp, m, i, _⟩, ⟨_, ⟨f, ⟨b, n, _, _, _, _, _, _, z, _, _⟩, _⟩, rs, _⟩⟩ => decide (i = (0 : Int)) && decide (m = ((List.length f + 1 : Nat) : Int)) && decide (List.length kp ≤ 1000000000) && decide (List.length f ≤ 1000000000))
  fun ⟨⟨_, pt, kp, m, i, _⟩, ⟨_, ⟨f, ⟨b, n, _, _, _, _, _, _, z, _, _⟩, _⟩, rs, _⟩⟩ => [(true, .exit 2, cl11St pt (List.length f) ((clS pt f kp (List.length f)).1, b, n, z, rs) (clS pt f kp (List.length f)).2 (List.length f + 1))]
theorem cl11_lok : LoopOK P0 H.clean2 3 L.segs_Log_Clean_11 cl11LC :=
  loop_ok_of (env_ok consU1_ok) glob0 mixed0 (loops_good (tab := [(16, cl16LC)]) (by kernel_rfl) (fun x hx => by simp at hx; subst hx; exact cl16_lok)) V.segs_Log_Clean_11 (by decide) fun ⟨⟨_, pt, kp, m, i, _⟩, ⟨_, ⟨f, ⟨b, n, _, _, _, _, _, _, z, _, _⟩, _⟩, rs, _⟩⟩ h hw => by
    simp only [Bool.and_eq_true, decide_eq_true_eq] at h
    obtain ⟨⟨⟨rfl, rfl⟩, h3⟩, h4⟩ := h
    exact ⟨_, cl11_rounds pt f (b, n, z, rs) kp h3 h4 _ (List.length f) 0 (Nat.zero_add _)⟩
end Go.Sim
namespace Go.Sim
/-- What is left of code behind its first n parts. -/
def sufC : Nat → Code → Code
  | 0, c => c
  | n + 1, .seq _ b => sufC n b
  | _ + 1, _ => .skip
/-- The first n parts of code. -/
def preC : Nat → Code → Code
  | 0, _ => .skip
  | n + 1, .seq a b => .seq a (preC n b)
  | _ + 1, c => c
theorem cut_skip {E : Env} {H : Hint} {k0 : Nat} {R : Type} {LP : Loops R} (K : Ex → St → Option R) : (fun e s' => match e with
      | .normal => ev E H k0 LP .skip s' K
      | e => K e s') = K := by
  funext e s'
  cases e <;> rfl
theorem ev_cut {E : Env} {H : Hint} {k0 : Nat} (hj : H.jc = []) {R : Type} {LP : Loops R} : ∀ (n : Nat) (c : Code) (s : St) (K : Ex → St → Option R),
    ev E H k0 LP c s K = ev E H k0 LP (preC n c) s fun e s' => match e with
      | .normal => ev E H k0 LP (sufC n c) s' K
      | e => K e s' := by
  intro n
  induction n with
  | zero => intro c s K; rfl
  | succ n ih =>
    intro c s K
    cases c with
    | seq a b =>
      have hn : (cond (loopFree a) (lk? H.jc (firstRegion a)) none) = none := by rw [hj]; cases loopFree a <;> rfl
      simp only [preC, sufC, ev]
      rw [hn]
      simp only
      congr 1
      funext e s'
      cases e with
      | normal => exact ih b s' K
      | exit i => rfl
      | ret => rfl
    | _ => simp only [preC, sufC]; rw [cut_skip]
end Go.Sim
namespace Go.Sim
set_option linter.unusedSimpArgs false
set_option linter.unusedVariables false
set_option maxRecDepth 10000
def clA (pm pt nw gr : Int) (f : List Seg) (b n z : Int) (rs : List Rec) : St := ⟨[(1, .int .i64 pm), (21, .int .i64 pm), (20, .int .i64 b), (19, .ptr 1 (.tl 0) 0), (18, .ptr 1 (.tl 0) 0), (17, .ptr 1 (.tl 0) 0), (16, .ptr 0 (.tl 0) 0), (15, .int .i64 pt), (0, .ptr 0 (.tl 0) 0), (1, .int .i64 pt), (2, .int .i64 nw), (3, .int .i64 gr)],
  [(0, .arr 1 .bool [] [[.hw 1]]), (1, .arr 10 segT f [actC b n z]), (2, .log recT rs), (0, .arr 1 .bool [] [[.hw 1]]), (1, .arr 10 segT f [actC b n z]), (2, .log recT rs)], 3⟩
theorem clean1_ev {R : Type} (pt nw gr : Int) (f : List Seg) (b n z : Int) (rs : List Rec) (K : Ex → St → Option R) : ev (env consU1) H.clean2 3 (LPof [(4, cl4LC), (11, cl11LC), (16, cl16LC)]) (preC 1 B.segs_Log_Clean) (initSt [.ptr 0 (.tl 0) 0, .int .i64 pt, .int .i64 nw, .int .i64 gr] [.arr 1 .bool [] [[.hw 1]], .arr 10 segT f [actC b n z], .log recT rs]) K = bif decide (f.length ≤ 1000000000) then K Ex.normal { slots := [(1, AV.int IntKind.i64 (bif decide (b < pt) then b else pt)), (21, AV.int IntKind.i64 (bif decide (b < pt) then b else pt)), (20, AV.int IntKind.i64 b), (19, AV.ptr 1 (Elt.tl 0) 0), (18, AV.ptr 1 (Elt.tl 0) 0), (17, AV.ptr 1 (Elt.tl 0) 0), (16, AV.ptr 0 (Elt.tl 0) 0), (15, AV.int IntKind.i64 pt), (0, AV.ptr 0 (Elt.tl 0) 0), (1, AV.int IntKind.i64 pt), (2, AV.int IntKind.i64 nw), (3, AV.int IntKind.i64 gr)], objs := [(0, AObj.arr 1 Ty.bool [] [[AV.hw 1]]), (1, AObj.arr 10 segTy f [[AV.int IntKind.i64 b, AV.int IntKind.i64 n, AV.int IntKind.i64 (0 : Int), AV.int IntKind.i64 (0 : Int), AV.hw 2, AV.bool false, AV.bool false, AV.bool false, AV.int IntKind.i64 z, AV.int IntKind.u32 (0 : Int)]]), (2, AObj.log recTy rs), (0, AObj.arr 1 Ty.bool [] [[AV.hw 1]]), (1, AObj.arr 10 segTy f [[AV.int IntKind.i64 b, AV.int IntKind.i64 n, AV.int IntKind.i64 (0 : Int), AV.int IntKind.i64 (0 : Int), AV.hw 2, AV.bool false, AV.bool false, AV.bool false, AV.int IntKind.i64 z, AV.int IntKind.u32 (0 : Int)]]), (2, AObj.log recTy rs)], nx := 3 } else none := by kernel_rfl

noncomputable abbrev clFin : Ex → St → Option ((Pat.lit (.tup [])).den × opatsDen logP) := fun e s => match e with
  | .exit _ => none
  | _ => (resultsOf (env consU1) s F.segs_Log_Clean.results.toList).bind fun vs => finV (.lit (.tup [])) logP 3 (oneOr vs) s
theorem clean2_ev (pm pt nw gr : Int) (f : List Seg) (b n z : Int) (rs : List Rec) : ev (env consU1) H.clean2 3 (LPof [(4, cl4LC), (11, cl11LC), (16, cl16LC)]) (sufC 1 B.segs_Log_Clean) (clA pm pt nw gr f b n z rs) clFin = bif decide ((↑(f.length + 1) : Int) = (↑(f.length + 1) : Int)) && decide (f.length ≤ 1000000000) && decide ((catG (segsL (f, b, n, z, rs))).length ≤ 1048576) && true then bif decide ((catG (List.take (f.length + 1) (segsL (f, b, n, z, rs)))).length ≤ 1048576) then bif decide ((↑(f.length + 1) : Int) = (↑(f.length + 1) : Int)) && decide ((keepL pm nw gr (locG (List.take (f.length + 1) (segsL (f, b, n, z, rs)))) (catG (List.take (f.length + 1) (segsL (f, b, n, z, rs))))).length ≤ 1000000000) && decide (f.length ≤ 1000000000) && true then some ((), (((), ()), ()), ((clS pm f (keepL pm nw gr (locG (List.take (f.length + 1) (segsL (f, b, n, z, rs)))) (catG (List.take (f.length + 1) (segsL (f, b, n, z, rs))))) f.length).fst, (b, n, (), (), (), (), (), (), z, (), ()), ()), rs, ()) else none else none else none := by kernel_rfl

theorem clean_val (pt nw gr : Int) (f : List Seg) (b n z : Int) (rs : List Rec) (h1 : f.length ≤ 1000000000) (h2 : (catG (segsL (f, b, n, z, rs))).length ≤ 1048576) : evFn (env consU1) H.clean2 (LPof [(4, cl4LC), (11, cl11LC), (16, cl16LC)]) F.segs_Log_Clean [.ptr 0 (.tl 0) 0, .int .i64 pt, .int .i64 nw, .int .i64 gr] [.arr 1 .bool [] [[.hw 1]], .arr 10 segT f [actC b n z], .log recT rs] (finV (.lit (.tup [])) logP 3) =
    some ((), ((((), ()), ()), ((cleanP pt nw gr (f, b, n, z, rs)).1, ((cleanP pt nw gr (f, b, n, z, rs)).2.1, (cleanP pt nw gr (f, b, n, z, rs)).2.2.1, (), (), (), (), (), (), (cleanP pt nw gr (f, b, n, z, rs)).2.2.2.1, (), ()), ()), (cleanP pt nw gr (f, b, n, z, rs)).2.2.2.2, ())) := by
  have h0 : evFn (env consU1) H.clean2 (LPof [(4, cl4LC), (11, cl11LC), (16, cl16LC)]) F.segs_Log_Clean [.ptr 0 (.tl 0) 0, .int .i64 pt, .int .i64 nw, .int .i64 gr] [.arr 1 .bool [] [[.hw 1]], .arr 10 segT f [actC b n z], .log recT rs] (finV (.lit (.tup [])) logP 3) =
    ev (env consU1) H.clean2 3 (LPof [(4, cl4LC), (11, cl11LC), (16, cl16LC)]) B.segs_Log_Clean (initSt [.ptr 0 (.tl 0) 0, .int .i64 pt, .int .i64 nw, .int .i64 gr] [.arr 1 .bool [] [[.hw 1]], .arr 10 segT f [actC b n z], .log recT rs]) clFin := by
    unfold evFn
    rw [Bd.segs_Log_Clean]
    rfl
  rw [h0, ev_cut (by rfl) 1, clean1_ev, cond_pos h1]
  refine Eq.trans (b := ev (env consU1) H.clean2 3 (LPof [(4, cl4LC), (11, cl11LC), (16, cl16LC)]) (sufC 1 B.segs_Log_Clean) (clA (minZ pt b) pt nw gr f b n z rs) clFin) ?_ ?_
  · rfl
  rw [clean2_ev]
  have e1 : List.take (f.length + 1) (segsL (f, b, n, z, rs)) = segsL (f, b, n, z, rs) := List.take_of_length_le (by rw [segsL_len]; exact Nat.le_refl _)
  have hk := keepL_length (minZ pt b) nw gr (locG (segsL (f, b, n, z, rs))) (catG (segsL (f, b, n, z, rs)))
  rw [e1, decide_eq_true h1, decide_eq_true h2, decide_eq_true (show (keepL (minZ pt b) nw gr (locG (segsL (f, b, n, z, rs))) (catG (segsL (f, b, n, z, rs)))).length ≤ 1000000000 by omega)]
  simp only [decide_true, Bool.and_self, cond_true]
  rfl
def caseClean : VCase := ⟨[.lit (.ptr 0 (.tl 0) 0), .int .i64, .int .i64, .int .i64], logP, .lit (.tup []), logP, fun ⟨_, pt, nw, gr, _⟩ ⟨_, ⟨f, ⟨b, n, _, _, _, _, _, _, z, _, _⟩, _⟩, rs, _⟩ => [(decide (List.length f ≤ 1000000000) && decide (List.length (catG (segsL (f, b, n, z, rs))) ≤ 1048576), ((), ((((), ()), ()), ((cleanP pt nw gr (f, b, n, z, rs)).1, ((cleanP pt nw gr (f, b, n, z, rs)).2.1, (cleanP pt nw gr (f, b, n, z, rs)).2.2.1, (), (), (), (), (), (), (cleanP pt nw gr (f, b, n, z, rs)).2.2.2.1, (), ()), ()), (cleanP pt nw gr (f, b, n, z, rs)).2.2.2.2, ())))]⟩
theorem clean_ok : caseClean.e.ok P0 I.segs_Log_Clean := vcase_ok (c := caseClean) (H := H.clean2) (E := env consU1) (env_ok consU1_ok) glob0 mixed0 G.segs_Log_Clean Bd.segs_Log_Clean (by kernel_rfl) (loops_good (tab := [(4, cl4LC), (11, cl11LC), (16, cl16LC)]) (by kernel_rfl) (fun x hx => by simp at hx; rcases hx with rfl | rfl | rfl; exact cl4_lok; exact cl11_lok; exact cl16_lok)) fun ⟨_, pt, nw, gr, _⟩ ⟨_, ⟨f, ⟨b, n, _, _, _, _, _, _, z, _, _⟩, _⟩, rs, _⟩ r h hw1 hw2 => by
  obtain ⟨hc, rfl⟩ := pick_pre h
  have hc : (decide (List.length f ≤ 1000000000) && decide (List.length (catG (segsL (f, b, n, z, rs))) ≤ 1048576)) = true := hc
  simp only [Bool.and_eq_true, decide_eq_true_eq] at hc
  exact clean_val pt nw gr f b n z rs hc.1 hc.2
end Go.Sim
namespace Go.Sim
set_option linter.unusedSimpArgs false
set_option linter.unusedVariables false
set_option maxRecDepth 10000
noncomputable abbrev consL1 : List (FuncId × Con) := [(I.cooperageref10_Map, .pure (pureOf [caseMap])), (I.segs_Log_Clean, .eff (effOf [caseClean.e])), (I.cooperagelaw15_Big, .pure (pureOf [caseBigA])), (I.cooperageref1_Right, .pure (pureOf [caseRight1])), (I.segs_Log_Merge, .eff (effOf [caseMerge.e])), (I.cooperageref1_SameRecords, .pure (pureOf [caseSameR])), (I.segs_Log_High, .eff (effOf [caseHigh.e]))] ++ consD3
theorem consL1_ok : ∀ x ∈ consL1, HoldsC P0 x.1 x.2 := by
  intro x hx
  rcases List.mem_append.1 hx with hx | hx
  · simp at hx
    rcases hx with rfl | rfl | rfl | rfl | rfl | rfl | rfl
    · exact ⟨pureOf_holds (by simp; exact map_ok), C.cooperageref10_Map⟩
    · exact ⟨fun args objs r objs2 h _ => effOf_holds (by simp; exact clean_ok) args objs r objs2 h, C.segs_Log_Clean⟩
    · exact ⟨pureOf_holds (by simp; exact biga_ok), C.cooperagelaw15_Big⟩
    · exact ⟨pureOf_holds (by simp; exact right1_ok), C.cooperageref1_Right⟩
    · exact ⟨fun args objs r objs2 h _ => effOf_holds (by simp; exact merge_ok) args objs r objs2 h, C.segs_Log_Merge⟩
    · exact ⟨pureOf_holds (by simp; exact rsame_ok), C.cooperageref1_SameRecords⟩
    · exact ⟨fun args objs r objs2 h _ => effOf_holds (by simp; exact high_ok) args objs r objs2 h, C.segs_Log_High⟩
  · exact consD3_ok x hx
def H.fold2 : Hint := { H.cooperagelaw15_SegsFold with vs := [107, 109], join := [] }
abbrev actBO (w x y g : Int) (LL : List Rec) (c1 c2 c3 c4 : Int) (mo : Bool) : AObj := .arr 10 .bool [] [[.int .i64 w, .int .i64 x, .int .i64 y, .int .i64 g, .vl recT LL, .int .i64 c1, .int .i64 c2, .int .i64 c3, .int .i64 c4, .bool mo]]
theorem sf16_rd {R : Type} (l : List ractT.den) (i n2 k : Int) (al : List Rec) (w x y g : Int) (LL : List Rec) (c1 c2 c3 c4 : Int) (mo : Bool) (f : List Seg) (b n z : Int) (rs : List Rec) (K : Ex → St → Option R) : roundK (env consL1) H.fold2 0 (LPof []) V.cooperagelaw15_SegsFold_16 L.cooperagelaw15_SegsFold_16 ⟨[(0, .vl ractT l), (5, .ptr 0 (.tl 0) 0), (6, .hw 3), (7, .int .i64 i), (8, .ptr 4 (.tl 0) 0), (9, .int .i64 n2), (10, .int .i64 k)], [(0, .arr 1 .bool [] [[.hw 1]]), (1, .arr 10 segT f [actC b n z]), (2, .log recT rs), (3, .arr 5 recT al []), (4, actBO w x y g LL c1 c2 c3 c4 mo)], 5⟩ K = bif decide (k < (↑LL.length : Int)) then bif decide ((0 : Int) ≤ k) && decide (k < (↑LL.length : Int)) then bif recR ((0 : Int), (LL.getD k.toNat recTy.zero).snd) then bif decide ((al ++ [(n2, (LL.getD k.toNat recTy.zero).snd)]).length * 56 ≤ 140737488355328) then K Ex.normal { slots := [(0, AV.vl ((Ty.int IntKind.i64).pair ((Ty.int IntKind.i64).pair ((Ty.int IntKind.i64).pair ((Ty.int IntKind.i64).pair (recTy.sl.pair (confTy.pair Ty.bool)))))) l), (5, AV.ptr 0 (Elt.tl 0) 0), (6, AV.hw 3), (7, AV.int IntKind.i64 i), (8, AV.ptr 4 (Elt.tl 0) 0), (9, AV.int IntKind.i64 (IntKind.i64.wrap (n2 + (1 : Int)))), (10, AV.int IntKind.i64 (IntKind.i64.wrap (k + (1 : Int))))], objs := [(0, AObj.arr 1 Ty.bool [] [[AV.hw 1]]), (1, AObj.arr 10 segTy f [[AV.int IntKind.i64 b, AV.int IntKind.i64 n, AV.int IntKind.i64 (0 : Int), AV.int IntKind.i64 (0 : Int), AV.hw 2, AV.bool false, AV.bool false, AV.bool false, AV.int IntKind.i64 z, AV.int IntKind.u32 (0 : Int)]]), (2, AObj.log recTy rs), (3, AObj.arr 5 recTy (al ++ [(n2, (LL.getD k.toNat recTy.zero).snd)]) []), (4, AObj.arr 10 Ty.bool [] [[AV.int IntKind.i64 w, AV.int IntKind.i64 x, AV.int IntKind.i64 y, AV.int IntKind.i64 g, AV.vl recTy LL, AV.int IntKind.i64 c1, AV.int IntKind.i64 c2, AV.int IntKind.i64 c3, AV.int IntKind.i64 c4, AV.bool mo]])], nx := 5 } else none else K Ex.normal { slots := [(0, AV.vl ((Ty.int IntKind.i64).pair ((Ty.int IntKind.i64).pair ((Ty.int IntKind.i64).pair ((Ty.int IntKind.i64).pair (recTy.sl.pair (confTy.pair Ty.bool)))))) l), (5, AV.ptr 0 (Elt.tl 0) 0), (6, AV.hw 3), (7, AV.int IntKind.i64 i), (8, AV.ptr 4 (Elt.tl 0) 0), (9, AV.int IntKind.i64 n2), (10, AV.int IntKind.i64 (IntKind.i64.wrap (k + (1 : Int))))], objs := [(0, AObj.arr 1 Ty.bool [] [[AV.hw 1]]), (1, AObj.arr 10 segTy f [[AV.int IntKind.i64 b, AV.int IntKind.i64 n, AV.int IntKind.i64 (0 : Int), AV.int IntKind.i64 (0 : Int), AV.hw 2, AV.bool false, AV.bool false, AV.bool false, AV.int IntKind.i64 z, AV.int IntKind.u32 (0 : Int)]]), (2, AObj.log recTy rs), (3, AObj.arr 5 recTy al []), (4, AObj.arr 10 Ty.bool [] [[AV.int IntKind.i64 w, AV.int IntKind.i64 x, AV.int IntKind.i64 y, AV.int IntKind.i64 g, AV.vl recTy LL, AV.int IntKind.i64 c1, AV.int IntKind.i64 c2, AV.int IntKind.i64 c3, AV.int IntKind.i64 c4, AV.bool mo]])], nx := 5 } else none else K (Ex.exit 3) { slots := [(0, AV.vl ((Ty.int IntKind.i64).pair ((Ty.int IntKind.i64).pair ((Ty.int IntKind.i64).pair ((Ty.int IntKind.i64).pair (recTy.sl.pair (confTy.pair Ty.bool)))))) l), (5, AV.ptr 0 (Elt.tl 0) 0), (6, AV.hw 3), (7, AV.int IntKind.i64 i), (8, AV.ptr 4 (Elt.tl 0) 0), (9, AV.int IntKind.i64 n2), (10, AV.int IntKind.i64 k)], objs := [(0, AObj.arr 1 Ty.bool [] [[AV.hw 1]]), (1, AObj.arr 10 segTy f [[AV.int IntKind.i64 b, AV.int IntKind.i64 n, AV.int IntKind.i64 (0 : Int), AV.int IntKind.i64 (0 : Int), AV.hw 2, AV.bool false, AV.bool false, AV.bool false, AV.int IntKind.i64 z, AV.int IntKind.u32 (0 : Int)]]), (2, AObj.log recTy rs), (3, AObj.arr 5 recTy al []), (4, AObj.arr 10 Ty.bool [] [[AV.int IntKind.i64 w, AV.int IntKind.i64 x, AV.int IntKind.i64 y, AV.int IntKind.i64 g, AV.vl recTy LL, AV.int IntKind.i64 c1, AV.int IntKind.i64 c2, AV.int IntKind.i64 c3, AV.int IntKind.i64 c4, AV.bool mo]])], nx := 5 } := by kernel_rfl

theorem sf33_rd {R : Type} (al le : List Rec) (l : List Seg) (i : Int) (K : Ex → St → Option R) : roundK (env consL1) H.fold2 0 (LPof []) V.cooperagelaw15_SegsFold_33 L.cooperagelaw15_SegsFold_33 ⟨[(6, .hw 0), (12, .hw 1), (13, .vl segT l), (14, .int .i64 i)], [(0, .arr 5 recT al []), (1, .arr 5 recT le [])], 2⟩ K = bif decide (i < (↑l.length : Int)) then bif decide ((0 : Int) ≤ i) && decide (i < (↑l.length : Int)) then bif decide ((le ++ (l.getD i.toNat segTy.zero).snd.snd.snd.snd.fst).length * 56 ≤ 140737488355328) then K Ex.normal { slots := [(6, AV.hw 0), (12, AV.hw 1), (13, AV.vl segTy l), (14, AV.int IntKind.i64 (IntKind.i64.wrap (i + (1 : Int))))], objs := [(0, AObj.arr 5 recTy al []), (1, AObj.arr 5 recTy (le ++ (l.getD i.toNat segTy.zero).snd.snd.snd.snd.fst) [])], nx := 2 } else none else none else K (Ex.exit 5) { slots := [(6, AV.hw 0), (12, AV.hw 1), (13, AV.vl segTy l), (14, AV.int IntKind.i64 i)], objs := [(0, AObj.arr 5 recTy al []), (1, AObj.arr 5 recTy le [])], nx := 2 } := by kernel_rfl

def addA (al : List Rec) (n : Int) (LL : List Rec) : Nat → List Rec × Int
  | 0 => (al, n)
  | k + 1 => bif recR (0, (LL.getD k recTy.zero).2) then ((addA al n LL k).1 ++ [((addA al n LL k).2, (LL.getD k recTy.zero).2)], (addA al n LL k).2 + 1) else addA al n LL k
theorem addA_le (al : List Rec) (n : Int) (LL : List Rec) : ∀ k, (addA al n LL k).1.length ≤ al.length + k ∧ n ≤ (addA al n LL k).2 ∧ (addA al n LL k).2 ≤ n + k
  | 0 => by simp [addA]
  | k + 1 => by
    obtain ⟨h1, h2, h3⟩ := addA_le al n LL k
    unfold addA
    cases recR (0, (LL.getD k recTy.zero).2) with
    | true => simp only [cond_true, List.length_append, List.length_cons, List.length_nil]; omega
    | false => simp only [cond_false]; omega
abbrev sf16O (M : LogS) (al : List Rec) (a : AObj) : List (Nat × AObj) := [(0, .arr 1 .bool [] [[.hw 1]]), (1, .arr 10 segT M.1 [actC M.2.1 M.2.2.1 M.2.2.2.1]), (2, .log recT M.2.2.2.2), (3, .arr 5 recT al []), (4, a)]
def sf16St (l : List ractT.den) (i n : Int) (al : List Rec) (w x y g : Int) (LL : List Rec) (c1 c2 c3 c4 : Int) (mo : Bool) (M : LogS) (k : Nat) : St := ⟨[(0, .vl ractT l), (5, .ptr 0 (.tl 0) 0), (6, .hw 3), (7, .int .i64 i), (8, .ptr 4 (.tl 0) 0), (9, .int .i64 (addA al n LL k).2), (10, .int .i64 k)], sf16O M (addA al n LL k).1 (actBO w x y g LL c1 c2 c3 c4 mo), 5⟩
theorem sf16_rounds {R : Type} (l : List ractT.den) (i n : Int) (al : List Rec) (w x y g : Int) (LL : List Rec) (c1 c2 c3 c4 : Int) (mo : Bool) (M : LogS) (hn : 0 ≤ n) (hn2 : n ≤ 1000000) (hL : LL.length ≤ 1000000) (ha : al.length ≤ 1000000) (K : Ex → St → Option R) : ∀ (m k : Nat), k + m = LL.length →
    rounds (env consL1) H.fold2 0 (LPof []) V.cooperagelaw15_SegsFold_16 L.cooperagelaw15_SegsFold_16 (m + 1) (sf16St l i n al w x y g LL c1 c2 c3 c4 mo M k) K = K (.exit 3) (sf16St l i n al w x y g LL c1 c2 c3 c4 mo M LL.length)
  | 0, k, h => by
    obtain rfl : k = LL.length := by omega
    rw [rounds_succ']
    refine (sf16_rd _ _ _ _ _ _ _ _ _ _ _ _ _ _ _ _ _ _ _ _ _).trans ?_
    rw [cond_neg (by omega)]
    rfl
  | m + 1, k, h => by
    have ih := sf16_rounds l i n al w x y g LL c1 c2 c3 c4 mo M hn hn2 hL ha K m (k + 1) (by omega)
    obtain ⟨h1, h2, h3⟩ := addA_le al n LL k
    have e1 : IntKind.i64.wrap ((k : Int) + 1) = ((k + 1 : Nat) : Int) := by rw [wrap64 (by omega) (by omega)]; omega
    have e2 : IntKind.i64.wrap ((addA al n LL k).2 + 1) = (addA al n LL k).2 + 1 := wrap64 (by omega) (by omega)
    have e3 : addA al n LL (k + 1) = bif recR (0, (LL.getD k recTy.zero).2) then ((addA al n LL k).1 ++ [((addA al n LL k).2, (LL.getD k recTy.zero).2)], (addA al n LL k).2 + 1) else addA al n LL k := rfl
    rw [rounds_succ']
    refine (sf16_rd _ _ _ _ _ _ _ _ _ _ _ _ _ _ _ _ _ _ _ _ _).trans ?_
    unfold sf16St at ih
    rw [e3] at ih
    rw [cond_pos (by omega), cond_pos2 (by omega) (by omega), Int.toNat_natCast, e1, e2]
    cases hr : recR (0, (LL.getD k recTy.zero).2) with
    | true =>
      rw [hr, cond_true] at ih
      rw [cond_true, cond_pos (by simp only [List.length_append, List.length_cons, List.length_nil]; omega)]
      exact ih
    | false =>
      rw [hr, cond_false] at ih
      rw [cond_false]
      exact ih
abbrev sfAP : OPat := .box 10 [[.int .i64, .int .i64, .int .i64, .int .i64, .vl recT, .int .i64, .int .i64, .int .i64, .int .i64, .bool]]
abbrev sf16LC : LoopC := LoopC.of ⟨[(0, .vl ractT), (5, .lit (.ptr 0 (.tl 0) 0)), (6, .lit (.hw 3)), (7, .int .i64), (8, .lit (.ptr 4 (.tl 0) 0)), (9, .int .i64), (10, .int .i64)], [.box 1 [[.lit (.hw 1)]], .arr 10 segT [actP], .log recT, .arr 5 recT [], sfAP]⟩
  (fun ⟨⟨l, _, _, i, _, n2, k, _⟩, ⟨_, ⟨f, ⟨b, n, _, _, _, _, _, _, z, _, _⟩, _⟩, rs, ⟨al, _⟩, ⟨⟨w, x, y, g, LL, c1, c2, c3, c4, mo, _⟩, _⟩, _⟩⟩ => decide (k = (0 : Int)) && decide ((0 : Int) ≤ n2) && decide (n2 ≤ (1000000 : Int)) && decide (List.length LL ≤ 1000000) && decide (List.length al ≤ 1000000))
  fun ⟨⟨l, _, _, i, _, n2, k, _⟩, ⟨_, ⟨f, ⟨b, n, _, _, _, _, _, _, z, _, _⟩, _⟩, rs, ⟨al, _⟩, ⟨⟨w, x, y, g, LL, c1, c2, c3, c4, mo, _⟩, _⟩, _⟩⟩ => [(true, .exit 3, sf16St l i n2 al w x y g LL c1 c2 c3 c4 mo (f, b, n, z, rs) (List.length LL))]
theorem sf16_lok : LoopOK P0 H.fold2 0 L.cooperagelaw15_SegsFold_16 sf16LC :=
  loop_ok_of (env_ok consL1_ok) glob0 mixed0 noLoops V.cooperagelaw15_SegsFold_16 (by decide) fun ⟨⟨l, _, _, i, _, n2, k, _⟩, ⟨_, ⟨f, ⟨b, n, _, _, _, _, _, _, z, _, _⟩, _⟩, rs, ⟨al, _⟩, ⟨⟨w, x, y, g, LL, c1, c2, c3, c4, mo, _⟩, _⟩, _⟩⟩ h hw => by
    simp only [Bool.and_eq_true, decide_eq_true_eq] at h
    obtain ⟨⟨⟨⟨rfl, h2⟩, h3⟩, h4⟩, h5⟩ := h
    exact ⟨_, sf16_rounds l i n2 al w x y g LL c1 c2 c3 c4 mo (f, b, n, z, rs) h2 h3 h4 h5 _ (List.length LL) 0 (Nat.zero_add _)⟩
def sf33St (al : List Rec) (l : List Seg) (i : Nat) : St := ⟨[(6, .hw 0), (12, .hw 1), (13, .vl segT l), (14, .int .i64 i)], [(0, .arr 5 recT al []), (1, .arr 5 recT (catG (l.take i)) [])], 2⟩
theorem sf33_rounds {R : Type} (al : List Rec) (l : List Seg) (hl : l.length ≤ 1000000000) (hc : (catG l).length ≤ 1000000) (K : Ex → St → Option R) : ∀ (m i : Nat), i + m = l.length →
    rounds (env consL1) H.fold2 0 (LPof []) V.cooperagelaw15_SegsFold_33 L.cooperagelaw15_SegsFold_33 (m + 1) (sf33St al l i) K = K (.exit 5) (sf33St al l l.length)
  | 0, i, h => by
    obtain rfl : i = l.length := by omega
    rw [rounds_succ']
    refine (sf33_rd _ _ _ _ _).trans ?_
    rw [cond_neg (by omega)]
    rfl
  | m + 1, i, h => by
    have ih := sf33_rounds al l hl hc K m (i + 1) (by omega)
    have hb := catG_le l (i + 1)
    have e1 : IntKind.i64.wrap ((i : Int) + 1) = ((i + 1 : Nat) : Int) := by rw [wrap64 (by omega) (by omega)]; omega
    rw [rounds_succ']
    refine (sf33_rd _ _ _ _ _).trans ?_
    unfold sf33St at ih
    rw [stake_snoc (by omega), catG_snoc] at ih hb
    rw [cond_pos (by omega), cond_pos2 (by omega) (by omega), Int.toNat_natCast, e1, cond_pos (by omega)]
    exact ih
abbrev sf33LC : LoopC := LoopC.of ⟨[(6, .lit (.hw 0)), (12, .lit (.hw 1)), (13, .vl segT), (14, .int .i64)], [.arr 5 recT [], .arr 5 recT []]⟩
  (fun ⟨⟨_, _, l, i, _⟩, ⟨⟨al, _⟩, ⟨le, _⟩, _⟩⟩ => decide (i = (0 : Int)) && List.isEmpty le && decide (List.length l ≤ 1000000000) && decide (List.length (catG l) ≤ 1000000))
  fun ⟨⟨_, _, l, i, _⟩, ⟨⟨al, _⟩, ⟨le, _⟩, _⟩⟩ => [(true, .exit 5, sf33St al l (List.length l))]
theorem sf33_lok : LoopOK P0 H.fold2 0 L.cooperagelaw15_SegsFold_33 sf33LC :=
  loop_ok_of (env_ok consL1_ok) glob0 mixed0 noLoops V.cooperagelaw15_SegsFold_33 (by decide) fun ⟨⟨_, _, l, i, _⟩, ⟨⟨al, _⟩, ⟨le, _⟩, _⟩⟩ h hw => by
    simp only [Bool.and_eq_true, decide_eq_true_eq] at h
    obtain ⟨⟨⟨rfl, h2⟩, h3⟩, h4⟩ := h
    obtain rfl : le = [] := List.isEmpty_iff.1 h2
    exact ⟨_, sf33_rounds al l h3 h4 _ (List.length l) 0 (Nat.zero_add _)⟩
theorem sf8_rd {R : Type} (l : List ractT.den) (i : Int) (al : List Rec) (f : List Seg) (b n z : Int) (rs : List Rec) (K : Ex → St → Option R) : roundK (env consL1) H.fold2 0 (LPof [(16, sf16LC)]) V.cooperagelaw15_SegsFold_8 L.cooperagelaw15_SegsFold_8 ⟨[(0, .vl ractT l), (5, .ptr 0 (.tl 0) 0), (6, .hw 3), (7, .int .i64 i)], [(0, .arr 1 .bool [] [[.hw 1]]), (1, .arr 10 segT f [actC b n z]), (2, .log recT rs), (3, .arr 5 recT al [])], 4⟩ K = bif decide (i < (↑l.length : Int)) then bif decide ((0 : Int) ≤ i) && decide (i < (↑l.length : Int)) then bif (l.getD i.toNat ractT.zero).fst == (0 : Int) then bif decide (f.length ≤ 1000000000) then bif decide (List.length (l.getD i.toNat ractT.zero).snd.snd.snd.snd.fst ≤ 200000000) && okB 500000000 (f, b, n, z, rs) then bif decide ((0 : Int) ≤ n) && decide (n ≤ (1000000 : Int)) && decide (List.length (l.getD i.toNat ractT.zero).snd.snd.snd.snd.fst ≤ 1000000) && decide (al.length ≤ 1000000) && true then K Ex.normal { slots := [(0, AV.vl ((Ty.int IntKind.i64).pair ((Ty.int IntKind.i64).pair ((Ty.int IntKind.i64).pair ((Ty.int IntKind.i64).pair (recTy.sl.pair (confTy.pair Ty.bool)))))) l), (5, AV.ptr 0 (Elt.tl 0) 0), (6, AV.hw 3), (7, AV.int IntKind.i64 (IntKind.i64.wrap (i + (1 : Int))))], objs := [(0, AObj.arr 1 Ty.bool [] [[AV.hw 1]]), (1, AObj.arr 10 segTy (apL (l.getD i.toNat ractT.zero).snd.fst (l.getD i.toNat ractT.zero).snd.snd.snd.snd.fst (f, b, n, z, rs) (List.length (l.getD i.toNat ractT.zero).snd.snd.snd.snd.fst)).fst [[AV.int IntKind.i64 (apL (l.getD i.toNat ractT.zero).snd.fst (l.getD i.toNat ractT.zero).snd.snd.snd.snd.fst (f, b, n, z, rs) (List.length (l.getD i.toNat ractT.zero).snd.snd.snd.snd.fst)).snd.fst, AV.int IntKind.i64 (apL (l.getD i.toNat ractT.zero).snd.fst (l.getD i.toNat ractT.zero).snd.snd.snd.snd.fst (f, b, n, z, rs) (List.length (l.getD i.toNat ractT.zero).snd.snd.snd.snd.fst)).snd.snd.fst, AV.int IntKind.i64 (0 : Int), AV.int IntKind.i64 (0 : Int), AV.hw 2, AV.bool false, AV.bool false, AV.bool false, AV.int IntKind.i64 (apL (l.getD i.toNat ractT.zero).snd.fst (l.getD i.toNat ractT.zero).snd.snd.snd.snd.fst (f, b, n, z, rs) (List.length (l.getD i.toNat ractT.zero).snd.snd.snd.snd.fst)).snd.snd.snd.fst, AV.int IntKind.u32 (0 : Int)]]), (2, AObj.log recTy (apL (l.getD i.toNat ractT.zero).snd.fst (l.getD i.toNat ractT.zero).snd.snd.snd.snd.fst (f, b, n, z, rs) (List.length (l.getD i.toNat ractT.zero).snd.snd.snd.snd.fst)).snd.snd.snd.snd), (3, AObj.arr 5 recTy (addA al n (l.getD i.toNat ractT.zero).snd.snd.snd.snd.fst (List.length (l.getD i.toNat ractT.zero).snd.snd.snd.snd.fst)).fst [])], nx := 4 } else none else none else none else bif (l.getD i.toNat ractT.zero).fst == (1 : Int) then bif decide (f.length ≤ 1000000000) then K Ex.normal { slots := [(0, AV.vl ((Ty.int IntKind.i64).pair ((Ty.int IntKind.i64).pair ((Ty.int IntKind.i64).pair ((Ty.int IntKind.i64).pair (recTy.sl.pair (confTy.pair Ty.bool)))))) l), (5, AV.ptr 0 (Elt.tl 0) 0), (6, AV.hw 3), (7, AV.int IntKind.i64 (IntKind.i64.wrap (i + (1 : Int))))], objs := [(0, AObj.arr 1 Ty.bool [] [[AV.hw 1]]), (1, AObj.arr 10 segTy (sealP (f, b, n, z, rs)).fst [[AV.int IntKind.i64 (sealP (f, b, n, z, rs)).snd.fst, AV.int IntKind.i64 (sealP (f, b, n, z, rs)).snd.snd.fst, AV.int IntKind.i64 (0 : Int), AV.int IntKind.i64 (0 : Int), AV.hw 2, AV.bool false, AV.bool false, AV.bool false, AV.int IntKind.i64 (sealP (f, b, n, z, rs)).snd.snd.snd.fst, AV.int IntKind.u32 (0 : Int)]]), (2, AObj.log recTy (sealP (f, b, n, z, rs)).snd.snd.snd.snd), (3, AObj.arr 5 recTy al [])], nx := 4 } else none else bif (l.getD i.toNat ractT.zero).fst == (2 : Int) then bif decide (f.length ≤ 1000000000) && decide ((catG (segsL (f, b, n, z, rs))).length ≤ 1048576) then K Ex.normal { slots := [(0, AV.vl ((Ty.int IntKind.i64).pair ((Ty.int IntKind.i64).pair ((Ty.int IntKind.i64).pair ((Ty.int IntKind.i64).pair (recTy.sl.pair (confTy.pair Ty.bool)))))) l), (5, AV.ptr 0 (Elt.tl 0) 0), (6, AV.hw 3), (7, AV.int IntKind.i64 (IntKind.i64.wrap (i + (1 : Int))))], objs := [(0, AObj.arr 1 Ty.bool [] [[AV.hw 1]]), (1, AObj.arr 10 segTy (cleanP (l.getD i.toNat ractT.zero).snd.fst (l.getD i.toNat ractT.zero).snd.snd.fst (l.getD i.toNat ractT.zero).snd.snd.snd.fst (f, b, n, z, rs)).fst [[AV.int IntKind.i64 (cleanP (l.getD i.toNat ractT.zero).snd.fst (l.getD i.toNat ractT.zero).snd.snd.fst (l.getD i.toNat ractT.zero).snd.snd.snd.fst (f, b, n, z, rs)).snd.fst, AV.int IntKind.i64 (cleanP (l.getD i.toNat ractT.zero).snd.fst (l.getD i.toNat ractT.zero).snd.snd.fst (l.getD i.toNat ractT.zero).snd.snd.snd.fst (f, b, n, z, rs)).snd.snd.fst, AV.int IntKind.i64 (0 : Int), AV.int IntKind.i64 (0 : Int), AV.hw 2, AV.bool false, AV.bool false, AV.bool false, AV.int IntKind.i64 (cleanP (l.getD i.toNat ractT.zero).snd.fst (l.getD i.toNat ractT.zero).snd.snd.fst (l.getD i.toNat ractT.zero).snd.snd.snd.fst (f, b, n, z, rs)).snd.snd.snd.fst, AV.int IntKind.u32 (0 : Int)]]), (2, AObj.log recTy (cleanP (l.getD i.toNat ractT.zero).snd.fst (l.getD i.toNat ractT.zero).snd.snd.fst (l.getD i.toNat ractT.zero).snd.snd.snd.fst (f, b, n, z, rs)).snd.snd.snd.snd), (3, AObj.arr 5 recTy al [])], nx := 4 } else none else bif (l.getD i.toNat ractT.zero).fst == (4 : Int) then bif decide (f.length < 1000000000) && f.all genB then K Ex.normal { slots := [(0, AV.vl ((Ty.int IntKind.i64).pair ((Ty.int IntKind.i64).pair ((Ty.int IntKind.i64).pair ((Ty.int IntKind.i64).pair (recTy.sl.pair (confTy.pair Ty.bool)))))) l), (5, AV.ptr 0 (Elt.tl 0) 0), (6, AV.hw 3), (7, AV.int IntKind.i64 (IntKind.i64.wrap (i + (1 : Int))))], objs := [(0, AObj.arr 1 Ty.bool [] [[AV.hw 1]]), (1, AObj.arr 10 segTy (mergeP (l.getD i.toNat ractT.zero).snd.fst (f, b, n, z, rs)).fst [[AV.int IntKind.i64 (mergeP (l.getD i.toNat ractT.zero).snd.fst (f, b, n, z, rs)).snd.fst, AV.int IntKind.i64 (mergeP (l.getD i.toNat ractT.zero).snd.fst (f, b, n, z, rs)).snd.snd.fst, AV.int IntKind.i64 (0 : Int), AV.int IntKind.i64 (0 : Int), AV.hw 2, AV.bool false, AV.bool false, AV.bool false, AV.int IntKind.i64 (mergeP (l.getD i.toNat ractT.zero).snd.fst (f, b, n, z, rs)).snd.snd.snd.fst, AV.int IntKind.u32 (0 : Int)]]), (2, AObj.log recTy (mergeP (l.getD i.toNat ractT.zero).snd.fst (f, b, n, z, rs)).snd.snd.snd.snd), (3, AObj.arr 5 recTy al [])], nx := 4 } else none else K Ex.normal { slots := [(0, AV.vl ((Ty.int IntKind.i64).pair ((Ty.int IntKind.i64).pair ((Ty.int IntKind.i64).pair ((Ty.int IntKind.i64).pair (recTy.sl.pair (confTy.pair Ty.bool)))))) l), (5, AV.ptr 0 (Elt.tl 0) 0), (6, AV.hw 3), (7, AV.int IntKind.i64 (IntKind.i64.wrap (i + (1 : Int))))], objs := [(0, AObj.arr 1 Ty.bool [] [[AV.hw 1]]), (1, AObj.arr 10 segTy f [[AV.int IntKind.i64 b, AV.int IntKind.i64 n, AV.int IntKind.i64 (0 : Int), AV.int IntKind.i64 (0 : Int), AV.hw 2, AV.bool false, AV.bool false, AV.bool false, AV.int IntKind.i64 z, AV.int IntKind.u32 (0 : Int)]]), (2, AObj.log recTy rs), (3, AObj.arr 5 recTy al [])], nx := 4 } else none else K (Ex.exit 0) { slots := [(0, AV.vl ((Ty.int IntKind.i64).pair ((Ty.int IntKind.i64).pair ((Ty.int IntKind.i64).pair ((Ty.int IntKind.i64).pair (recTy.sl.pair (confTy.pair Ty.bool)))))) l), (5, AV.ptr 0 (Elt.tl 0) 0), (6, AV.hw 3), (7, AV.int IntKind.i64 i)], objs := [(0, AObj.arr 1 Ty.bool [] [[AV.hw 1]]), (1, AObj.arr 10 segTy f [[AV.int IntKind.i64 b, AV.int IntKind.i64 n, AV.int IntKind.i64 (0 : Int), AV.int IntKind.i64 (0 : Int), AV.hw 2, AV.bool false, AV.bool false, AV.bool false, AV.int IntKind.i64 z, AV.int IntKind.u32 (0 : Int)]]), (2, AObj.log recTy rs), (3, AObj.arr 5 recTy al [])], nx := 4 } := by kernel_rfl

end Go.Sim
namespace Go.Sim
set_option linter.unusedSimpArgs false
set_option linter.unusedVariables false
set_option maxRecDepth 10000
theorem lastA_snoc (k : List UInt8) (r : Rec) : ∀ l : List Rec, lastA k (l ++ [r]) = bif keyR r == k then (aliveM r).head? else lastA k l
  | [] => by
    show lastA k [r] = _
    rw [lastA_cons]
    rfl
  | x :: l => by
    have ih := lastA_snoc k r l
    have hh : hasK k (l ++ [r]) = (hasK k l || keyR r == k) := by unfold hasK; rw [List.any_append]; simp
    rw [List.cons_append, lastA_cons, lastA_cons, ih, hh]
    cases hasK k l <;> cases keyR r == k <;> rfl
/-- What holds once calls were made: c bounds the sizes, v the generations. -/
structure InvL (c : Nat) (v : Int) (M : LogS) (al : List Rec) : Prop where
  chain : chainF 0 M.1 M.2.1
  act : recsIn M.2.1 M.2.2.1 M.2.2.2.2
  ok : okB c M = true
  gen : ∀ g ∈ M.1, 0 ≤ g.2.2.2.1 ∧ g.2.2.2.1 ≤ v
  last : ∀ k, lastA k (catG (segsL M)) = lastA k al
  len : (catG (segsL M)).length ≤ c
theorem catG_segs (M : LogS) : catG (segsL M) = catG M.1 ++ M.2.2.2.2 := by unfold segsL; rw [catG_snoc]; rfl
theorem InvL_zero : InvL 0 0 ([], 0, 0, 0, []) [] := ⟨rfl, ⟨fun r h => (by cases h), trivial⟩, rfl, fun g h => (by cases h), fun k => rfl, by simp [catG, segsL, actS]⟩
theorem InvL_mono {c d : Nat} {v w : Int} {M : LogS} {al : List Rec} (h : InvL c v M al) (h1 : c ≤ d) (h2 : v ≤ w) : InvL d w M al :=
  ⟨h.chain, h.act, okB_mono h.ok h1, fun g hg => by have := h.gen g hg; omega, h.last, by have := h.len; omega⟩
theorem InvL_push {c : Nat} {v : Int} {M : LogS} {al : List Rec} {r : Rec} (h : InvL c v M al) : InvL (c + 1) v (pushP M r) (al ++ [(M.2.2.1, r.2)]) := by
  have hcat : catG (segsL (pushP M r)) = catG (segsL M) ++ [(M.2.2.1, r.2)] := by
    rw [catG_segs, catG_segs, List.append_assoc]
    rfl
  refine ⟨h.chain, ⟨fun q hq => ?_, ?_⟩, pushP_ok r h.ok, h.gen, fun k => ?_, ?_⟩
  · have hq : q ∈ M.2.2.2.2 ++ [(M.2.2.1, r.2)] := hq
    show M.2.1 ≤ q.1 ∧ q.1 < M.2.2.1 + 1
    obtain ⟨o1, o2, _⟩ := okB_iff.1 h.ok
    rcases List.mem_append.1 hq with hq | hq
    · have := h.act.1 q hq
      omega
    · have := List.mem_singleton.1 hq
      subst this
      show M.2.1 ≤ M.2.2.1 ∧ M.2.2.1 < M.2.2.1 + 1
      omega
  · show sortO (M.2.2.2.2 ++ [(M.2.2.1, r.2)])
    refine sortO_append h.act.2 ⟨fun q hq => (by cases hq), trivial⟩ fun x hx y hy => ?_
    have := List.mem_singleton.1 hy
    subst this
    exact (h.act.1 x hx).2
  · rw [hcat, lastA_snoc, lastA_snoc, h.last k]
  · rw [hcat, List.length_append]
    have := h.len
    simp only [List.length_cons, List.length_nil]
    omega
theorem chainF_snoc {g : Seg} : ∀ {f : List Seg} {a e : Int}, chainF a f e → g.1 = e → e ≤ g.2.1 → recsIn g.1 g.2.1 g.2.2.2.2.1 → (g.2.2.2.2.2.1 = true ∧ g.2.2.2.2.2.2.2.1 = false) → chainF a (f ++ [g]) g.2.1
  | [], a, e, h, h1, h2, h3, h4 => by
    have h : a = e := h
    subst h
    exact ⟨h1, h2, h3, h4, rfl⟩
  | x :: f, a, e, h, h1, h2, h3, h4 => ⟨h.1, h.2.1, h.2.2.1, h.2.2.2.1, chainF_snoc h.2.2.2.2 h1 h2 h3 h4⟩
theorem InvL_seal {c : Nat} {v : Int} {M : LogS} {al : List Rec} (h : InvL c v M al) (hv : 0 ≤ v) (hc : c ≤ 1000000) : InvL (c + 1) v (sealP M) al := by
  have hok := sealP_ok h.ok (by omega)
  have hcat : catG (segsL (sealP M)) = catG (segsL M) := by
    rw [catG_segs, catG_segs]
    unfold sealP
    cases M.2.1 == M.2.2.1 with
    | true => rfl
    | false => rw [cond_false, catG_snoc, List.append_nil]
  refine ⟨?_, ?_, hok, fun g hg => ?_, fun k => by rw [hcat]; exact h.last k, by rw [hcat]; have := h.len; omega⟩
  · unfold sealP
    cases hb : M.2.1 == M.2.2.1 with
    | true => exact h.chain
    | false =>
      rw [cond_false]
      obtain ⟨o1, o2, _⟩ := okB_iff.1 h.ok
      exact chainF_snoc (g := (M.2.1, M.2.2.1, latS M.2.2.2.2, 0, M.2.2.2.2, true, false, false, M.2.2.2.1, 0)) h.chain rfl o2 h.act ⟨rfl, rfl⟩
  · unfold sealP
    cases M.2.1 == M.2.2.1 with
    | true => exact h.act
    | false => exact ⟨fun r hr => (by cases hr), trivial⟩
  · unfold sealP at hg
    cases hb : M.2.1 == M.2.2.1 with
    | true => rw [hb] at hg; exact h.gen g hg
    | false =>
      rw [hb, cond_false] at hg
      rcases List.mem_append.1 hg with hg | hg
      · exact h.gen g hg
      · have := List.mem_singleton.1 hg
        subst this
        exact ⟨Int.le_refl _, hv⟩
theorem InvL_app {c : Nat} {v : Int} {M : LogS} {al : List Rec} (most : Int) (LL : List Rec) (h : InvL c v M al) (hv : 0 ≤ v) : ∀ k, c + 2 * k ≤ 1000000 → InvL (c + 2 * k) v (apL most LL M k) (addA al M.2.2.1 LL k).1 ∧ (apL most LL M k).2.2.1 = (addA al M.2.2.1 LL k).2
  | 0, _ => ⟨h, rfl⟩
  | k + 1, hk => by
    obtain ⟨i1, i2⟩ := InvL_app most LL h hv k (by omega)
    show InvL (c + 2 * k + 2) v (apR most (apL most LL M k) (LL.getD k recTy.zero)) _ ∧ (apR most (apL most LL M k) (LL.getD k recTy.zero)).2.2.1 = _
    unfold addA apR
    cases hr : recR (0, (LL.getD k recTy.zero).2) with
    | false => exact ⟨InvL_mono i1 (by omega) (Int.le_refl _), i2⟩
    | true =>
      simp only [cond_true]
      have hp := InvL_push (r := LL.getD k recTy.zero) i1
      rw [i2] at hp
      have hnx : (pushP (apL most LL M k) (LL.getD k recTy.zero)).2.2.1 = (addA al M.2.2.1 LL k).2 + 1 := by rw [← i2]; rfl
      cases decide ((apL most LL M k).2.2.1 + 1 - (apL most LL M k).2.1 ≥ mxI most) with
      | true => exact ⟨InvL_seal hp hv (by omega), by rw [cond_true, sealP_next]; exact hnx⟩
      | false => exact ⟨InvL_mono hp (by omega) (Int.le_refl _), hnx⟩
theorem InvL_clean {c : Nat} {v : Int} {M : LogS} {al : List Rec} (pt nw gr : Int) (h : InvL c v M al) (hv : 0 ≤ v) (hv2 : v ≤ 1000000) (hc : c ≤ 1000000) : InvL c (v + 1) (cleanP pt nw gr M) al := by
  obtain ⟨f, b, n, z, rs⟩ := M
  obtain ⟨o1, o2, o3, o4, o5, o6, o7, o8⟩ := okB_iff.1 h.ok
  have hch : chainF 0 f b := h.chain
  have hact : recsIn b n rs := h.act
  have hmin : minZ pt b ≤ b := by
    unfold minZ
    by_cases hb : b < pt
    · rw [cond_pos hb]; exact Int.le_refl _
    · rw [cond_neg hb]; omega
  have hrs : ∀ r ∈ rs, b ≤ r.1 := fun r hr => (hact.1 r hr).1
  have hall : keepL (minZ pt b) nw gr (locG (segsL (f, b, n, z, rs))) rs = rs := keepL_all fun r hr => by have := hrs r hr; omega
  have hR := clR_chain (minZ pt b) (minZ pt b) nw gr (locG (segsL (f, b, n, z, rs))) hch rs hrs
  rw [hall] at hR
  have hcs : catG (segsL (f, b, n, z, rs)) = catG f ++ rs := catG_segs (f, b, n, z, rs)
  have hP : cleanP pt nw gr (f, b, n, z, rs) = ((clR (minZ pt b) f (keepL (minZ pt b) nw gr (locG (segsL (f, b, n, z, rs))) (catG f ++ rs))).1, b, n, z, rs) := by
    show ((clS (minZ pt b) f (keepL (minZ pt b) nw gr (locG (segsL (f, b, n, z, rs))) (catG (segsL (f, b, n, z, rs)))) f.length).1, b, n, z, rs) = _
    rw [clS_all, hcs]
  obtain ⟨r1, r2, r3⟩ := hR
  have hsort : sortO (catG f ++ rs) := sortO_append (chainF_sort hch) hact.2 fun x hx y hy => by
    have := chainF_mem hch x hx
    have := hrs y hy
    omega
  have hcat : catG (segsL (cleanP pt nw gr (f, b, n, z, rs))) = keepL (minZ pt b) nw gr (locG (segsL (f, b, n, z, rs))) (catG f ++ rs) := by rw [hP, catG_segs]; exact r3
  have hl := keepL_length (minZ pt b) nw gr (locG (segsL (f, b, n, z, rs))) (catG f ++ rs)
  have hlen : (catG f ++ rs).length ≤ c := by have := h.len; rw [hcs] at this; exact this
  have hmem : ∀ (ff : List Seg) (kp : List Rec), kp.length ≤ c → ff.all smallS = true → (∀ g ∈ ff, 0 ≤ g.2.2.2.1 ∧ g.2.2.2.1 ≤ v) → (clR (minZ pt b) ff kp).1.all smallS = true ∧ ∀ g ∈ (clR (minZ pt b) ff kp).1, 0 ≤ g.2.2.2.1 ∧ g.2.2.2.1 ≤ v + 1 := by
    intro ff
    induction ff with
    | nil => intro kp _ _ _; exact ⟨rfl, fun g hg => by cases hg⟩
    | cons x ff ih =>
      intro kp hkp hsm hge
      have hx := hge x List.mem_cons_self
      simp only [List.all_cons, Bool.and_eq_true] at hsm
      have hone : smallS (clOne (minZ pt b) x kp).1 = true ∧ (0 ≤ (clOne (minZ pt b) x kp).1.2.2.2.1 ∧ (clOne (minZ pt b) x kp).1.2.2.2.1 ≤ v + 1) ∧ (clOne (minZ pt b) x kp).2.length ≤ c := by
        unfold clOne
        cases !x.2.2.2.2.2.1 || x.2.2.2.2.2.2.2.1 with
        | true => exact ⟨hsm.1, ⟨hx.1, by show x.2.2.2.1 ≤ v + 1; omega⟩, hkp⟩
        | false =>
          rw [cond_false]
          refine ⟨?_, ?_, by simp only [List.length_drop]; omega⟩
          · unfold smallS clG
            simp only [List.length_take]
            exact decide_eq_true (by omega)
          · unfold clG
            simp only
            have w : IntKind.i64.wrap (x.2.2.2.1 + 1) = x.2.2.2.1 + 1 := wrap64 (by omega) (by omega)
            cases decide (((cutN x.2.1 kp : Nat) : Int) < (x.2.2.2.2.1.length : Int)) <;> simp only [cond_true, cond_false] <;> omega
      obtain ⟨j1, j2⟩ := ih (clOne (minZ pt b) x kp).2 hone.2.2 hsm.2 fun g hg => hge g (List.mem_cons_of_mem _ hg)
      unfold clR
      refine ⟨by rw [List.all_cons, hone.1, j1]; rfl, fun g hg => ?_⟩
      rcases List.mem_cons.1 hg with rfl | hg
      · exact hone.2.1
      · exact j2 g hg
  obtain ⟨m1, m2⟩ := hmem f (keepL (minZ pt b) nw gr (locG (segsL (f, b, n, z, rs))) (catG f ++ rs)) (by omega) o8 h.gen
  have hfl := clR_len (minZ pt b) f (keepL (minZ pt b) nw gr (locG (segsL (f, b, n, z, rs))) (catG f ++ rs))
  refine ⟨?_, ?_, ?_, ?_, fun k => ?_, ?_⟩
  · rw [hP]; exact r1
  · rw [hP]; exact hact
  · rw [hP]
    refine okB_iff.2 ⟨o1, o2, o3, o4, o5, ?_, o7, m1⟩
    show (clR _ f _).1.length ≤ c
    rw [hfl]
    exact o6
  · rw [hP]; exact m2
  · rw [hcat, keepL_last _ _ _ _ k hsort, ← h.last k, hcs]
  · rw [hcat]; omega
theorem chainF_split : ∀ {l m : List Seg} {a e : Int}, chainF a (l ++ m) e → ∃ c, chainF a l c ∧ chainF c m e
  | [], m, a, e, h => ⟨a, rfl, h⟩
  | x :: l, m, a, e, h => by
    obtain ⟨h1, h2, h3, h4, h5⟩ := h
    obtain ⟨c, i1, i2⟩ := chainF_split h5
    exact ⟨c, ⟨h1, h2, h3, h4, i1⟩, i2⟩
theorem chainF_join : ∀ {l m : List Seg} {a c e : Int}, chainF a l c → chainF c m e → chainF a (l ++ m) e
  | [], m, a, c, e, h, g => by
    have h : a = c := h
    subst h
    exact g
  | x :: l, m, a, c, e, h, g => ⟨h.1, h.2.1, h.2.2.1, h.2.2.2.1, chainF_join h.2.2.2.2 g⟩
theorem split_two {f : List Seg} {i : Nat} (h : i + 1 < f.length) : f = f.take i ++ f.getD i segTy.zero :: f.getD (i + 1) segTy.zero :: f.drop (i + 2) := by
  have e1 : f.drop i = f.getD i segTy.zero :: f.drop (i + 1) := by
    rw [List.drop_eq_getElem_cons (by omega), List.getD_eq_getElem?_getD, List.getElem?_eq_getElem (by omega)]
    rfl
  have e2 : f.drop (i + 1) = f.getD (i + 1) segTy.zero :: f.drop (i + 2) := by
    rw [List.drop_eq_getElem_cons (by omega), List.getD_eq_getElem?_getD, List.getElem?_eq_getElem (by omega)]
    rfl
  conv => lhs; rw [← List.take_append_drop i f, e1, e2]
theorem InvL_merge {c : Nat} {v : Int} {M : LogS} {al : List Rec} (most : Int) (h : InvL c v M al) (hc : c ≤ 1000000) : InvL c (v + 1) (mergeP most M) al := by
  obtain ⟨f, b, n, z, rs⟩ := M
  unfold mergeP
  cases hs : (mgAt most f).isSome with
  | false => exact InvL_mono h (Nat.le_refl _) (by omega)
  | true =>
    obtain ⟨j, hj⟩ := Option.isSome_iff_exists.1 hs
    obtain ⟨_, _, j3, _⟩ := firstFrom_spec hj
    have hlt : j + 1 < f.length := by
      unfold mgP at j3
      rw [Bool.and_eq_true] at j3
      exact of_decide_eq_true j3.1
    simp only [cond_true]
    rw [hj]
    simp only [Option.getD_some]
    have hsp := split_two hlt
    obtain ⟨P, hP⟩ : ∃ P, P = f.take j := ⟨_, rfl⟩
    obtain ⟨g, hg⟩ : ∃ g, g = f.getD j segTy.zero := ⟨_, rfl⟩
    obtain ⟨q, hq⟩ : ∃ q, q = f.getD (j + 1) segTy.zero := ⟨_, rfl⟩
    obtain ⟨D, hD⟩ : ∃ D, D = f.drop (j + 2) := ⟨_, rfl⟩
    have hm : mgL f j = P ++ merge2 g q :: D := by unfold mgL twoOne; rw [hP, hg, hq, hD]; simp
    rw [← hP, ← hg, ← hq, ← hD] at hsp
    rw [hm]
    have hch : chainF 0 f b := h.chain
    rw [hsp] at hch
    obtain ⟨x, k1, k2⟩ := chainF_split hch
    obtain ⟨a1, a2, a3, a4, b1, b2, b3, b4, k3⟩ := k2
    have hgen := h.gen
    have hok := okB_iff.1 h.ok
    simp only at hgen hok
    obtain ⟨o1, o2, o3, o4, o5, o6, o7, o8⟩ := hok
    rw [hsp] at o6 o8
    have hgg := hgen g (by rw [hsp]; simp)
    have hqq := hgen q (by rw [hsp]; simp)
    have hcat : catG (P ++ merge2 g q :: D) = catG f := by
      rw [hsp, catG_append, catG_append, catG_cons, catG_cons, catG_cons]
      show _ ++ ((g.2.2.2.2.1 ++ q.2.2.2.2.1) ++ _) = _
      rw [List.append_assoc]
    have hcs : catG (segsL (P ++ merge2 g q :: D, b, n, z, rs)) = catG (segsL (f, b, n, z, rs)) := by rw [catG_segs, catG_segs]; show catG _ ++ rs = catG f ++ rs; rw [hcat]
    have hlen : (g.2.2.2.2.1 ++ q.2.2.2.2.1).length ≤ c := by
      have h1 := h.len
      rw [catG_segs] at h1
      have h1 : (catG f ++ rs).length ≤ c := h1
      rw [hsp, catG_append, catG_cons, catG_cons] at h1
      simp only [List.length_append] at h1 ⊢
      omega
    refine ⟨?_, h.act, okB_iff.2 ⟨o1, o2, o3, o4, o5, ?_, o7, ?_⟩, ?_, fun k => by rw [hcs]; exact h.last k, by rw [hcs]; exact h.len⟩
    · refine chainF_join k1 ⟨a1, ?_, ⟨fun r hr => ?_, ?_⟩, ⟨rfl, rfl⟩, k3⟩
      · show x ≤ q.2.1
        omega
      · have hr : r ∈ g.2.2.2.2.1 ++ q.2.2.2.2.1 := hr
        show g.1 ≤ r.1 ∧ r.1 < q.2.1
        rcases List.mem_append.1 hr with hr | hr
        · have := a3.1 r hr
          omega
        · have := b3.1 r hr
          omega
      · show sortO (g.2.2.2.2.1 ++ q.2.2.2.2.1)
        refine sortO_append a3.2 b3.2 fun s hs t ht => ?_
        have := a3.1 s hs
        have := b3.1 t ht
        omega
    · show (P ++ merge2 g q :: D).length ≤ c
      simp only [List.length_append, List.length_cons] at o6 ⊢
      omega
    · show (P ++ merge2 g q :: D).all smallS = true
      simp only [List.all_append, List.all_cons, Bool.and_eq_true] at o8 ⊢
      refine ⟨o8.1, ?_, o8.2.2.2⟩
      exact decide_eq_true (show (g.2.2.2.2.1 ++ q.2.2.2.2.1).length ≤ 1000000000 by omega)
    · intro w hw
      have hw : w ∈ P ++ merge2 g q :: D := hw
      rcases List.mem_append.1 hw with hw | hw
      · have := hgen w (by rw [hsp]; exact List.mem_append_left _ hw)
        omega
      · rcases List.mem_cons.1 hw with rfl | hw
        · show 0 ≤ mxZ g.2.2.2.1 q.2.2.2.1 + 1 ∧ mxZ g.2.2.2.1 q.2.2.2.1 + 1 ≤ v + 1
          unfold mxZ
          cases decide (q.2.2.2.1 > g.2.2.2.1) <;> simp only [cond_true, cond_false] <;> omega
        · have := hgen w (by rw [hsp]; exact List.mem_append_right _ (List.mem_cons_of_mem _ (List.mem_cons_of_mem _ hw)))
          omega
end Go.Sim
namespace Go.Sim
set_option linter.unusedSimpArgs false
set_option linter.unusedVariables false
set_option maxRecDepth 10000
def stepF (a : ractT.den) (s : LogS × List Rec) : LogS × List Rec :=
  bif a.1 == 0 then (apL a.2.1 a.2.2.2.2.1 s.1 a.2.2.2.2.1.length, (addA s.2 s.1.2.2.1 a.2.2.2.2.1 a.2.2.2.2.1.length).1)
  else bif a.1 == 1 then (sealP s.1, s.2) else bif a.1 == 2 then (cleanP a.2.1 a.2.2.1 a.2.2.2.1 s.1, s.2) else bif a.1 == 4 then (mergeP a.2.1 s.1, s.2) else s
def runF (l : List ractT.den) : Nat → LogS × List Rec
  | 0 => (([], 0, 0, 0, []), [])
  | i + 1 => stepF (l.getD i ractT.zero) (runF l i)
theorem runF_inv {l : List ractT.den} (hl : l.length ≤ 40) (hb : (firstFrom (bigA l) 0 l.length).isSome = false) : ∀ i, i ≤ l.length → InvL (25 * i) i (runF l i).1 (runF l i).2 ∧ (runF l i).2.length ≤ 12 * i
  | 0, _ => ⟨InvL_zero, Nat.le_refl _⟩
  | i + 1, h => by
    obtain ⟨h1, h2⟩ := runF_inv hl hb i (by omega)
    have hn : firstFrom (bigA l) 0 l.length = none := by
      cases hf : firstFrom (bigA l) 0 l.length with
      | none => rfl
      | some k => rw [hf] at hb; cases hb
    have hbi := firstFrom_none hn i (Nat.zero_le _) (by omega)
    unfold bigA at hbi
    rw [Bool.or_eq_false_iff] at hbi
    have h12 : (l.getD i ractT.zero).2.2.2.2.1.length ≤ 12 := by
      have := of_decide_eq_false hbi.2
      omega
    have hv : (0 : Int) ≤ (i : Int) := Int.natCast_nonneg _
    have hc : (((i + 1 : Nat) : Int)) = (i : Int) + 1 := by omega
    show InvL (25 * (i + 1)) ((i + 1 : Nat) : Int) (stepF (l.getD i ractT.zero) (runF l i)).1 (stepF (l.getD i ractT.zero) (runF l i)).2 ∧ (stepF (l.getD i ractT.zero) (runF l i)).2.length ≤ 12 * (i + 1)
    rw [hc]
    unfold stepF
    cases (l.getD i ractT.zero).1 == 0 with
    | true =>
      rw [cond_true]
      obtain ⟨a1, a2, a3⟩ := addA_le (runF l i).2 (runF l i).1.2.2.1 (l.getD i ractT.zero).2.2.2.2.1 (l.getD i ractT.zero).2.2.2.2.1.length
      exact ⟨InvL_mono (InvL_app _ _ h1 hv _ (by omega)).1 (by omega) (by omega), by simp only; omega⟩
    | false =>
      rw [cond_false]
      cases (l.getD i ractT.zero).1 == 1 with
      | true => rw [cond_true]; exact ⟨InvL_mono (InvL_seal h1 hv (by omega)) (by omega) (by omega), by simp only; omega⟩
      | false =>
        rw [cond_false]
        cases (l.getD i ractT.zero).1 == 2 with
        | true => rw [cond_true]; exact ⟨InvL_mono (InvL_clean _ _ _ h1 hv (by omega) (by omega)) (by omega) (Int.le_refl _), by simp only; omega⟩
        | false =>
          rw [cond_false]
          cases (l.getD i ractT.zero).1 == 4 with
          | true => rw [cond_true]; exact ⟨InvL_mono (InvL_merge _ h1 (by omega)) (by omega) (Int.le_refl _), by simp only; omega⟩
          | false => rw [cond_false]; exact ⟨InvL_mono h1 (by omega) (by omega), by omega⟩
def sf8St (l : List ractT.den) (i : Nat) : St := ⟨[(0, .vl ractT l), (5, .ptr 0 (.tl 0) 0), (6, .hw 3), (7, .int .i64 i)], logO (runF l i).1 ++ [(3, .arr 5 recT (runF l i).2 [])], 4⟩
theorem sf8_rounds {R : Type} (l : List ractT.den) (hl : l.length ≤ 40) (hb : (firstFrom (bigA l) 0 l.length).isSome = false) (K : Ex → St → Option R) : ∀ (m i : Nat), i + m = l.length →
    rounds (env consL1) H.fold2 0 (LPof [(16, sf16LC)]) V.cooperagelaw15_SegsFold_8 L.cooperagelaw15_SegsFold_8 (m + 1) (sf8St l i) K = K (.exit 0) (sf8St l l.length)
  | 0, i, h => by
    obtain rfl : i = l.length := by omega
    rw [rounds_succ']
    refine (sf8_rd _ _ _ _ _ _ _ _ _).trans ?_
    rw [cond_neg (by omega)]
    rfl
  | m + 1, i, h => by
    have ih := sf8_rounds l hl hb K m (i + 1) (by omega)
    obtain ⟨h1, h2⟩ := runF_inv hl hb i (by omega)
    obtain ⟨o1, o2, o3, o4, o5, o6, o7, o8⟩ := okB_iff.1 h1.ok
    have hlen := h1.len
    have hn : firstFrom (bigA l) 0 l.length = none := by
      cases hf : firstFrom (bigA l) 0 l.length with
      | none => rfl
      | some k => rw [hf] at hb; cases hb
    have hbi := firstFrom_none hn i (Nat.zero_le _) (by omega)
    unfold bigA at hbi
    rw [Bool.or_eq_false_iff] at hbi
    have h12 : (l.getD i ractT.zero).2.2.2.2.1.length ≤ 12 := by
      have := of_decide_eq_false hbi.2
      omega
    have hM : ((runF l i).1.1, (runF l i).1.2.1, (runF l i).1.2.2.1, (runF l i).1.2.2.2.1, (runF l i).1.2.2.2.2) = (runF l i).1 := rfl
    have e1 : IntKind.i64.wrap ((i : Int) + 1) = ((i + 1 : Nat) : Int) := by rw [wrap64 (by omega) (by omega)]; omega
    have hok := okB_mono h1.ok (show 25 * i ≤ 500000000 by omega)
    have hgen : (runF l i).1.1.all genB = true := List.all_eq_true.2 fun g hg => by
      have hsm := List.all_eq_true.1 o8 g hg
      have hlg : g.2.2.2.2.1.length ≤ (catG (segsL (runF l i).1)).length := by
        rw [catG_segs]
        obtain ⟨s, t, e⟩ := List.append_of_mem hg
        rw [e, catG_append, catG_cons]
        simp only [List.length_append]
        omega
      have := h1.gen g hg
      unfold genB
      simp only [Bool.and_eq_true, decide_eq_true_eq]
      omega
    rw [rounds_succ']
    refine (sf8_rd l i (runF l i).2 (runF l i).1.1 (runF l i).1.2.1 (runF l i).1.2.2.1 (runF l i).1.2.2.2.1 (runF l i).1.2.2.2.2 _).trans ?_
    have hst : sf8St l (i + 1) = ⟨[(0, .vl ractT l), (5, .ptr 0 (.tl 0) 0), (6, .hw 3), (7, .int .i64 (i + 1 : Nat))], logO (stepF (l.getD i ractT.zero) (runF l i)).1 ++ [(3, .arr 5 recT (stepF (l.getD i ractT.zero) (runF l i)).2 [])], 4⟩ := rfl
    rw [hst] at ih
    unfold stepF at ih
    rw [cond_pos (by omega), cond_pos2 (by omega) (by omega), Int.toNat_natCast, e1, hM, hok, hgen, cond_pos (show (runF l i).1.1.length ≤ 1000000000 by omega)]
    have p1 : decide ((l.getD i ractT.zero).2.2.2.2.1.length ≤ 200000000) = true := decide_eq_true (by omega)
    have p2 : decide ((0 : (Pat.int IntKind.i64).den) ≤ (runF l i).1.2.2.1) = true := decide_eq_true (show (0 : Int) ≤ (runF l i).1.2.2.1 by omega)
    have p3 : decide ((runF l i).1.2.2.1 ≤ (1000000 : (Pat.int IntKind.i64).den)) = true := decide_eq_true (show (runF l i).1.2.2.1 ≤ (1000000 : Int) by omega)
    have p4 : decide ((l.getD i ractT.zero).2.2.2.2.1.length ≤ 1000000) = true := decide_eq_true (by omega)
    have p5 : decide ((runF l i).2.length ≤ 1000000) = true := decide_eq_true (by omega)
    have p6 : decide ((runF l i).1.1.length ≤ 1000000000) = true := decide_eq_true (by omega)
    have p7 : decide ((catG (segsL (runF l i).1)).length ≤ 1048576) = true := decide_eq_true (by omega)
    have p8 : decide ((runF l i).1.1.length < 1000000000) = true := decide_eq_true (by omega)
    rw [p1, p2, p3, p4, p5, p6, p7, p8]
    simp only [Bool.and_self, cond_true]
    cases ha : (l.getD i ractT.zero).1 == 0 with
    | true => rw [ha, cond_true] at ih; rw [cond_true]; exact ih
    | false =>
      rw [ha, cond_false] at ih
      rw [cond_false]
      cases hb2 : (l.getD i ractT.zero).1 == 1 with
      | true => rw [hb2, cond_true] at ih; rw [cond_true]; exact ih
      | false =>
        rw [hb2, cond_false] at ih
        rw [cond_false]
        cases hc2 : (l.getD i ractT.zero).1 == 2 with
        | true => rw [hc2, cond_true] at ih; rw [cond_true]; exact ih
        | false =>
          rw [hc2, cond_false] at ih
          rw [cond_false]
          cases hd2 : (l.getD i ractT.zero).1 == 4 with
          | true => rw [hd2, cond_true] at ih; rw [cond_true]; exact ih
          | false => rw [hd2, cond_false] at ih; rw [cond_false]; exact ih
abbrev sf8LC : LoopC := LoopC.of ⟨[(0, .vl ractT), (5, .lit (.ptr 0 (.tl 0) 0)), (6, .lit (.hw 3)), (7, .int .i64)], [.box 1 [[.lit (.hw 1)]], .arr 10 segT [actP], .log recT, .arr 5 recT []]⟩
  (fun ⟨⟨l, _, _, i, _⟩, ⟨_, ⟨f, ⟨b, n, _, _, _, _, _, _, z, _, _⟩, _⟩, rs, ⟨al, _⟩, _⟩⟩ => decide (i = (0 : Int)) && decide (List.length l ≤ 40) && !(firstFrom (bigA l) 0 (List.length l)).isSome && List.isEmpty f && List.isEmpty rs && List.isEmpty al && decide (b = (0 : Int)) && decide (n = (0 : Int)) && decide (z = (0 : Int)))
  fun ⟨⟨l, _, _, i, _⟩, ⟨_, ⟨f, ⟨b, n, _, _, _, _, _, _, z, _, _⟩, _⟩, rs, ⟨al, _⟩, _⟩⟩ => [(true, .exit 0, sf8St l (List.length l))]
theorem sf8_go (l : List ractT.den) (i b n z : Int) (f : List Seg) (rs al : List Rec) (h1 : i = 0) (h2 : l.length ≤ 40) (h3 : (firstFrom (bigA l) 0 l.length).isSome = false) (h4 : f.isEmpty = true) (h5 : rs.isEmpty = true) (h6 : al.isEmpty = true) (h7 : b = 0) (h8 : n = 0) (h9 : z = 0) :
    ∃ m, rounds (env consL1) H.fold2 0 (LPof [(16, sf16LC)]) V.cooperagelaw15_SegsFold_8 L.cooperagelaw15_SegsFold_8 m ⟨[(0, .vl ractT l), (5, .ptr 0 (.tl 0) 0), (6, .hw 3), (7, .int .i64 i)], [(0, .arr 1 .bool [] [[.hw 1]]), (1, .arr 10 segT f [actC b n z]), (2, .log recT rs), (3, .arr 5 recT al [])], 4⟩ (fun e s => some (e, s)) = some (.exit 0, sf8St l l.length) := by
  subst h1 h7 h8 h9
  obtain rfl := List.isEmpty_iff.1 h4
  obtain rfl := List.isEmpty_iff.1 h5
  obtain rfl := List.isEmpty_iff.1 h6
  exact ⟨_, sf8_rounds l h2 h3 _ l.length 0 (Nat.zero_add _)⟩
theorem sf8_lok : LoopOK P0 H.fold2 0 L.cooperagelaw15_SegsFold_8 sf8LC :=
  loop_ok_of (env_ok consL1_ok) glob0 mixed0 (loops_good (tab := [(16, sf16LC)]) (by kernel_rfl) (fun x hx => by simp at hx; subst hx; exact sf16_lok)) V.cooperagelaw15_SegsFold_8 (by decide) fun ⟨⟨l, _, _, i, _⟩, ⟨_, ⟨f, ⟨b, n, _, _, _, _, _, _, z, _, _⟩, _⟩, rs, ⟨al, _⟩, _⟩⟩ h hw => by
    simp only [Bool.and_eq_true, decide_eq_true_eq, Bool.not_eq_true'] at h
    obtain ⟨⟨⟨⟨⟨⟨⟨⟨h1, h2⟩, h3⟩, h4⟩, h5⟩, h6⟩, h7⟩, h8⟩, h9⟩ := h
    exact sf8_go l i b n z f rs al h1 h2 h3 h4 h5 h6 h7 h8 h9
theorem fold_ev (l : List ractT.den) : evFn (env consL1) H.fold2 (LPof [(8, sf8LC), (16, sf16LC), (33, sf33LC)]) F.cooperagelaw15_SegsFold [.vl ractT l] [] (finT [.bool]) = bif bigAct l then some (true, ()) else bif decide (l.length ≤ 40) && !(firstFrom (bigA l) 0 l.length).isSome && true && true && true && true && true && true && true then bif smallL (runF l l.length).fst.fst && decide ((runF l l.length).fst.snd.snd.snd.snd.length ≤ 1000000000) then bif decide ((segsL (runF l l.length).fst).length ≤ 1000000000) && decide ((catG (segsL (runF l l.length).fst)).length ≤ 1000000) && true then bif decide ((runF l l.length).snd.length ≤ 1000000) then bif decide ((catG (List.take (segsL (runF l l.length).fst).length (segsL (runF l l.length).fst))).length ≤ 1000000) then some (decide (mapM (runF l l.length).snd = mapM (catG (List.take (segsL (runF l l.length).fst).length (segsL (runF l l.length).fst)))), ()) else none else none else none else none else none := by kernel_rfl

theorem foldl_val (l : List ractT.den) : evFn (env consL1) H.fold2 (LPof [(8, sf8LC), (16, sf16LC), (33, sf33LC)]) F.cooperagelaw15_SegsFold [.vl ractT l] [] (finT [.bool]) = some (true, ()) := by
  rw [fold_ev]
  cases hb : bigAct l with
  | true => rfl
  | false =>
    unfold bigAct at hb
    rw [Bool.or_eq_false_iff, Bool.or_eq_false_iff] at hb
    obtain ⟨b1, b2, b3⟩ := hb
    have hl : l.length ≤ 40 := by
      have := of_decide_eq_false b2
      omega
    obtain ⟨h1, h2⟩ := runF_inv hl b1 l.length (Nat.le_refl _)
    obtain ⟨o1, o2, o3, o4, o5, o6, o7, o8⟩ := okB_iff.1 h1.ok
    have hlen := h1.len
    have e0 : decide (l.length ≤ 40) = true := decide_eq_true hl
    have e1 : decide ((runF l l.length).1.1.length ≤ 1000000000) = true := decide_eq_true (by omega)
    have e2 : smallL (runF l l.length).1.1 = true := by unfold smallL; rw [e1, o8]; rfl
    have e3 : decide ((runF l l.length).1.2.2.2.2.length ≤ 1000000000) = true := decide_eq_true (by omega)
    have e4 : decide ((segsL (runF l l.length).1).length ≤ 1000000000) = true := decide_eq_true (by rw [segsL_len]; omega)
    have e5 : decide ((catG (segsL (runF l l.length).1)).length ≤ 1000000) = true := decide_eq_true (by omega)
    have e6 : decide ((runF l l.length).2.length ≤ 1000000) = true := decide_eq_true (by omega)
    have e7 : mapM (runF l l.length).2 = mapM (catG (segsL (runF l l.length).1)) := mapM_eq fun k => (h1.last k).symm
    rw [b1, e0, e2, e3, e4, List.take_length, e5, e6, e7]
    simp only [Bool.not_false, Bool.and_self, cond_true, cond_false, decide_true]
def caseFoldL : PCase := ⟨[.ty (.sl ractT)], [.bool], fun x => [(true, (true, ()))]⟩
theorem foldl_ok : caseFoldL.ok P0 I.cooperagelaw15_SegsFold := case_ok2 (H := H.fold2) (E := env consL1) (env_ok consL1_ok) glob0 mixed0 G.cooperagelaw15_SegsFold Bd.cooperagelaw15_SegsFold (by kernel_rfl) (loops_good (tab := [(8, sf8LC), (16, sf16LC), (33, sf33LC)]) (by kernel_rfl) (fun x hx => by simp at hx; rcases hx with rfl | rfl | rfl; exact sf8_lok; exact sf16_lok; exact sf33_lok)) fun ⟨l, ()⟩ y h hw => by
  obtain ⟨hc, rfl⟩ := pick_pre h
  exact foldl_val l
theorem fold_good (x : tysDen [.sl ractT]) (hw : tysWf [.sl ractT] x) : ∃ o, EffGood P0 I.cooperagelaw15_SegsFold (valsOf [.sl ractT] x) [] (.bool true) o := foldl_ok x (true, ()) rfl hw
end Go.Sim
