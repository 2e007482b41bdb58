/-
  WkU7: the law SegsSeals. · WkR1: slices.Replace over segments as they are. · WkR2: slices.Replace over a log's segments. · WkR3: rows of records put together. · WkU8: walks for SegsOf: what may be a log's segments. · WkU9: walks for SegsOf: Of, RightLog, SameSegments. · WkUA: the law SegsOf.
-/
import Derived.Test.YtjjikahgiffpbaaPartE
namespace Go.Sim
set_option linter.unusedSimpArgs false
set_option linter.unusedVariables false
set_option maxRecDepth 10000
def caseAll : VCase := ⟨[.lit (.hw 0)], rowP, .vl segT, rowP, fun _ ⟨⟨f, ⟨b, n, _, _, _, _, _, _, z, _, _⟩, _⟩, rs, _⟩ => [(smallL f && decide (List.length rs ≤ 1000000000), (segsL (f, b, n, z, rs), (f, (b, n, (), (), (), (), (), (), z, (), ()), ()), rs, ()))]⟩
theorem all_ok : caseAll.e.ok P0 I.segs_all := vcase_ok (c := caseAll) (H := H.segs_all) (E := env consC2) (env_ok consC2_ok) glob0 mixed0 G.segs_all Bd.segs_all (by kernel_rfl) (loops_good (tab := [(3, alLC)]) (by kernel_rfl) (fun x hx => by simp at hx; subst hx; exact al_lok)) fun _ ⟨⟨f, ⟨b, n, _, _, _, _, _, _, z, _, _⟩, _⟩, rs, _⟩ r h hw1 hw2 => by
  obtain ⟨hc, rfl⟩ := pick_pre h
  simp only [Bool.and_eq_true] at hc
  refine (all_ev f b n z rs).trans ?_
  have e : List.take (List.length f + 1) (segsL (f, b, n, z, rs)) = segsL (f, b, n, z, rs) := List.take_of_length_le (by rw [segsL_len]; exact Nat.le_refl _)
  rw [hc.1, hc.2, e]
  simp only [decide_true, Bool.and_self, cond_true]
  rfl
def caseAllv : PCase := ⟨[.ty (.sl segT)], [.sl segT], fun x => (fun (l : List Seg) => [(smallL l, (l, ()))]) x.1⟩
theorem allv_val (l : List Seg) (hc : (smallL l) = true) : evFn (env consC2) H.segs_all (LPof [(3, avLC)]) F.segs_all [.vl segT l] [] (finT [.sl segT]) = some (l, ()) := by
  rw [allv_ev, hc]
  simp only [decide_true, Bool.and_self, cond_true, List.take_length]
theorem allv_ok : caseAllv.ok P0 I.segs_all := case_ok2 (H := H.segs_all) (E := env consC2) (env_ok consC2_ok) glob0 mixed0 G.segs_all Bd.segs_all (by kernel_rfl) (loops_good (tab := [(3, avLC)]) (by kernel_rfl) (fun x hx => by simp at hx; subst hx; exact av_lok)) fun ⟨l, ()⟩ y h hw => by
  obtain ⟨hc, rfl⟩ := pick_pre h
  exact allv_val l hc
noncomputable abbrev consD1 : List (FuncId × Con) := [(I.segs_all, .eff (effOf [caseAll.e]))]
theorem consD1_ok : ∀ x ∈ consD1, HoldsC P0 x.1 x.2 := by
  intro x hx
  simp at hx
  subst hx
  exact ⟨fun args objs r objs2 h _ => effOf_holds (by simp; exact all_ok) args objs r objs2 h, C.segs_all⟩
theorem segments_ev (f : List Seg) (b n z : Int) (rs : List Rec) : evFn (env consD1) H.segs_Log_Segments (LPof []) F.segs_Log_Segments [.ptr 0 (.tl 0) 0] [.arr 1 .bool [] [[.hw 1]], .arr 10 segT f [actC b n z], .log recT rs] (finV (.vl segT) logP 3) = bif smallL f && decide (rs.length ≤ 1000000000) then some (segsL (f, b, n, z, rs), (((), ()), ()), (f, (b, n, (), (), (), (), (), (), z, (), ()), ()), rs, ()) else none := by kernel_rfl

def caseSegments : VCase := ⟨[.lit (.ptr 0 (.tl 0) 0)], logP, .vl segT, logP, fun _ ⟨_, ⟨f, ⟨b, n, _, _, _, _, _, _, z, _, _⟩, _⟩, rs, _⟩ => [(smallL f && decide (List.length rs ≤ 1000000000), (segsL (f, b, n, z, rs), ((((), ()), ()), (f, (b, n, (), (), (), (), (), (), z, (), ()), ()), rs, ())))]⟩
theorem segments_ok : caseSegments.e.ok P0 I.segs_Log_Segments := vcase_ok (c := caseSegments) (H := H.segs_Log_Segments) (E := env consD1) (env_ok consD1_ok) glob0 mixed0 G.segs_Log_Segments Bd.segs_Log_Segments (by kernel_rfl) noLoops fun _ ⟨_, ⟨f, ⟨b, n, _, _, _, _, _, _, z, _, _⟩, _⟩, rs, _⟩ r h hw1 hw2 => by
  obtain ⟨hc, rfl⟩ := pick_pre h
  refine (segments_ev f b n z rs).trans ?_
  have hc : (smallL f && decide (List.length rs ≤ 1000000000)) = true := hc
  rw [hc]
  rfl
noncomputable abbrev consD2 : List (FuncId × Con) := [(I.segs_Log_Segments, .eff (effOf [caseSegments.e])), (I.segs_Log_Append, .eff (effOf [caseAppend.e]))] ++ consS2
theorem consD2_ok : ∀ x ∈ consD2, HoldsC P0 x.1 x.2 := by
  intro x hx
  rcases List.mem_append.1 hx with hx | hx
  · simp at hx
    rcases hx with rfl | rfl
    · exact ⟨fun args objs r objs2 h _ => effOf_holds (by simp; exact segments_ok) args objs r objs2 h, C.segs_Log_Segments⟩
    · exact ⟨fun args objs r objs2 h _ => effOf_holds (by simp; exact append_ok) args objs r objs2 h, C.segs_Log_Append⟩
  · exact consS2_ok x hx
def H.al15 : Hint := { H.cooperagelaw15_alive with join := [] }
theorem alive15_ev : evFn (env consD2) H.al15 (LPof []) F.cooperagelaw15_alive [] [] (finT [.bool]) = some (true, ()) := by kernel_rfl

def caseAlive15 : PCase := ⟨[], [.bool], fun _ => [(true, (true, ()))]⟩
theorem alive15_ok : caseAlive15.ok P0 I.cooperagelaw15_alive := case_ok2 (H := H.al15) (E := env consD2) (env_ok consD2_ok) glob0 mixed0 G.cooperagelaw15_alive Bd.cooperagelaw15_alive (by kernel_rfl) noLoops fun x y h hw => by
  obtain ⟨hc, rfl⟩ := pick_pre h
  exact alive15_ev
noncomputable abbrev consD3 : List (FuncId × Con) := [(I.cooperagelaw15_alive, .pure (pureOf [caseAlive15]))] ++ consD2
theorem consD3_ok : ∀ x ∈ consD3, HoldsC P0 x.1 x.2 := by
  intro x hx
  rcases List.mem_append.1 hx with hx | hx
  · simp at hx
    subst hx
    exact ⟨pureOf_holds (by simp; exact alive15_ok), C.cooperagelaw15_alive⟩
  · exact consD2_ok x hx
def H.seals2 : Hint := { H.cooperagelaw15_SegsSeals with join := [(2, 40), (14, 73), (19, 116), (24, 158)] }
theorem ssi_rd {R : Type} (n most every : Int) (q : Bool) (bs i k : Int) (l : List Seg) (f : List Seg) (b m z : Int) (rs : List Rec) (K : Ex → St → Option R) : roundK (env consD3) H.seals2 0 (LPof []) V.cooperagelaw15_SegsSeals_22 L.cooperagelaw15_SegsSeals_22 ⟨[(0, .int .i64 n), (1, .int .i64 most), (2, .int .i64 every), (6, .bool q), (8, .ptr 0 (.tl 0) 0), (9, .int .i64 bs), (10, .int .i64 i), (12, .vl segT l), (13, .int .i64 k)], [(0, .arr 1 .bool [] [[.hw 1]]), (1, .arr 10 segT f [actC b m z]), (2, .log recT rs)], 3⟩ K = bif decide (IntKind.i64.wrap (k + (1 : Int)) < (↑l.length : Int)) then Option.bind (bif decide ((0 : Int) ≤ k) && decide (k < (↑l.length : Int)) then bif !(l.getD k.toNat segTy.zero).snd.snd.snd.snd.snd.fst then some true else bif decide ((0 : Int) ≤ k) && decide (k < (↑l.length : Int)) then bif decide ((0 : Int) ≤ k) && decide (k < (↑l.length : Int)) then bif decide (IntKind.i64.wrap ((l.getD k.toNat segTy.zero).snd.fst - (l.getD k.toNat segTy.zero).fst) > most) then some true else bif decide ((0 : Int) ≤ k) && decide (k < (↑l.length : Int)) then bif decide ((0 : Int) ≤ k) && decide (k < (↑l.length : Int)) then some ((l.getD k.toNat segTy.zero).snd.snd.fst != IntKind.i64.wrap ((l.getD k.toNat segTy.zero).snd.fst - (1 : Int))) else none else none else none else none else none) fun v => bif v then K Ex.ret { slots := [(0, AV.int IntKind.i64 n), (1, AV.int IntKind.i64 most), (2, AV.int IntKind.i64 every), (6, AV.bool false), (8, AV.ptr 0 (Elt.tl 0) 0), (9, AV.int IntKind.i64 bs), (10, AV.int IntKind.i64 i), (12, AV.vl segTy l), (13, AV.int IntKind.i64 k)], objs := [(0, AObj.arr 1 Ty.bool [] [[AV.hw 1]]), (1, AObj.arr 10 segTy f [[AV.int IntKind.i64 b, AV.int IntKind.i64 m, AV.int IntKind.i64 (0 : Int), AV.int IntKind.i64 (0 : Int), AV.hw 2, AV.bool false, AV.bool false, AV.bool false, AV.int IntKind.i64 z, AV.int IntKind.u32 (0 : Int)]]), (2, AObj.log recTy rs)], nx := 3 } else K Ex.normal { slots := [(0, AV.int IntKind.i64 n), (1, AV.int IntKind.i64 most), (2, AV.int IntKind.i64 every), (6, AV.bool q), (8, AV.ptr 0 (Elt.tl 0) 0), (9, AV.int IntKind.i64 bs), (10, AV.int IntKind.i64 i), (12, AV.vl segTy l), (13, AV.int IntKind.i64 (IntKind.i64.wrap (k + (1 : Int))))], objs := [(0, AObj.arr 1 Ty.bool [] [[AV.hw 1]]), (1, AObj.arr 10 segTy f [[AV.int IntKind.i64 b, AV.int IntKind.i64 m, AV.int IntKind.i64 (0 : Int), AV.int IntKind.i64 (0 : Int), AV.hw 2, AV.bool false, AV.bool false, AV.bool false, AV.int IntKind.i64 z, AV.int IntKind.u32 (0 : Int)]]), (2, AObj.log recTy rs)], nx := 3 } else K (Ex.exit 2) { slots := [(0, AV.int IntKind.i64 n), (1, AV.int IntKind.i64 most), (2, AV.int IntKind.i64 every), (6, AV.bool q), (8, AV.ptr 0 (Elt.tl 0) 0), (9, AV.int IntKind.i64 bs), (10, AV.int IntKind.i64 i), (12, AV.vl segTy l), (13, AV.int IntKind.i64 k)], objs := [(0, AObj.arr 1 Ty.bool [] [[AV.hw 1]]), (1, AObj.arr 10 segTy f [[AV.int IntKind.i64 b, AV.int IntKind.i64 m, AV.int IntKind.i64 (0 : Int), AV.int IntKind.i64 (0 : Int), AV.hw 2, AV.bool false, AV.bool false, AV.bool false, AV.int IntKind.i64 z, AV.int IntKind.u32 (0 : Int)]]), (2, AObj.log recTy rs)], nx := 3 } := by kernel_rfl

def badSS (most : Int) (l : List Seg) (k : Nat) : Bool := bif !(l.getD k segTy.zero).2.2.2.2.2.1 then true else bif decide (IntKind.i64.wrap ((l.getD k segTy.zero).2.1 - (l.getD k segTy.zero).1) > most) then true else (l.getD k segTy.zero).2.2.1 != IntKind.i64.wrap ((l.getD k segTy.zero).2.1 - 1)
def siSt (n most every : Int) (q : Bool) (bs i : Int) (l : List Seg) (L : LogS) (k : Nat) : St := ⟨[(0, .int .i64 n), (1, .int .i64 most), (2, .int .i64 every), (6, .bool q), (8, .ptr 0 (.tl 0) 0), (9, .int .i64 bs), (10, .int .i64 i), (12, .vl segT l), (13, .int .i64 k)], logO L, 3⟩
abbrev siLC : LoopC := LoopC.of ⟨[(0, .int .i64), (1, .int .i64), (2, .int .i64), (6, .bool), (8, .lit (.ptr 0 (.tl 0) 0)), (9, .int .i64), (10, .int .i64), (12, .vl segT), (13, .int .i64)], logP⟩
  (fun ⟨⟨n, most, every, q, _, bs, i, l, k, _⟩, ⟨_, ⟨f, ⟨b, m, _, _, _, _, _, _, z, _, _⟩, _⟩, rs, _⟩⟩ => decide (k = (0 : Int)))
  fun ⟨⟨n, most, every, q, _, bs, i, l, k, _⟩, ⟨_, ⟨f, ⟨b, m, _, _, _, _, _, _, z, _, _⟩, _⟩, rs, _⟩⟩ =>
    [((firstFrom (badSS most l) 0 (List.length l - 1)).isSome, .ret, siSt n most every false bs i l (f, b, m, z, rs) ((firstFrom (badSS most l) 0 (List.length l - 1)).getD 0)), (true, .exit 2, siSt n most every q bs i l (f, b, m, z, rs) (List.length l - 1))]
theorem si_lok : LoopOK P0 H.seals2 0 L.cooperagelaw15_SegsSeals_22 siLC :=
  loop_ok_of (env_ok consD3_ok) glob0 mixed0 noLoops V.cooperagelaw15_SegsSeals_22 (by decide) fun ⟨⟨n, most, every, q, _, bs, i, l, k, _⟩, ⟨_, ⟨f, ⟨b, m, _, _, _, _, _, _, z, _, _⟩, _⟩, rs, _⟩⟩ h hw => by
    obtain rfl := of_decide_eq_true h
    have hm : List.length l ≤ maxL := hw.1.2.2.2.2.2.2.2.1.1
    unfold maxL at hm
    refine ⟨_, Eq.trans (search_rounds (S := siSt n most every q bs i l (f, b, m, z, rs)) (T := siSt n most every false bs i l (f, b, m, z, rs)) (p := badSS most l) (n := List.length l - 1) (e1 := .ret) (e2 := .exit 2) (s2 := siSt n most every q bs i l (f, b, m, z, rs) (List.length l - 1)) (by simp) (by simp) (fun k hk K => ?_) (fun K => ?_) _ (List.length l - 1) 0 (by omega)) search_pick⟩
    · refine (ssi_rd _ _ _ _ _ _ _ _ _ _ _ _ _ _).trans ?_
      have e3 : IntKind.i64.wrap ((k : Int) + 1) = ((k + 1 : Nat) : Int) := by rw [wrap64 (by omega) (by omega)]; omega
      have c2 : (decide ((0 : Int) ≤ (k : Int)) && decide ((k : Int) < (List.length l : Int))) = true := by simp; omega
      have e : ∀ (a b c : Bool), (bif a then some true else bif b then some true else some c) = some (bif a then true else bif b then true else c) := fun a b c => by cases a <;> cases b <;> rfl
      rw [e3, cond_pos (by omega), c2, cond_true, cond_true, cond_true, cond_true, cond_true, Int.toNat_natCast, e, Option.bind_some]
      rfl
    · refine (ssi_rd _ _ _ _ _ _ _ _ _ _ _ _ _ _).trans ?_
      rw [wrap64 (by omega) (by omega), cond_neg (by omega)]
      rfl
theorem ss_rd {R : Type} (n most every : Int) (q : Bool) (bs i : Int) (f : List Seg) (b m z : Int) (rs : List Rec) (K : Ex → St → Option R) : roundK (env consD3) H.seals2 0 (LPof [(22, siLC)]) V.cooperagelaw15_SegsSeals_7 L.cooperagelaw15_SegsSeals_7 ⟨[(0, .int .i64 n), (1, .int .i64 most), (2, .int .i64 every), (6, .bool q), (8, .ptr 0 (.tl 0) 0), (9, .int .i64 bs), (10, .int .i64 i)], [(0, .arr 1 .bool [] [[.hw 1]]), (1, .arr 10 segT f [actC b m z]), (2, .log recT rs)], 3⟩ K = bif decide (i < n) then bif okB 500000000 (f, b, m, z, rs) then bif m != i then K Ex.ret { slots := [(0, AV.int IntKind.i64 n), (1, AV.int IntKind.i64 most), (2, AV.int IntKind.i64 every), (6, AV.bool false), (8, AV.ptr 0 (Elt.tl 0) 0), (9, AV.int IntKind.i64 bs), (10, AV.int IntKind.i64 i)], objs := [(0, AObj.arr 1 Ty.bool [] [[AV.hw 1]]), (1, AObj.arr 10 segTy (apL most [((0 : Int), i, [(107 : UInt8)], [], false)] (f, b, m, z, rs) 1).fst [[AV.int IntKind.i64 (apL most [((0 : Int), i, [(107 : UInt8)], [], false)] (f, b, m, z, rs) 1).snd.fst, AV.int IntKind.i64 (apL most [((0 : Int), i, [(107 : UInt8)], [], false)] (f, b, m, z, rs) 1).snd.snd.fst, AV.int IntKind.i64 (0 : Int), AV.int IntKind.i64 (0 : Int), AV.hw 2, AV.bool false, AV.bool false, AV.bool false, AV.int IntKind.i64 (apL most [((0 : Int), i, [(107 : UInt8)], [], false)] (f, b, m, z, rs) 1).snd.snd.snd.fst, AV.int IntKind.u32 (0 : Int)]]), (2, AObj.log recTy (apL most [((0 : Int), i, [(107 : UInt8)], [], false)] (f, b, m, z, rs) 1).snd.snd.snd.snd)], nx := 3 } else bif IntKind.i64.wrap (IntKind.i64.wrap (i + (1 : Int)) - bs) == most then Option.bind (bif decide (every > (0 : Int)) then bif decide (every = (0 : Int)) then none else some ((IntKind.i64.wrap (i + (1 : Int))).tmod every == (0 : Int)) else some false) fun v => bif v then bif decide ((apL most [((0 : Int), i, [(107 : UInt8)], [], false)] (f, b, m, z, rs) 1).fst.length ≤ 1000000000) then bif decide ((sealP (apL most [((0 : Int), i, [(107 : UInt8)], [], false)] (f, b, m, z, rs) 1)).fst.length ≤ 1000000000) then bif smallL (sealP (sealP (apL most [((0 : Int), i, [(107 : UInt8)], [], false)] (f, b, m, z, rs) 1))).fst && decide ((sealP (sealP (apL most [((0 : Int), i, [(107 : UInt8)], [], false)] (f, b, m, z, rs) 1))).snd.snd.snd.snd.length ≤ 1000000000) then Option.bind (bif (↑(segsL (sealP (sealP (apL most [((0 : Int), i, [(107 : UInt8)], [], false)] (f, b, m, z, rs) 1)))).length : Int) == (0 : Int) then some true else bif decide ((0 : Int) ≤ IntKind.i64.wrap ((↑(segsL (sealP (sealP (apL most [((0 : Int), i, [(107 : UInt8)], [], false)] (f, b, m, z, rs) 1)))).length : Int) - (1 : Int))) && decide (IntKind.i64.wrap ((↑(segsL (sealP (sealP (apL most [((0 : Int), i, [(107 : UInt8)], [], false)] (f, b, m, z, rs) 1)))).length : Int) - (1 : Int)) < (↑(segsL (sealP (sealP (apL most [((0 : Int), i, [(107 : UInt8)], [], false)] (f, b, m, z, rs) 1)))).length : Int)) then bif ((segsL (sealP (sealP (apL most [((0 : Int), i, [(107 : UInt8)], [], false)] (f, b, m, z, rs) 1)))).getD (IntKind.i64.wrap ((↑(segsL (sealP (sealP (apL most [((0 : Int), i, [(107 : UInt8)], [], false)] (f, b, m, z, rs) 1)))).length : Int) - (1 : Int))).toNat segTy.zero).fst != IntKind.i64.wrap (i + (1 : Int)) then some true else bif decide ((0 : Int) ≤ IntKind.i64.wrap ((↑(segsL (sealP (sealP (apL most [((0 : Int), i, [(107 : UInt8)], [], false)] (f, b, m, z, rs) 1)))).length : Int) - (1 : Int))) && decide (IntKind.i64.wrap ((↑(segsL (sealP (sealP (apL most [((0 : Int), i, [(107 : UInt8)], [], false)] (f, b, m, z, rs) 1)))).length : Int) - (1 : Int)) < (↑(segsL (sealP (sealP (apL most [((0 : Int), i, [(107 : UInt8)], [], false)] (f, b, m, z, rs) 1)))).length : Int)) then bif ((segsL (sealP (sealP (apL most [((0 : Int), i, [(107 : UInt8)], [], false)] (f, b, m, z, rs) 1)))).getD (IntKind.i64.wrap ((↑(segsL (sealP (sealP (apL most [((0 : Int), i, [(107 : UInt8)], [], false)] (f, b, m, z, rs) 1)))).length : Int) - (1 : Int))).toNat segTy.zero).snd.fst != IntKind.i64.wrap (i + (1 : Int)) then some true else bif decide ((0 : Int) ≤ IntKind.i64.wrap ((↑(segsL (sealP (sealP (apL most [((0 : Int), i, [(107 : UInt8)], [], false)] (f, b, m, z, rs) 1)))).length : Int) - (1 : Int))) && decide (IntKind.i64.wrap ((↑(segsL (sealP (sealP (apL most [((0 : Int), i, [(107 : UInt8)], [], false)] (f, b, m, z, rs) 1)))).length : Int) - (1 : Int)) < (↑(segsL (sealP (sealP (apL most [((0 : Int), i, [(107 : UInt8)], [], false)] (f, b, m, z, rs) 1)))).length : Int)) then some ((segsL (sealP (sealP (apL most [((0 : Int), i, [(107 : UInt8)], [], false)] (f, b, m, z, rs) 1)))).getD (IntKind.i64.wrap ((↑(segsL (sealP (sealP (apL most [((0 : Int), i, [(107 : UInt8)], [], false)] (f, b, m, z, rs) 1)))).length : Int) - (1 : Int))).toNat segTy.zero).snd.snd.snd.snd.snd.fst else none else none else none) fun v => bif v then K Ex.ret { slots := [(0, AV.int IntKind.i64 n), (1, AV.int IntKind.i64 most), (2, AV.int IntKind.i64 every), (6, AV.bool false), (8, AV.ptr 0 (Elt.tl 0) 0), (9, AV.int IntKind.i64 (IntKind.i64.wrap (i + (1 : Int)))), (10, AV.int IntKind.i64 i)], objs := [(0, AObj.arr 1 Ty.bool [] [[AV.hw 1]]), (1, AObj.arr 10 segTy (sealP (sealP (apL most [((0 : Int), i, [(107 : UInt8)], [], false)] (f, b, m, z, rs) 1))).fst [[AV.int IntKind.i64 (sealP (sealP (apL most [((0 : Int), i, [(107 : UInt8)], [], false)] (f, b, m, z, rs) 1))).snd.fst, AV.int IntKind.i64 (sealP (sealP (apL most [((0 : Int), i, [(107 : UInt8)], [], false)] (f, b, m, z, rs) 1))).snd.snd.fst, AV.int IntKind.i64 (0 : Int), AV.int IntKind.i64 (0 : Int), AV.hw 2, AV.bool false, AV.bool false, AV.bool false, AV.int IntKind.i64 (sealP (sealP (apL most [((0 : Int), i, [(107 : UInt8)], [], false)] (f, b, m, z, rs) 1))).snd.snd.snd.fst, AV.int IntKind.u32 (0 : Int)]]), (2, AObj.log recTy (sealP (sealP (apL most [((0 : Int), i, [(107 : UInt8)], [], false)] (f, b, m, z, rs) 1))).snd.snd.snd.snd)], nx := 3 } else bif (firstFrom (badSS most (segsL (sealP (sealP (apL most [((0 : Int), i, [(107 : UInt8)], [], false)] (f, b, m, z, rs) 1))))) 0 ((segsL (sealP (sealP (apL most [((0 : Int), i, [(107 : UInt8)], [], false)] (f, b, m, z, rs) 1)))).length - 1)).isSome then K Ex.ret { slots := [(0, AV.int IntKind.i64 n), (1, AV.int IntKind.i64 most), (2, AV.int IntKind.i64 every), (6, AV.bool false), (8, AV.ptr 0 (Elt.tl 0) 0), (9, AV.int IntKind.i64 (IntKind.i64.wrap (i + (1 : Int)))), (10, AV.int IntKind.i64 i)], objs := [(0, AObj.arr 1 Ty.bool [] [[AV.hw 1]]), (1, AObj.arr 10 segTy (sealP (sealP (apL most [((0 : Int), i, [(107 : UInt8)], [], false)] (f, b, m, z, rs) 1))).fst [[AV.int IntKind.i64 (sealP (sealP (apL most [((0 : Int), i, [(107 : UInt8)], [], false)] (f, b, m, z, rs) 1))).snd.fst, AV.int IntKind.i64 (sealP (sealP (apL most [((0 : Int), i, [(107 : UInt8)], [], false)] (f, b, m, z, rs) 1))).snd.snd.fst, AV.int IntKind.i64 (0 : Int), AV.int IntKind.i64 (0 : Int), AV.hw 2, AV.bool false, AV.bool false, AV.bool false, AV.int IntKind.i64 (sealP (sealP (apL most [((0 : Int), i, [(107 : UInt8)], [], false)] (f, b, m, z, rs) 1))).snd.snd.snd.fst, AV.int IntKind.u32 (0 : Int)]]), (2, AObj.log recTy (sealP (sealP (apL most [((0 : Int), i, [(107 : UInt8)], [], false)] (f, b, m, z, rs) 1))).snd.snd.snd.snd)], nx := 3 } else K Ex.normal { slots := [(0, AV.int IntKind.i64 n), (1, AV.int IntKind.i64 most), (2, AV.int IntKind.i64 every), (6, AV.bool q), (8, AV.ptr 0 (Elt.tl 0) 0), (9, AV.int IntKind.i64 (IntKind.i64.wrap (i + (1 : Int)))), (10, AV.int IntKind.i64 (IntKind.i64.wrap (i + (1 : Int))))], objs := [(0, AObj.arr 1 Ty.bool [] [[AV.hw 1]]), (1, AObj.arr 10 segTy (sealP (sealP (apL most [((0 : Int), i, [(107 : UInt8)], [], false)] (f, b, m, z, rs) 1))).fst [[AV.int IntKind.i64 (sealP (sealP (apL most [((0 : Int), i, [(107 : UInt8)], [], false)] (f, b, m, z, rs) 1))).snd.fst, AV.int IntKind.i64 (sealP (sealP (apL most [((0 : Int), i, [(107 : UInt8)], [], false)] (f, b, m, z, rs) 1))).snd.snd.fst, AV.int IntKind.i64 (0 : Int), AV.int IntKind.i64 (0 : Int), AV.hw 2, AV.bool false, AV.bool false, AV.bool false, AV.int IntKind.i64 (sealP (sealP (apL most [((0 : Int), i, [(107 : UInt8)], [], false)] (f, b, m, z, rs) 1))).snd.snd.snd.fst, AV.int IntKind.u32 (0 : Int)]]), (2, AObj.log recTy (sealP (sealP (apL most [((0 : Int), i, [(107 : UInt8)], [], false)] (f, b, m, z, rs) 1))).snd.snd.snd.snd)], nx := 3 } else none else none else none else bif smallL (apL most [((0 : Int), i, [(107 : UInt8)], [], false)] (f, b, m, z, rs) 1).fst && decide ((apL most [((0 : Int), i, [(107 : UInt8)], [], false)] (f, b, m, z, rs) 1).snd.snd.snd.snd.length ≤ 1000000000) then Option.bind (bif (↑(segsL (apL most [((0 : Int), i, [(107 : UInt8)], [], false)] (f, b, m, z, rs) 1)).length : Int) == (0 : Int) then some true else bif decide ((0 : Int) ≤ IntKind.i64.wrap ((↑(segsL (apL most [((0 : Int), i, [(107 : UInt8)], [], false)] (f, b, m, z, rs) 1)).length : Int) - (1 : Int))) && decide (IntKind.i64.wrap ((↑(segsL (apL most [((0 : Int), i, [(107 : UInt8)], [], false)] (f, b, m, z, rs) 1)).length : Int) - (1 : Int)) < (↑(segsL (apL most [((0 : Int), i, [(107 : UInt8)], [], false)] (f, b, m, z, rs) 1)).length : Int)) then bif ((segsL (apL most [((0 : Int), i, [(107 : UInt8)], [], false)] (f, b, m, z, rs) 1)).getD (IntKind.i64.wrap ((↑(segsL (apL most [((0 : Int), i, [(107 : UInt8)], [], false)] (f, b, m, z, rs) 1)).length : Int) - (1 : Int))).toNat segTy.zero).fst != IntKind.i64.wrap (i + (1 : Int)) then some true else bif decide ((0 : Int) ≤ IntKind.i64.wrap ((↑(segsL (apL most [((0 : Int), i, [(107 : UInt8)], [], false)] (f, b, m, z, rs) 1)).length : Int) - (1 : Int))) && decide (IntKind.i64.wrap ((↑(segsL (apL most [((0 : Int), i, [(107 : UInt8)], [], false)] (f, b, m, z, rs) 1)).length : Int) - (1 : Int)) < (↑(segsL (apL most [((0 : Int), i, [(107 : UInt8)], [], false)] (f, b, m, z, rs) 1)).length : Int)) then bif ((segsL (apL most [((0 : Int), i, [(107 : UInt8)], [], false)] (f, b, m, z, rs) 1)).getD (IntKind.i64.wrap ((↑(segsL (apL most [((0 : Int), i, [(107 : UInt8)], [], false)] (f, b, m, z, rs) 1)).length : Int) - (1 : Int))).toNat segTy.zero).snd.fst != IntKind.i64.wrap (i + (1 : Int)) then some true else bif decide ((0 : Int) ≤ IntKind.i64.wrap ((↑(segsL (apL most [((0 : Int), i, [(107 : UInt8)], [], false)] (f, b, m, z, rs) 1)).length : Int) - (1 : Int))) && decide (IntKind.i64.wrap ((↑(segsL (apL most [((0 : Int), i, [(107 : UInt8)], [], false)] (f, b, m, z, rs) 1)).length : Int) - (1 : Int)) < (↑(segsL (apL most [((0 : Int), i, [(107 : UInt8)], [], false)] (f, b, m, z, rs) 1)).length : Int)) then some ((segsL (apL most [((0 : Int), i, [(107 : UInt8)], [], false)] (f, b, m, z, rs) 1)).getD (IntKind.i64.wrap ((↑(segsL (apL most [((0 : Int), i, [(107 : UInt8)], [], false)] (f, b, m, z, rs) 1)).length : Int) - (1 : Int))).toNat segTy.zero).snd.snd.snd.snd.snd.fst else none else none else none) fun v => bif v then K Ex.ret { slots := [(0, AV.int IntKind.i64 n), (1, AV.int IntKind.i64 most), (2, AV.int IntKind.i64 every), (6, AV.bool false), (8, AV.ptr 0 (Elt.tl 0) 0), (9, AV.int IntKind.i64 (IntKind.i64.wrap (i + (1 : Int)))), (10, AV.int IntKind.i64 i)], objs := [(0, AObj.arr 1 Ty.bool [] [[AV.hw 1]]), (1, AObj.arr 10 segTy (apL most [((0 : Int), i, [(107 : UInt8)], [], false)] (f, b, m, z, rs) 1).fst [[AV.int IntKind.i64 (apL most [((0 : Int), i, [(107 : UInt8)], [], false)] (f, b, m, z, rs) 1).snd.fst, AV.int IntKind.i64 (apL most [((0 : Int), i, [(107 : UInt8)], [], false)] (f, b, m, z, rs) 1).snd.snd.fst, AV.int IntKind.i64 (0 : Int), AV.int IntKind.i64 (0 : Int), AV.hw 2, AV.bool false, AV.bool false, AV.bool false, AV.int IntKind.i64 (apL most [((0 : Int), i, [(107 : UInt8)], [], false)] (f, b, m, z, rs) 1).snd.snd.snd.fst, AV.int IntKind.u32 (0 : Int)]]), (2, AObj.log recTy (apL most [((0 : Int), i, [(107 : UInt8)], [], false)] (f, b, m, z, rs) 1).snd.snd.snd.snd)], nx := 3 } else bif (firstFrom (badSS most (segsL (apL most [((0 : Int), i, [(107 : UInt8)], [], false)] (f, b, m, z, rs) 1))) 0 ((segsL (apL most [((0 : Int), i, [(107 : UInt8)], [], false)] (f, b, m, z, rs) 1)).length - 1)).isSome then K Ex.ret { slots := [(0, AV.int IntKind.i64 n), (1, AV.int IntKind.i64 most), (2, AV.int IntKind.i64 every), (6, AV.bool false), (8, AV.ptr 0 (Elt.tl 0) 0), (9, AV.int IntKind.i64 (IntKind.i64.wrap (i + (1 : Int)))), (10, AV.int IntKind.i64 i)], objs := [(0, AObj.arr 1 Ty.bool [] [[AV.hw 1]]), (1, AObj.arr 10 segTy (apL most [((0 : Int), i, [(107 : UInt8)], [], false)] (f, b, m, z, rs) 1).fst [[AV.int IntKind.i64 (apL most [((0 : Int), i, [(107 : UInt8)], [], false)] (f, b, m, z, rs) 1).snd.fst, AV.int IntKind.i64 (apL most [((0 : Int), i, [(107 : UInt8)], [], false)] (f, b, m, z, rs) 1).snd.snd.fst, AV.int IntKind.i64 (0 : Int), AV.int IntKind.i64 (0 : Int), AV.hw 2, AV.bool false, AV.bool false, AV.bool false, AV.int IntKind.i64 (apL most [((0 : Int), i, [(107 : UInt8)], [], false)] (f, b, m, z, rs) 1).snd.snd.snd.fst, AV.int IntKind.u32 (0 : Int)]]), (2, AObj.log recTy (apL most [((0 : Int), i, [(107 : UInt8)], [], false)] (f, b, m, z, rs) 1).snd.snd.snd.snd)], nx := 3 } else K Ex.normal { slots := [(0, AV.int IntKind.i64 n), (1, AV.int IntKind.i64 most), (2, AV.int IntKind.i64 every), (6, AV.bool q), (8, AV.ptr 0 (Elt.tl 0) 0), (9, AV.int IntKind.i64 (IntKind.i64.wrap (i + (1 : Int)))), (10, AV.int IntKind.i64 (IntKind.i64.wrap (i + (1 : Int))))], objs := [(0, AObj.arr 1 Ty.bool [] [[AV.hw 1]]), (1, AObj.arr 10 segTy (apL most [((0 : Int), i, [(107 : UInt8)], [], false)] (f, b, m, z, rs) 1).fst [[AV.int IntKind.i64 (apL most [((0 : Int), i, [(107 : UInt8)], [], false)] (f, b, m, z, rs) 1).snd.fst, AV.int IntKind.i64 (apL most [((0 : Int), i, [(107 : UInt8)], [], false)] (f, b, m, z, rs) 1).snd.snd.fst, AV.int IntKind.i64 (0 : Int), AV.int IntKind.i64 (0 : Int), AV.hw 2, AV.bool false, AV.bool false, AV.bool false, AV.int IntKind.i64 (apL most [((0 : Int), i, [(107 : UInt8)], [], false)] (f, b, m, z, rs) 1).snd.snd.snd.fst, AV.int IntKind.u32 (0 : Int)]]), (2, AObj.log recTy (apL most [((0 : Int), i, [(107 : UInt8)], [], false)] (f, b, m, z, rs) 1).snd.snd.snd.snd)], nx := 3 } else none else Option.bind (bif decide (every > (0 : Int)) then bif decide (every = (0 : Int)) then none else some ((IntKind.i64.wrap (i + (1 : Int))).tmod every == (0 : Int)) else some false) fun v => bif v then bif decide ((apL most [((0 : Int), i, [(107 : UInt8)], [], false)] (f, b, m, z, rs) 1).fst.length ≤ 1000000000) then bif decide ((sealP (apL most [((0 : Int), i, [(107 : UInt8)], [], false)] (f, b, m, z, rs) 1)).fst.length ≤ 1000000000) then bif smallL (sealP (sealP (apL most [((0 : Int), i, [(107 : UInt8)], [], false)] (f, b, m, z, rs) 1))).fst && decide ((sealP (sealP (apL most [((0 : Int), i, [(107 : UInt8)], [], false)] (f, b, m, z, rs) 1))).snd.snd.snd.snd.length ≤ 1000000000) then Option.bind (bif (↑(segsL (sealP (sealP (apL most [((0 : Int), i, [(107 : UInt8)], [], false)] (f, b, m, z, rs) 1)))).length : Int) == (0 : Int) then some true else bif decide ((0 : Int) ≤ IntKind.i64.wrap ((↑(segsL (sealP (sealP (apL most [((0 : Int), i, [(107 : UInt8)], [], false)] (f, b, m, z, rs) 1)))).length : Int) - (1 : Int))) && decide (IntKind.i64.wrap ((↑(segsL (sealP (sealP (apL most [((0 : Int), i, [(107 : UInt8)], [], false)] (f, b, m, z, rs) 1)))).length : Int) - (1 : Int)) < (↑(segsL (sealP (sealP (apL most [((0 : Int), i, [(107 : UInt8)], [], false)] (f, b, m, z, rs) 1)))).length : Int)) then bif ((segsL (sealP (sealP (apL most [((0 : Int), i, [(107 : UInt8)], [], false)] (f, b, m, z, rs) 1)))).getD (IntKind.i64.wrap ((↑(segsL (sealP (sealP (apL most [((0 : Int), i, [(107 : UInt8)], [], false)] (f, b, m, z, rs) 1)))).length : Int) - (1 : Int))).toNat segTy.zero).fst != IntKind.i64.wrap (i + (1 : Int)) then some true else bif decide ((0 : Int) ≤ IntKind.i64.wrap ((↑(segsL (sealP (sealP (apL most [((0 : Int), i, [(107 : UInt8)], [], false)] (f, b, m, z, rs) 1)))).length : Int) - (1 : Int))) && decide (IntKind.i64.wrap ((↑(segsL (sealP (sealP (apL most [((0 : Int), i, [(107 : UInt8)], [], false)] (f, b, m, z, rs) 1)))).length : Int) - (1 : Int)) < (↑(segsL (sealP (sealP (apL most [((0 : Int), i, [(107 : UInt8)], [], false)] (f, b, m, z, rs) 1)))).length : Int)) then bif ((segsL (sealP (sealP (apL most [((0 : Int), i, [(107 : UInt8)], [], false)] (f, b, m, z, rs) 1)))).getD (IntKind.i64.wrap ((↑(segsL (sealP (sealP (apL most [((0 : Int), i, [(107 : UInt8)], [], false)] (f, b, m, z, rs) 1)))).length : Int) - (1 : Int))).toNat segTy.zero).snd.fst != IntKind.i64.wrap (i + (1 : Int)) then some true else bif decide ((0 : Int) ≤ IntKind.i64.wrap ((↑(segsL (sealP (sealP (apL most [((0 : Int), i, [(107 : UInt8)], [], false)] (f, b, m, z, rs) 1)))).length : Int) - (1 : Int))) && decide (IntKind.i64.wrap ((↑(segsL (sealP (sealP (apL most [((0 : Int), i, [(107 : UInt8)], [], false)] (f, b, m, z, rs) 1)))).length : Int) - (1 : Int)) < (↑(segsL (sealP (sealP (apL most [((0 : Int), i, [(107 : UInt8)], [], false)] (f, b, m, z, rs) 1)))).length : Int)) then some ((segsL (sealP (sealP (apL most [((0 : Int), i, [(107 : UInt8)], [], false)] (f, b, m, z, rs) 1)))).getD (IntKind.i64.wrap ((↑(segsL (sealP (sealP (apL most [((0 : Int), i, [(107 : UInt8)], [], false)] (f, b, m, z, rs) 1)))).length : Int) - (1 : Int))).toNat segTy.zero).snd.snd.snd.snd.snd.fst else none else none else none) fun v => bif v then K Ex.ret { slots := [(0, AV.int IntKind.i64 n), (1, AV.int IntKind.i64 most), (2, AV.int IntKind.i64 every), (6, AV.bool false), (8, AV.ptr 0 (Elt.tl 0) 0), (9, AV.int IntKind.i64 (IntKind.i64.wrap (i + (1 : Int)))), (10, AV.int IntKind.i64 i)], objs := [(0, AObj.arr 1 Ty.bool [] [[AV.hw 1]]), (1, AObj.arr 10 segTy (sealP (sealP (apL most [((0 : Int), i, [(107 : UInt8)], [], false)] (f, b, m, z, rs) 1))).fst [[AV.int IntKind.i64 (sealP (sealP (apL most [((0 : Int), i, [(107 : UInt8)], [], false)] (f, b, m, z, rs) 1))).snd.fst, AV.int IntKind.i64 (sealP (sealP (apL most [((0 : Int), i, [(107 : UInt8)], [], false)] (f, b, m, z, rs) 1))).snd.snd.fst, AV.int IntKind.i64 (0 : Int), AV.int IntKind.i64 (0 : Int), AV.hw 2, AV.bool false, AV.bool false, AV.bool false, AV.int IntKind.i64 (sealP (sealP (apL most [((0 : Int), i, [(107 : UInt8)], [], false)] (f, b, m, z, rs) 1))).snd.snd.snd.fst, AV.int IntKind.u32 (0 : Int)]]), (2, AObj.log recTy (sealP (sealP (apL most [((0 : Int), i, [(107 : UInt8)], [], false)] (f, b, m, z, rs) 1))).snd.snd.snd.snd)], nx := 3 } else bif (firstFrom (badSS most (segsL (sealP (sealP (apL most [((0 : Int), i, [(107 : UInt8)], [], false)] (f, b, m, z, rs) 1))))) 0 ((segsL (sealP (sealP (apL most [((0 : Int), i, [(107 : UInt8)], [], false)] (f, b, m, z, rs) 1)))).length - 1)).isSome then K Ex.ret { slots := [(0, AV.int IntKind.i64 n), (1, AV.int IntKind.i64 most), (2, AV.int IntKind.i64 every), (6, AV.bool false), (8, AV.ptr 0 (Elt.tl 0) 0), (9, AV.int IntKind.i64 (IntKind.i64.wrap (i + (1 : Int)))), (10, AV.int IntKind.i64 i)], objs := [(0, AObj.arr 1 Ty.bool [] [[AV.hw 1]]), (1, AObj.arr 10 segTy (sealP (sealP (apL most [((0 : Int), i, [(107 : UInt8)], [], false)] (f, b, m, z, rs) 1))).fst [[AV.int IntKind.i64 (sealP (sealP (apL most [((0 : Int), i, [(107 : UInt8)], [], false)] (f, b, m, z, rs) 1))).snd.fst, AV.int IntKind.i64 (sealP (sealP (apL most [((0 : Int), i, [(107 : UInt8)], [], false)] (f, b, m, z, rs) 1))).snd.snd.fst, AV.int IntKind.i64 (0 : Int), AV.int IntKind.i64 (0 : Int), AV.hw 2, AV.bool false, AV.bool false, AV.bool false, AV.int IntKind.i64 (sealP (sealP (apL most [((0 : Int), i, [(107 : UInt8)], [], false)] (f, b, m, z, rs) 1))).snd.snd.snd.fst, AV.int IntKind.u32 (0 : Int)]]), (2, AObj.log recTy (sealP (sealP (apL most [((0 : Int), i, [(107 : UInt8)], [], false)] (f, b, m, z, rs) 1))).snd.snd.snd.snd)], nx := 3 } else K Ex.normal { slots := [(0, AV.int IntKind.i64 n), (1, AV.int IntKind.i64 most), (2, AV.int IntKind.i64 every), (6, AV.bool q), (8, AV.ptr 0 (Elt.tl 0) 0), (9, AV.int IntKind.i64 (IntKind.i64.wrap (i + (1 : Int)))), (10, AV.int IntKind.i64 (IntKind.i64.wrap (i + (1 : Int))))], objs := [(0, AObj.arr 1 Ty.bool [] [[AV.hw 1]]), (1, AObj.arr 10 segTy (sealP (sealP (apL most [((0 : Int), i, [(107 : UInt8)], [], false)] (f, b, m, z, rs) 1))).fst [[AV.int IntKind.i64 (sealP (sealP (apL most [((0 : Int), i, [(107 : UInt8)], [], false)] (f, b, m, z, rs) 1))).snd.fst, AV.int IntKind.i64 (sealP (sealP (apL most [((0 : Int), i, [(107 : UInt8)], [], false)] (f, b, m, z, rs) 1))).snd.snd.fst, AV.int IntKind.i64 (0 : Int), AV.int IntKind.i64 (0 : Int), AV.hw 2, AV.bool false, AV.bool false, AV.bool false, AV.int IntKind.i64 (sealP (sealP (apL most [((0 : Int), i, [(107 : UInt8)], [], false)] (f, b, m, z, rs) 1))).snd.snd.snd.fst, AV.int IntKind.u32 (0 : Int)]]), (2, AObj.log recTy (sealP (sealP (apL most [((0 : Int), i, [(107 : UInt8)], [], false)] (f, b, m, z, rs) 1))).snd.snd.snd.snd)], nx := 3 } else none else none else none else bif smallL (apL most [((0 : Int), i, [(107 : UInt8)], [], false)] (f, b, m, z, rs) 1).fst && decide ((apL most [((0 : Int), i, [(107 : UInt8)], [], false)] (f, b, m, z, rs) 1).snd.snd.snd.snd.length ≤ 1000000000) then Option.bind (bif (↑(segsL (apL most [((0 : Int), i, [(107 : UInt8)], [], false)] (f, b, m, z, rs) 1)).length : Int) == (0 : Int) then some true else bif decide ((0 : Int) ≤ IntKind.i64.wrap ((↑(segsL (apL most [((0 : Int), i, [(107 : UInt8)], [], false)] (f, b, m, z, rs) 1)).length : Int) - (1 : Int))) && decide (IntKind.i64.wrap ((↑(segsL (apL most [((0 : Int), i, [(107 : UInt8)], [], false)] (f, b, m, z, rs) 1)).length : Int) - (1 : Int)) < (↑(segsL (apL most [((0 : Int), i, [(107 : UInt8)], [], false)] (f, b, m, z, rs) 1)).length : Int)) then bif ((segsL (apL most [((0 : Int), i, [(107 : UInt8)], [], false)] (f, b, m, z, rs) 1)).getD (IntKind.i64.wrap ((↑(segsL (apL most [((0 : Int), i, [(107 : UInt8)], [], false)] (f, b, m, z, rs) 1)).length : Int) - (1 : Int))).toNat segTy.zero).fst != bs then some true else bif decide ((0 : Int) ≤ IntKind.i64.wrap ((↑(segsL (apL most [((0 : Int), i, [(107 : UInt8)], [], false)] (f, b, m, z, rs) 1)).length : Int) - (1 : Int))) && decide (IntKind.i64.wrap ((↑(segsL (apL most [((0 : Int), i, [(107 : UInt8)], [], false)] (f, b, m, z, rs) 1)).length : Int) - (1 : Int)) < (↑(segsL (apL most [((0 : Int), i, [(107 : UInt8)], [], false)] (f, b, m, z, rs) 1)).length : Int)) then bif ((segsL (apL most [((0 : Int), i, [(107 : UInt8)], [], false)] (f, b, m, z, rs) 1)).getD (IntKind.i64.wrap ((↑(segsL (apL most [((0 : Int), i, [(107 : UInt8)], [], false)] (f, b, m, z, rs) 1)).length : Int) - (1 : Int))).toNat segTy.zero).snd.fst != IntKind.i64.wrap (i + (1 : Int)) then some true else bif decide ((0 : Int) ≤ IntKind.i64.wrap ((↑(segsL (apL most [((0 : Int), i, [(107 : UInt8)], [], false)] (f, b, m, z, rs) 1)).length : Int) - (1 : Int))) && decide (IntKind.i64.wrap ((↑(segsL (apL most [((0 : Int), i, [(107 : UInt8)], [], false)] (f, b, m, z, rs) 1)).length : Int) - (1 : Int)) < (↑(segsL (apL most [((0 : Int), i, [(107 : UInt8)], [], false)] (f, b, m, z, rs) 1)).length : Int)) then some ((segsL (apL most [((0 : Int), i, [(107 : UInt8)], [], false)] (f, b, m, z, rs) 1)).getD (IntKind.i64.wrap ((↑(segsL (apL most [((0 : Int), i, [(107 : UInt8)], [], false)] (f, b, m, z, rs) 1)).length : Int) - (1 : Int))).toNat segTy.zero).snd.snd.snd.snd.snd.fst else none else none else none) fun v => bif v then K Ex.ret { slots := [(0, AV.int IntKind.i64 n), (1, AV.int IntKind.i64 most), (2, AV.int IntKind.i64 every), (6, AV.bool false), (8, AV.ptr 0 (Elt.tl 0) 0), (9, AV.int IntKind.i64 bs), (10, AV.int IntKind.i64 i)], objs := [(0, AObj.arr 1 Ty.bool [] [[AV.hw 1]]), (1, AObj.arr 10 segTy (apL most [((0 : Int), i, [(107 : UInt8)], [], false)] (f, b, m, z, rs) 1).fst [[AV.int IntKind.i64 (apL most [((0 : Int), i, [(107 : UInt8)], [], false)] (f, b, m, z, rs) 1).snd.fst, AV.int IntKind.i64 (apL most [((0 : Int), i, [(107 : UInt8)], [], false)] (f, b, m, z, rs) 1).snd.snd.fst, AV.int IntKind.i64 (0 : Int), AV.int IntKind.i64 (0 : Int), AV.hw 2, AV.bool false, AV.bool false, AV.bool false, AV.int IntKind.i64 (apL most [((0 : Int), i, [(107 : UInt8)], [], false)] (f, b, m, z, rs) 1).snd.snd.snd.fst, AV.int IntKind.u32 (0 : Int)]]), (2, AObj.log recTy (apL most [((0 : Int), i, [(107 : UInt8)], [], false)] (f, b, m, z, rs) 1).snd.snd.snd.snd)], nx := 3 } else bif (firstFrom (badSS most (segsL (apL most [((0 : Int), i, [(107 : UInt8)], [], false)] (f, b, m, z, rs) 1))) 0 ((segsL (apL most [((0 : Int), i, [(107 : UInt8)], [], false)] (f, b, m, z, rs) 1)).length - 1)).isSome then K Ex.ret { slots := [(0, AV.int IntKind.i64 n), (1, AV.int IntKind.i64 most), (2, AV.int IntKind.i64 every), (6, AV.bool false), (8, AV.ptr 0 (Elt.tl 0) 0), (9, AV.int IntKind.i64 bs), (10, AV.int IntKind.i64 i)], objs := [(0, AObj.arr 1 Ty.bool [] [[AV.hw 1]]), (1, AObj.arr 10 segTy (apL most [((0 : Int), i, [(107 : UInt8)], [], false)] (f, b, m, z, rs) 1).fst [[AV.int IntKind.i64 (apL most [((0 : Int), i, [(107 : UInt8)], [], false)] (f, b, m, z, rs) 1).snd.fst, AV.int IntKind.i64 (apL most [((0 : Int), i, [(107 : UInt8)], [], false)] (f, b, m, z, rs) 1).snd.snd.fst, AV.int IntKind.i64 (0 : Int), AV.int IntKind.i64 (0 : Int), AV.hw 2, AV.bool false, AV.bool false, AV.bool false, AV.int IntKind.i64 (apL most [((0 : Int), i, [(107 : UInt8)], [], false)] (f, b, m, z, rs) 1).snd.snd.snd.fst, AV.int IntKind.u32 (0 : Int)]]), (2, AObj.log recTy (apL most [((0 : Int), i, [(107 : UInt8)], [], false)] (f, b, m, z, rs) 1).snd.snd.snd.snd)], nx := 3 } else K Ex.normal { slots := [(0, AV.int IntKind.i64 n), (1, AV.int IntKind.i64 most), (2, AV.int IntKind.i64 every), (6, AV.bool q), (8, AV.ptr 0 (Elt.tl 0) 0), (9, AV.int IntKind.i64 bs), (10, AV.int IntKind.i64 (IntKind.i64.wrap (i + (1 : Int))))], objs := [(0, AObj.arr 1 Ty.bool [] [[AV.hw 1]]), (1, AObj.arr 10 segTy (apL most [((0 : Int), i, [(107 : UInt8)], [], false)] (f, b, m, z, rs) 1).fst [[AV.int IntKind.i64 (apL most [((0 : Int), i, [(107 : UInt8)], [], false)] (f, b, m, z, rs) 1).snd.fst, AV.int IntKind.i64 (apL most [((0 : Int), i, [(107 : UInt8)], [], false)] (f, b, m, z, rs) 1).snd.snd.fst, AV.int IntKind.i64 (0 : Int), AV.int IntKind.i64 (0 : Int), AV.hw 2, AV.bool false, AV.bool false, AV.bool false, AV.int IntKind.i64 (apL most [((0 : Int), i, [(107 : UInt8)], [], false)] (f, b, m, z, rs) 1).snd.snd.snd.fst, AV.int IntKind.u32 (0 : Int)]]), (2, AObj.log recTy (apL most [((0 : Int), i, [(107 : UInt8)], [], false)] (f, b, m, z, rs) 1).snd.snd.snd.snd)], nx := 3 } else none else none else K (Ex.exit 0) { slots := [(0, AV.int IntKind.i64 n), (1, AV.int IntKind.i64 most), (2, AV.int IntKind.i64 every), (6, AV.bool q), (8, AV.ptr 0 (Elt.tl 0) 0), (9, AV.int IntKind.i64 bs), (10, AV.int IntKind.i64 i)], objs := [(0, AObj.arr 1 Ty.bool [] [[AV.hw 1]]), (1, AObj.arr 10 segTy f [[AV.int IntKind.i64 b, AV.int IntKind.i64 m, AV.int IntKind.i64 (0 : Int), AV.int IntKind.i64 (0 : Int), AV.hw 2, AV.bool false, AV.bool false, AV.bool false, AV.int IntKind.i64 z, AV.int IntKind.u32 (0 : Int)]]), (2, AObj.log recTy rs)], nx := 3 } := by kernel_rfl

def recK (j : Int) : Rec := (j, j, [107], [], false)
def recsK (b : Int) (c : Nat) : List Rec := (List.range c).map fun j => recK (b + (j : Nat))
theorem recsK_succ (b : Int) (c : Nat) : recsK b (c + 1) = recsK b c ++ [recK (b + (c : Nat))] := by unfold recsK; rw [List.range_succ, List.map_append]; rfl
theorem recsK_len (b : Int) (c : Nat) : (recsK b c).length = c := by simp [recsK]
theorem recsK_at {b : Int} {c j : Nat} (h : j < c) : (recsK b c).getD j recTy.zero = recK (b + (j : Nat)) := by
  unfold recsK
  rw [List.getD_eq_getElem?_getD, List.getElem?_map, List.getElem?_range h]
  rfl
theorem latI_K (b : Int) (c : Nat) : ∀ j, j < c → latI (recsK b c) (j + 1) = b + (j : Nat)
  | 0, h => by
    show (bif decide (0 = 0) || _ then ((recsK b c).getD 0 recTy.zero).2.1 else _) = _
    rw [recsK_at h]
    rfl
  | j + 1, h => by
    have ih := latI_K b c j (by omega)
    show (bif decide (j + 1 = 0) || decide (((recsK b c).getD (j + 1) recTy.zero).2.1 > latI (recsK b c) (j + 1)) then ((recsK b c).getD (j + 1) recTy.zero).2.1 else _) = _
    rw [recsK_at h, ih]
    have e : decide ((recK (b + ((j + 1 : Nat) : Int))).2.1 > b + (j : Nat)) = true := decide_eq_true (show b + ((j + 1 : Nat) : Int) > b + (j : Nat) by omega)
    rw [e, Bool.or_true]
    rfl
theorem latS_K (b : Int) (c : Nat) : latS (recsK b (c + 1)) = b + (c : Nat) := by
  unfold latS
  rw [recsK_len]
  exact latI_K b (c + 1) c (by omega)
def goodF (most : Int) (g : Seg) : Bool := g.2.2.2.2.2.1 && decide (IntKind.i64.wrap (g.2.1 - g.1) ≤ most) && decide (g.2.2.1 = IntKind.i64.wrap (g.2.1 - 1))
structure InvK (most : Int) (i : Nat) (L : LogS) : Prop where
  next : L.2.2.1 = (i : Int)
  base : 0 ≤ L.2.1 ∧ L.2.1 ≤ (i : Int) ∧ (i : Int) - L.2.1 < most
  recs : L.2.2.2.2 = recsK L.2.1 ((i : Int) - L.2.1).toNat
  good : L.1.all (goodF most) = true
  low : lowP L = 0
  ok : okB (4 * i) L = true
theorem InvK_zero {most : Int} (h : 1 ≤ most) : InvK most 0 ([], 0, 0, 0, []) := ⟨rfl, by simp; omega, rfl, rfl, rfl, rfl⟩
theorem lowP_push (L : LogS) (r : Rec) : lowP (pushP L r) = lowP L := rfl
theorem lowP_seal (L : LogS) : lowP (sealP L) = lowP L := by
  unfold sealP
  cases L.2.1 == L.2.2.1 with
  | true => rfl
  | false =>
    obtain ⟨f, b, n, z, rs⟩ := L
    cases f <;> rfl
/-- What is left of a step before it is known whether the log is sealed. -/
structure MidK (most : Int) (i : Nat) (L : LogS) : Prop where
  next : L.2.2.1 = (i : Int)
  base : 0 ≤ L.2.1 ∧ L.2.1 ≤ (i : Int) ∧ (i : Int) - L.2.1 ≤ most
  recs : L.2.2.2.2 = recsK L.2.1 ((i : Int) - L.2.1).toNat
  good : L.1.all (goodF most) = true
  low : lowP L = 0
theorem InvK.mid {most : Int} {i : Nat} {L : LogS} (h : InvK most i L) : MidK most i L := ⟨h.next, ⟨h.base.1, h.base.2.1, by have := h.base.2.2; omega⟩, h.recs, h.good, h.low⟩
theorem seal_K {most : Int} {i : Nat} {L : LogS} (hi : i ≤ 1000) (hm : 1 ≤ most) (h : MidK most i L) : InvK most i (sealP L) ∨ okB (4 * i) (sealP L) = false := by
  cases hok : okB (4 * i) (sealP L) with
  | false => exact .inr rfl
  | true =>
    refine .inl ?_
    obtain ⟨f, b, n, z, rs⟩ := L
    obtain ⟨h1, ⟨h2, h3, h4⟩, h5, h6, h7⟩ := h
    simp only at h1 h2 h3 h4 h5 h6
    subst h1
    have hlow := lowP_seal (f, b, (i : Int), z, rs)
    unfold sealP at hok hlow ⊢
    simp only at hok hlow ⊢
    cases hb : b == (i : Int) with
    | true =>
      rw [hb, cond_true] at hok
      have hb : b = (i : Int) := eq_of_beq hb
      simp only [cond_true]
      exact ⟨rfl, ⟨h2, h3, by simp only; omega⟩, h5, h6, h7, hok⟩
    | false =>
      rw [hb, cond_false] at hok hlow
      simp only [cond_false]
      have hne : b ≠ (i : Int) := fun e => by rw [e] at hb; simp at hb
      obtain ⟨c, hc⟩ : ∃ c : Nat, ((i : Int) - b).toNat = c + 1 := ⟨((i : Int) - b).toNat - 1, by omega⟩
      refine ⟨rfl, ⟨by simp only; omega, by simp only; omega, by simp only; omega⟩, by simp only [Int.sub_self]; rfl, ?_, by rw [hlow]; exact h7, hok⟩
      simp only [List.all_append, h6, Bool.true_and, List.all_cons, List.all_nil, Bool.and_true]
      unfold goodF
      simp only [Bool.true_and, Bool.and_eq_true, decide_eq_true_eq]
      rw [h5, hc, latS_K, wrap64 (n := (i : Int) - b) (by omega) (by omega), wrap64 (n := (i : Int) - 1) (by omega) (by omega)]
      exact ⟨h4, by omega⟩
def rK (i : Nat) : Rec := (0, (i : Int), [107], [], false)
theorem push_K {most : Int} {i : Nat} {L : LogS} (h : InvK most i L) : MidK most (i + 1) (pushP L (rK i)) := by
  obtain ⟨f, b, n, z, rs⟩ := L
  obtain ⟨h1, ⟨h2, h3, h4⟩, h5, h6, h7, h8⟩ := h
  simp only at h1 h2 h3 h4 h5 h6
  subst h1
  have hc : (((i + 1 : Nat) : Int) - b).toNat = ((i : Int) - b).toNat + 1 := by omega
  refine ⟨by simp [pushP], ⟨h2, by simp [pushP]; omega, by simp [pushP]; omega⟩, ?_, h6, h7⟩
  show rs ++ [((i : Int), (rK i).2)] = recsK b (((i + 1 : Nat) : Int) - b).toNat
  rw [hc, recsK_succ, h5]
  have : b + (((i : Int) - b).toNat : Nat) = (i : Int) := by omega
  rw [this]
  rfl
theorem recR_K {i : Nat} (hi : i ≤ 60) : recR (0, (rK i).2) = true := by
  unfold recR rK
  simp
  omega
def stepK (most every : Int) (L : LogS) (i : Nat) : LogS := bif decide (every > 0) && (((i : Int) + 1).tmod every == 0) then sealP (sealP (apR most L (rK i))) else apR most L (rK i)
theorem apR_K {most : Int} {i : Nat} {L : LogS} (hi : i ≤ 60) (hm : 1 ≤ most) (h : InvK most i L) : InvK most (i + 1) (apR most L (rK i)) ∧ okB (4 * i + 2) (apR most L (rK i)) = true ∧ (apR most L (rK i)).2.1 = bif ((i : Int) + 1 - L.2.1) == most then (i : Int) + 1 else L.2.1 := by
  have hmx : mxI most = most := by
    unfold mxI
    by_cases h1 : most > 1
    · rw [cond_pos h1]
    · rw [cond_neg h1]; omega
  have hpk := push_K h
  have hpo := pushP_ok (rK i) h.ok
  have hso := sealP_ok hpo (by omega)
  have hn := h.next
  have hb3 := h.base
  have hpb : (pushP L (rK i)).2.1 = L.2.1 := rfl
  unfold apR
  rw [recR_K hi, cond_true, hmx, hn]
  by_cases hc : (i : Int) + 1 - L.2.1 = most
  · have e1 : decide ((i : Int) + 1 - L.2.1 ≥ most) = true := decide_eq_true (by omega)
    rw [e1, cond_true]
    refine ⟨?_, by simpa [Nat.add_assoc] using hso, ?_⟩
    · rcases seal_K (by omega) hm hpk with h | h
      · exact h
      · rw [okB_mono hso (by omega)] at h; cases h
    · rw [show ((i : Int) + 1 - L.2.1 == most) = true by simp [hc], cond_true]
      unfold sealP
      have : ((pushP L (rK i)).2.1 == (pushP L (rK i)).2.2.1) = false := by
        rw [hpb, hpk.next]
        have : L.2.1 ≠ ((i + 1 : Nat) : Int) := by omega
        simpa using this
      rw [this]
      show (pushP L (rK i)).2.2.1 = _
      rw [hpk.next]
      omega
  · have e1 : decide ((i : Int) + 1 - L.2.1 ≥ most) = false := decide_eq_false (by omega)
    rw [e1, cond_false]
    refine ⟨⟨hpk.next, ⟨hpk.base.1, hpk.base.2.1, by rw [hpb]; omega⟩, hpk.recs, hpk.good, hpk.low, okB_mono hpo (by omega)⟩, okB_mono hpo (by omega), ?_⟩
    rw [show ((i : Int) + 1 - L.2.1 == most) = false by simpa using hc]
    rfl
theorem sealed_base {L : LogS} {i : Int} (h : L.2.2.1 = i) : (sealP L).2.1 = i := by
  unfold sealP
  cases hb : L.2.1 == L.2.2.1 with
  | true => exact (eq_of_beq hb).trans h
  | false => exact h
theorem step_K {most every : Int} {i : Nat} {L : LogS} (hi : i ≤ 60) (hm : 1 ≤ most) (h : InvK most i L) : InvK most (i + 1) (stepK most every L i) := by
  obtain ⟨h1, h2, h3⟩ := apR_K hi hm h
  unfold stepK
  cases decide (every > 0) && (((i : Int) + 1).tmod every == 0) with
  | false => exact h1
  | true =>
    have o1 := sealP_ok h2 (by omega)
    have o2 := sealP_ok o1 (by omega)
    rcases seal_K (by omega) hm h1.mid with k | k
    · rcases seal_K (by omega) hm k.mid with k2 | k2
      · exact k2
      · rw [okB_mono o2 (by omega)] at k2; cases k2
    · rw [okB_mono o1 (by omega)] at k; cases k
theorem getD_all {l : List Seg} {p : Seg → Bool} (h : l.all p = true) {k : Nat} (hk : k < l.length) : p (l.getD k segTy.zero) = true := by
  rw [List.getD_eq_getElem?_getD, List.getElem?_eq_getElem hk]
  exact List.all_eq_true.1 h _ (List.getElem_mem hk)
theorem badSS_none {most : Int} {i : Nat} {L : LogS} (h : InvK most i L) : firstFrom (badSS most (segsL L)) 0 ((segsL L).length - 1) = none := by
  cases hf : firstFrom (badSS most (segsL L)) 0 ((segsL L).length - 1) with
  | none => rfl
  | some k =>
    obtain ⟨_, h2, h3, _⟩ := firstFrom_spec hf
    rw [segsL_len] at h2
    have hg := getD_all h.good (k := k) (by omega)
    unfold badSS at h3
    rw [segsL_lt (by omega)] at h3
    unfold goodF at hg
    simp only [Bool.and_eq_true, decide_eq_true_eq] at hg
    obtain ⟨⟨g1, g2⟩, g3⟩ := hg
    rw [g1, g3, decide_eq_false (show ¬ _ > most by omega)] at h3
    simp at h3
/-- What a round looks at once the log is as it shall be. -/
theorem ss_tail {R : Type} {most : Int} {i : Nat} {X : LogS} (hi : i ≤ 61) (h : InvK most i X) (B N : Int) (hB : X.2.1 = B) (hN : (i : Int) = N) (r1 r2 r3 : Option R) :
    (bif smallL X.1 && decide (X.2.2.2.2.length ≤ 1000000000) then Option.bind (bif ((segsL X).length : Int) == 0 then some true else bif decide ((0 : Int) ≤ IntKind.i64.wrap (((segsL X).length : Int) - 1)) && decide (IntKind.i64.wrap (((segsL X).length : Int) - 1) < ((segsL X).length : Int)) then
      bif ((segsL X).getD (IntKind.i64.wrap (((segsL X).length : Int) - 1)).toNat segTy.zero).1 != B then some true else bif decide ((0 : Int) ≤ IntKind.i64.wrap (((segsL X).length : Int) - 1)) && decide (IntKind.i64.wrap (((segsL X).length : Int) - 1) < ((segsL X).length : Int)) then
      bif ((segsL X).getD (IntKind.i64.wrap (((segsL X).length : Int) - 1)).toNat segTy.zero).2.1 != N then some true else bif decide ((0 : Int) ≤ IntKind.i64.wrap (((segsL X).length : Int) - 1)) && decide (IntKind.i64.wrap (((segsL X).length : Int) - 1) < ((segsL X).length : Int)) then
      some ((segsL X).getD (IntKind.i64.wrap (((segsL X).length : Int) - 1)).toNat segTy.zero).2.2.2.2.2.1 else none else none else none) (fun v => bif v then r1 else bif (firstFrom (badSS most (segsL X)) 0 ((segsL X).length - 1)).isSome then r2 else r3) else none) = r3 := by
  obtain ⟨h1, h2, h3, h4, h5, h6, h7, h9⟩ := okB_iff.1 h.ok
  have hl := segsL_len X
  have e1 : IntKind.i64.wrap (((segsL X).length : Int) - 1) = (X.1.length : Int) := by rw [hl, wrap64 (by omega) (by omega)]; omega
  have e2 : (((segsL X).length : Int) == 0) = false := by rw [hl]; simp; omega
  have e3 : smallL X.1 = true := by unfold smallL; rw [h9, decide_eq_true (show X.1.length ≤ 1000000000 by omega)]; rfl
  have e4 : (decide ((0 : Int) ≤ (X.1.length : Int)) && decide ((X.1.length : Int) < ((segsL X).length : Int))) = true := by rw [hl]; simp; omega
  have e5 : (actS X).1 = X.2.1 := rfl
  have e6 : (actS X).2.1 = X.2.2.1 := rfl
  have e7 : (actS X).2.2.2.2.2.1 = false := rfl
  rw [e1, e2, e3, e4, decide_eq_true (show X.2.2.2.2.length ≤ 1000000000 by omega), Int.toNat_natCast, segsL_last, e5, e6, e7, hB, h.next, hN, badSS_none h]
  simp
def ssSt (n most every : Int) (q : Bool) (i : Nat) (L : LogS) : St := ⟨[(0, .int .i64 n), (1, .int .i64 most), (2, .int .i64 every), (6, .bool q), (8, .ptr 0 (.tl 0) 0), (9, .int .i64 L.2.1), (10, .int .i64 i)], logO L, 3⟩
theorem ss_every {R : Type} (every x : Int) (F : Bool → Option R) : Option.bind (bif decide (every > (0 : Int)) then bif decide (every = (0 : Int)) then none else some (x.tmod every == (0 : Int)) else some false) F = F (decide (every > 0) && (x.tmod every == 0)) := by
  by_cases h : every > 0
  · rw [cond_pos h, cond_neg (by omega), decide_eq_true h, Option.bind_some, Bool.true_and]
  · rw [cond_neg h, decide_eq_false h, Option.bind_some, Bool.false_and]
theorem ss_round {R : Type} (n most every : Int) (q : Bool) (hn : n ≤ 60) (hm : 1 ≤ most) (i : Nat) (hi : (i : Int) < n) (M : LogS) (h : InvK most i M) (K : Ex → St → Option R) :
    roundK (env consD3) H.seals2 0 (LPof [(22, siLC)]) V.cooperagelaw15_SegsSeals_7 L.cooperagelaw15_SegsSeals_7 (ssSt n most every q i M) K = K .normal (ssSt n most every q (i + 1) (stepK most every M i)) := by
  refine (ss_rd n most every q M.2.1 i M.1 M.2.1 M.2.2.1 M.2.2.2.1 M.2.2.2.2 K).trans ?_
  have hA := apR_K (by omega) hm h
  have hK := step_K (every := every) (by omega) hm h
  have w1 : IntKind.i64.wrap ((i : Int) + 1) = (i : Int) + 1 := wrap64 (by omega) (by omega)
  have hb := h.base
  have w2 : IntKind.i64.wrap ((i : Int) + 1 - M.2.1) = (i : Int) + 1 - M.2.1 := wrap64 (by omega) (by omega)
  have eA : apL most [((0 : Int), (i : Int), [107], [], false)] (M.1, M.2.1, M.2.2.1, M.2.2.2.1, M.2.2.2.2) 1 = apR most M (rK i) := rfl
  have em : (M.2.2.1 != (i : Int)) = false := by rw [h.next]; simp
  have l1 : decide ((apR most M (rK i)).1.length ≤ 1000000000) = true := decide_eq_true (by have := (okB_iff.1 hA.2.1).2.2.2.2.2.1; omega)
  have l2 : decide ((sealP (apR most M (rK i))).1.length ≤ 1000000000) = true := decide_eq_true (by have := (okB_iff.1 (sealP_ok hA.2.1 (by omega))).2.2.2.2.2.1; omega)
  have hc : ((i + 1 : Nat) : Int) = (i : Int) + 1 := by omega
  rw [cond_pos hi, okB_mono h.ok (by omega), cond_true, em, cond_false, w1, w2, ss_every, ss_every, eA]
  unfold stepK at hK ⊢
  cases hv : decide (every > 0) && (((i : Int) + 1).tmod every == 0) with
  | true =>
    rw [hv, cond_true] at hK
    have hbs : (sealP (sealP (apR most M (rK i)))).2.1 = (i : Int) + 1 := by
      rw [← hc]
      exact sealed_base (by rw [sealP_next]; exact hA.1.next)
    have e : ssSt n most every q (i + 1) (sealP (sealP (apR most M (rK i)))) = ⟨[(0, .int .i64 n), (1, .int .i64 most), (2, .int .i64 every), (6, .bool q), (8, .ptr 0 (.tl 0) 0), (9, .int .i64 ((i : Int) + 1)), (10, .int .i64 ((i : Int) + 1))], logO (sealP (sealP (apR most M (rK i)))), 3⟩ := by unfold ssSt; rw [hbs, hc]
    simp only [cond_true, l1, l2]
    rw [e]
    have key := fun r1 r2 r3 => ss_tail (R := R) (by omega) hK ((i : Int) + 1) ((i : Int) + 1) hbs hc r1 r2 r3
    cases ((i : Int) + 1 - M.2.1) == most with
    | true => rw [cond_true]; exact key _ _ _
    | false => rw [cond_false]; exact key _ _ _
  | false =>
    rw [hv, cond_false] at hK
    simp only [cond_false]
    have hbs := hA.2.2
    have e : ∀ B, (apR most M (rK i)).2.1 = B → ssSt n most every q (i + 1) (apR most M (rK i)) = ⟨[(0, .int .i64 n), (1, .int .i64 most), (2, .int .i64 every), (6, .bool q), (8, .ptr 0 (.tl 0) 0), (9, .int .i64 B), (10, .int .i64 ((i : Int) + 1))], logO (apR most M (rK i)), 3⟩ := fun B hB => by unfold ssSt; rw [hB, hc]
    cases hcc : ((i : Int) + 1 - M.2.1) == most with
    | true =>
      rw [hcc, cond_true] at hbs
      rw [e _ hbs, cond_true]
      exact ss_tail (R := R) (by omega) hK ((i : Int) + 1) ((i : Int) + 1) hbs hc _ _ _
    | false =>
      rw [hcc, cond_false] at hbs
      rw [e _ hbs, cond_false]
      exact ss_tail (R := R) (by omega) hK M.2.1 ((i : Int) + 1) hbs hc _ _ _
def endK (most every : Int) : Nat → LogS
  | 0 => ([], 0, 0, 0, [])
  | i + 1 => stepK most every (endK most every i) i
theorem endK_inv {most every : Int} (hm : 1 ≤ most) : ∀ i, i ≤ 61 → InvK most i (endK most every i)
  | 0, _ => InvK_zero hm
  | i + 1, h => step_K (by omega) hm (endK_inv hm i (by omega))
theorem ss_go {R : Type} (n : Nat) (most every : Int) (q : Bool) (hn : n ≤ 60) (hm : 1 ≤ most) (K : Ex → St → Option R) : ∀ (m i : Nat), i + m = n → rounds (env consD3) H.seals2 0 (LPof [(22, siLC)]) V.cooperagelaw15_SegsSeals_7 L.cooperagelaw15_SegsSeals_7 (m + 1) (ssSt n most every q i (endK most every i)) K = K (.exit 0) (ssSt n most every q n (endK most every n))
  | 0, i, h => by
    obtain rfl : i = n := by omega
    rw [rounds_succ']
    refine (ss_rd _ _ _ _ _ _ _ _ _ _ _ _).trans ?_
    rw [cond_neg (by omega)]
    rfl
  | m + 1, i, h => by
    rw [rounds_succ']
    refine (ss_round n most every q (by omega) hm i (by omega) _ (endK_inv hm i (by omega)) _).trans ?_
    exact ss_go n most every q hn hm K m (i + 1) (by omega)
abbrev ssLC : LoopC := LoopC.of ⟨[(0, .int .i64), (1, .int .i64), (2, .int .i64), (6, .bool), (8, .lit (.ptr 0 (.tl 0) 0)), (9, .int .i64), (10, .int .i64)], logP⟩
  (fun ⟨⟨n, most, every, q, _, bs, i, _⟩, ⟨_, ⟨f, ⟨b, m, _, _, _, _, _, _, z, _, _⟩, _⟩, rs, _⟩⟩ => decide (i = (0 : Int)) && decide (bs = (0 : Int)) && decide (0 ≤ n) && decide (n ≤ 60) && decide (1 ≤ most) && List.isEmpty f && List.isEmpty rs && decide (b = (0 : Int)) && decide (m = (0 : Int)) && decide (z = (0 : Int)))
  fun ⟨⟨n, most, every, q, _, bs, i, _⟩, ⟨_, ⟨f, ⟨b, m, _, _, _, _, _, _, z, _, _⟩, _⟩, rs, _⟩⟩ => [(true, .exit 0, ssSt n most every q n.toNat (endK most every n.toNat))]
theorem ss_lok : LoopOK P0 H.seals2 0 L.cooperagelaw15_SegsSeals_7 ssLC :=
  loop_ok_of (env_ok consD3_ok) glob0 mixed0 (loops_good (tab := [(22, siLC)]) (by kernel_rfl) (fun x hx => by simp at hx; subst hx; exact si_lok)) V.cooperagelaw15_SegsSeals_7 (by decide) fun ⟨⟨n, most, every, q, _, bs, i, _⟩, ⟨_, ⟨f, ⟨b, m, _, _, _, _, _, _, z, _, _⟩, _⟩, rs, _⟩⟩ h hw => by
    simp only [Bool.and_eq_true, decide_eq_true_eq] at h
    obtain ⟨⟨⟨⟨⟨⟨⟨⟨⟨rfl, rfl⟩, h3⟩, h4⟩, h5⟩, h6⟩, h7⟩, rfl⟩, rfl⟩, rfl⟩ := h
    obtain rfl : f = [] := List.isEmpty_iff.1 h6
    obtain rfl : rs = [] := List.isEmpty_iff.1 h7
    have h3 : (0 : Int) ≤ n := h3
    have h4 : n ≤ (60 : Int) := h4
    obtain ⟨k, rfl⟩ := Int.eq_ofNat_of_zero_le h3
    have h4' : (k : Int) ≤ 60 := h4
    exact ⟨_, ss_go k most every q (by omega) h5 _ k 0 (Nat.zero_add _)⟩
theorem seals_ev (n most every : Int) : evFn (env consD3) H.seals2 (LPof [(7, ssLC), (22, siLC)]) F.cooperagelaw15_SegsSeals [.int .i64 n, .int .i64 most, .int .i64 every] [] (finT [.bool]) = Option.bind (bif decide (n < (0 : Int)) then some true else bif decide (n > (60 : Int)) then some true else bif decide (most < (1 : Int)) then some true else bif decide (most > (20 : Int)) then some true else bif decide (every < (0 : Int)) then some true else some (decide (every > (20 : Int)))) fun v => bif v then some (true, ()) else bif decide ((0 : (Pat.int IntKind.i64).den) ≤ n) && decide (n ≤ (60 : (Pat.int IntKind.i64).den)) && decide ((1 : (Pat.int IntKind.i64).den) ≤ most) && true && true && true && true && true && true then bif decide ((endK most every n.toNat).fst.length ≤ 1000000000) then bif (endK most every n.toNat).snd.snd.fst == n then some (lowP (endK most every n.toNat) == (0 : Int), ()) else some (false, ()) else none else none := by kernel_rfl

theorem seals_val (n most every : Int) : evFn (env consD3) H.seals2 (LPof [(7, ssLC), (22, siLC)]) F.cooperagelaw15_SegsSeals [.int .i64 n, .int .i64 most, .int .i64 every] [] (finT [.bool]) = some (true, ()) := by
  rw [seals_ev]
  by_cases h1 : n < 0
  · rw [cond_pos h1]; rfl
  by_cases h2 : n > 60
  · rw [cond_neg h1, cond_pos h2]; rfl
  by_cases h3 : most < 1
  · rw [cond_neg h1, cond_neg h2, cond_pos h3]; rfl
  by_cases h4 : most > 20
  · rw [cond_neg h1, cond_neg h2, cond_neg h3, cond_pos h4]; rfl
  by_cases h5 : every < 0
  · rw [cond_neg h1, cond_neg h2, cond_neg h3, cond_neg h4, cond_pos h5]; rfl
  by_cases h6 : every > 20
  · rw [cond_neg h1, cond_neg h2, cond_neg h3, cond_neg h4, cond_neg h5, decide_eq_true h6]; rfl
  rw [cond_neg h1, cond_neg h2, cond_neg h3, cond_neg h4, cond_neg h5, decide_eq_false h6, Option.bind_some, cond_false]
  obtain ⟨k, rfl⟩ := Int.eq_ofNat_of_zero_le (show 0 ≤ n by omega)
  have hI := endK_inv (every := every) (show 1 ≤ most by omega) k (by omega)
  have e1 : decide ((0 : (Pat.int IntKind.i64).den) ≤ (k : Int)) = true := decide_eq_true (show (0 : Int) ≤ (k : Int) by omega)
  have e2 : decide ((k : Int) ≤ (60 : (Pat.int IntKind.i64).den)) = true := decide_eq_true (show (k : Int) ≤ 60 by omega)
  have e3 : decide ((1 : (Pat.int IntKind.i64).den) ≤ most) = true := decide_eq_true (show (1 : Int) ≤ most by omega)
  have l1 : decide ((endK most every k).1.length ≤ 1000000000) = true := decide_eq_true (by have := (okB_iff.1 hI.ok).2.2.2.2.2.1; omega)
  simp only [e1, e2, e3, Int.toNat_natCast, l1, hI.next, hI.low, Bool.and_self, cond_true, beq_self_eq_true]
def caseSeals : PCase := ⟨[.ty (.int .i64), .ty (.int .i64), .ty (.int .i64)], [.bool], fun x => [(true, (true, ()))]⟩
theorem seals_ok : caseSeals.ok P0 I.cooperagelaw15_SegsSeals := case_ok2 (H := H.seals2) (E := env consD3) (env_ok consD3_ok) glob0 mixed0 G.cooperagelaw15_SegsSeals Bd.cooperagelaw15_SegsSeals (by kernel_rfl) (loops_good (tab := [(7, ssLC), (22, siLC)]) (by kernel_rfl) (fun x hx => by simp at hx; rcases hx with rfl | rfl; exact ss_lok; exact si_lok)) fun ⟨n, most, every, ()⟩ y h hw => by
  obtain ⟨hc, rfl⟩ := pick_pre h
  exact seals_val n most every
theorem seals_good (x : tysDen [.int .i64, .int .i64, .int .i64]) (hw : tysWf [.int .i64, .int .i64, .int .i64] x) : ∃ o, EffGood P0 I.cooperagelaw15_SegsSeals (valsOf [.int .i64, .int .i64, .int .i64] x) [] (.bool true) o := seals_ok x (true, ()) rfl hw
end Go.Sim
namespace Go.Sim
set_option linter.unusedSimpArgs false
set_option linter.unusedVariables false
set_option maxRecDepth 10000
abbrev rsegT : Ty := .pair (.int .i64) (.pair (.int .i64) (.pair (.int .i64) (.pair (.int .i64) (.pair .raw (.pair .bool (.pair .bool (.pair .bool (.pair (.int .i64) (.int .u32)))))))))
abbrev RSeg := Int × Int × Int × Int × Value × Bool × Bool × Bool × Int × Int
abbrev envR (cons : List (FuncId × Con)) : Env := mkEnv rows0 ((33, rsegT) :: tys0) cons globs0
theorem allR : allB P0 rows0 ((33, rsegT) :: tys0) = true := by kernel_rfl
theorem envR_ok {cons : List (FuncId × Con)} (hc : ∀ x ∈ cons, HoldsC P0 x.1 x.2) : EnvOK P0 (envR cons) := mkEnv_ok allR hc
theorem globR {cons : List (FuncId × Con)} : GlobOK P0 (envR cons) := .none rfl
def H.repl2 : Hint := { H.slices_Replace_api_Segment_api_Segment with vs := [] }
theorem repl_ev (xs : List RSeg) (y : RSeg) (c : Nat) (i j : Int) : evFn (envR []) H.repl2 (LPof []) F.slices_Replace_api_Segment_api_Segment [.hc 0 0 xs.length c, .int .i64 i, .int .i64 j, .hw 1] [.arr 10 rsegT xs [], .arr 10 rsegT [y] []] (finK 2) = bif decide ((0 : Int) ≤ j) && decide (j ≤ (↑xs.length : Int)) then bif decide ((0 : Int) ≤ i) && decide (i ≤ j) then bif i == j then none else bif j == (↑xs.length : Int) then bif decide ((0 : Int) ≤ i) && decide (i ≤ (↑xs.length : Int)) then bif decide ((List.take i.toNat xs ++ [y]).length * 80 ≤ 140737488355328) then bif decide ((↑(List.take i.toNat xs ++ [y]).length : Int) < (↑xs.length : Int)) then none else some (AV.hw 2, [AObj.dead, AObj.arr 10 ((Ty.int IntKind.i64).pair ((Ty.int IntKind.i64).pair ((Ty.int IntKind.i64).pair ((Ty.int IntKind.i64).pair (Ty.raw.pair (Ty.bool.pair (Ty.bool.pair (Ty.bool.pair ((Ty.int IntKind.i64).pair (Ty.int IntKind.u32)))))))))) [y] [], AObj.arr 10 ((Ty.int IntKind.i64).pair ((Ty.int IntKind.i64).pair ((Ty.int IntKind.i64).pair ((Ty.int IntKind.i64).pair (Ty.raw.pair (Ty.bool.pair (Ty.bool.pair (Ty.bool.pair ((Ty.int IntKind.i64).pair (Ty.int IntKind.u32)))))))))) (List.take i.toNat xs ++ [y]) []]) else none else bif decide (i = (↑xs.length : Int) + (1 : Int)) && decide (xs.length + 1 ≤ c) && decide (0 + xs.length = xs.length) && decide (xs.length < 9223372036854775807) && true then none else none else bif decide ((0 : Int) ≤ i) && decide (i ≤ (↑xs.length : Int)) then bif decide ((0 : Int) ≤ j) && decide (j ≤ (↑xs.length : Int)) then bif decide (IntKind.i64.wrap (IntKind.i64.wrap ((↑i.toNat : Int) + (1 : Int)) + (↑(xs.length - j.toNat) : Int)) > (↑c : Int)) then bif decide ((0 : Int) ≤ i) && decide (i ≤ (↑xs.length : Int)) then bif decide ((0 : Int) < IntKind.i64.wrap (IntKind.i64.wrap (IntKind.i64.wrap ((↑i.toNat : Int) + (1 : Int)) + (↑(xs.length - j.toNat) : Int)) - i)) && decide (c < i.toNat + (IntKind.i64.wrap (IntKind.i64.wrap (IntKind.i64.wrap ((↑i.toNat : Int) + (1 : Int)) + (↑(xs.length - j.toNat) : Int)) - i)).toNat) && decide (0 + i.toNat ≤ xs.length) && decide ((i.toNat + (IntKind.i64.wrap (IntKind.i64.wrap (IntKind.i64.wrap ((↑i.toNat : Int) + (1 : Int)) + (↑(xs.length - j.toNat) : Int)) - i)).toNat) * 80 ≤ 140737488355328) then bif decide ((0 : Int) ≤ i) && decide (i ≤ (↑(List.take i.toNat xs ++ List.replicate (IntKind.i64.wrap (IntKind.i64.wrap (IntKind.i64.wrap ((↑i.toNat : Int) + (1 : Int)) + (↑(xs.length - j.toNat) : Int)) - i)).toNat rsegT.zero).length : Int)) then bif decide (1 ≤ (List.take i.toNat xs ++ List.replicate (IntKind.i64.wrap (IntKind.i64.wrap (IntKind.i64.wrap ((↑i.toNat : Int) + (1 : Int)) + (↑(xs.length - j.toNat) : Int)) - i)).toNat rsegT.zero).length - i.toNat) && decide (i.toNat + 1 ≤ (List.take i.toNat xs ++ List.replicate (IntKind.i64.wrap (IntKind.i64.wrap (IntKind.i64.wrap ((↑i.toNat : Int) + (1 : Int)) + (↑(xs.length - j.toNat) : Int)) - i)).toNat rsegT.zero).length) then bif decide ((0 : Int) ≤ IntKind.i64.wrap (i + (1 : Int))) && decide (IntKind.i64.wrap (i + (1 : Int)) ≤ (↑(List.take i.toNat (List.take i.toNat xs ++ List.replicate (IntKind.i64.wrap (IntKind.i64.wrap (IntKind.i64.wrap ((↑i.toNat : Int) + (1 : Int)) + (↑(xs.length - j.toNat) : Int)) - i)).toNat rsegT.zero) ++ [y] ++ List.drop (i.toNat + 1) (List.take i.toNat xs ++ List.replicate (IntKind.i64.wrap (IntKind.i64.wrap (IntKind.i64.wrap ((↑i.toNat : Int) + (1 : Int)) + (↑(xs.length - j.toNat) : Int)) - i)).toNat rsegT.zero)).length : Int)) then bif decide ((0 : Int) ≤ j) && decide (j ≤ (↑xs.length : Int)) then bif decide ((List.take (xs.length - j.toNat) (List.drop j.toNat xs)).length ≤ (List.take i.toNat (List.take i.toNat xs ++ List.replicate (IntKind.i64.wrap (IntKind.i64.wrap (IntKind.i64.wrap ((↑i.toNat : Int) + (1 : Int)) + (↑(xs.length - j.toNat) : Int)) - i)).toNat rsegT.zero) ++ [y] ++ List.drop (i.toNat + 1) (List.take i.toNat xs ++ List.replicate (IntKind.i64.wrap (IntKind.i64.wrap (IntKind.i64.wrap ((↑i.toNat : Int) + (1 : Int)) + (↑(xs.length - j.toNat) : Int)) - i)).toNat rsegT.zero)).length - (IntKind.i64.wrap (i + (1 : Int))).toNat) && decide ((IntKind.i64.wrap (i + (1 : Int))).toNat + (List.take (xs.length - j.toNat) (List.drop j.toNat xs)).length ≤ (List.take i.toNat (List.take i.toNat xs ++ List.replicate (IntKind.i64.wrap (IntKind.i64.wrap (IntKind.i64.wrap ((↑i.toNat : Int) + (1 : Int)) + (↑(xs.length - j.toNat) : Int)) - i)).toNat rsegT.zero) ++ [y] ++ List.drop (i.toNat + 1) (List.take i.toNat xs ++ List.replicate (IntKind.i64.wrap (IntKind.i64.wrap (IntKind.i64.wrap ((↑i.toNat : Int) + (1 : Int)) + (↑(xs.length - j.toNat) : Int)) - i)).toNat rsegT.zero)).length) then some (AV.hw 2, [AObj.arr 10 ((Ty.int IntKind.i64).pair ((Ty.int IntKind.i64).pair ((Ty.int IntKind.i64).pair ((Ty.int IntKind.i64).pair (Ty.raw.pair (Ty.bool.pair (Ty.bool.pair (Ty.bool.pair ((Ty.int IntKind.i64).pair (Ty.int IntKind.u32)))))))))) xs [], AObj.arr 10 ((Ty.int IntKind.i64).pair ((Ty.int IntKind.i64).pair ((Ty.int IntKind.i64).pair ((Ty.int IntKind.i64).pair (Ty.raw.pair (Ty.bool.pair (Ty.bool.pair (Ty.bool.pair ((Ty.int IntKind.i64).pair (Ty.int IntKind.u32)))))))))) [y] [], AObj.arr 10 ((Ty.int IntKind.i64).pair ((Ty.int IntKind.i64).pair ((Ty.int IntKind.i64).pair ((Ty.int IntKind.i64).pair (Ty.raw.pair (Ty.bool.pair (Ty.bool.pair (Ty.bool.pair ((Ty.int IntKind.i64).pair (Ty.int IntKind.u32)))))))))) (List.take (IntKind.i64.wrap (i + (1 : Int))).toNat (List.take i.toNat (List.take i.toNat xs ++ List.replicate (IntKind.i64.wrap (IntKind.i64.wrap (IntKind.i64.wrap ((↑i.toNat : Int) + (1 : Int)) + (↑(xs.length - j.toNat) : Int)) - i)).toNat rsegT.zero) ++ [y] ++ List.drop (i.toNat + 1) (List.take i.toNat xs ++ List.replicate (IntKind.i64.wrap (IntKind.i64.wrap (IntKind.i64.wrap ((↑i.toNat : Int) + (1 : Int)) + (↑(xs.length - j.toNat) : Int)) - i)).toNat rsegT.zero)) ++ List.take (xs.length - j.toNat) (List.drop j.toNat xs) ++ List.drop ((IntKind.i64.wrap (i + (1 : Int))).toNat + (List.take (xs.length - j.toNat) (List.drop j.toNat xs)).length) (List.take i.toNat (List.take i.toNat xs ++ List.replicate (IntKind.i64.wrap (IntKind.i64.wrap (IntKind.i64.wrap ((↑i.toNat : Int) + (1 : Int)) + (↑(xs.length - j.toNat) : Int)) - i)).toNat rsegT.zero) ++ [y] ++ List.drop (i.toNat + 1) (List.take i.toNat xs ++ List.replicate (IntKind.i64.wrap (IntKind.i64.wrap (IntKind.i64.wrap ((↑i.toNat : Int) + (1 : Int)) + (↑(xs.length - j.toNat) : Int)) - i)).toNat rsegT.zero))) []]) else none else none else none else none else none else none else bif decide (i = (↑xs.length : Int) + (1 : Int)) && decide (xs.length + 1 ≤ c) && decide (0 + xs.length = xs.length) && decide (xs.length < 9223372036854775807) && true then none else none else bif decide ((0 : Int) ≤ IntKind.i64.wrap (IntKind.i64.wrap ((↑i.toNat : Int) + (1 : Int)) + (↑(xs.length - j.toNat) : Int))) && decide (IntKind.i64.wrap (IntKind.i64.wrap ((↑i.toNat : Int) + (1 : Int)) + (↑(xs.length - j.toNat) : Int)) ≤ (↑xs.length : Int)) then bif decide (IntKind.i64.wrap (i + (1 : Int)) ≤ j) then bif decide ((0 : Int) ≤ i) && decide (i ≤ (↑(IntKind.i64.wrap (IntKind.i64.wrap ((↑i.toNat : Int) + (1 : Int)) + (↑(xs.length - j.toNat) : Int))).toNat : Int)) then bif decide (1 ≤ (IntKind.i64.wrap (IntKind.i64.wrap ((↑i.toNat : Int) + (1 : Int)) + (↑(xs.length - j.toNat) : Int))).toNat - i.toNat) && decide (i.toNat + 1 ≤ xs.length) then bif decide ((0 : Int) ≤ IntKind.i64.wrap (i + (1 : Int))) && decide (IntKind.i64.wrap (i + (1 : Int)) ≤ (↑(IntKind.i64.wrap (IntKind.i64.wrap ((↑i.toNat : Int) + (1 : Int)) + (↑(xs.length - j.toNat) : Int))).toNat : Int)) then bif decide ((0 : Int) ≤ j) && decide (j ≤ (↑xs.length : Int)) then bif decide ((List.take (xs.length - j.toNat) (List.drop j.toNat (List.take i.toNat xs ++ [y] ++ List.drop (i.toNat + 1) xs))).length ≤ (IntKind.i64.wrap (IntKind.i64.wrap ((↑i.toNat : Int) + (1 : Int)) + (↑(xs.length - j.toNat) : Int))).toNat - (IntKind.i64.wrap (i + (1 : Int))).toNat) && decide ((IntKind.i64.wrap (i + (1 : Int))).toNat + (List.take (xs.length - j.toNat) (List.drop j.toNat (List.take i.toNat xs ++ [y] ++ List.drop (i.toNat + 1) xs))).length ≤ (List.take i.toNat xs ++ [y] ++ List.drop (i.toNat + 1) xs).length) then bif decide ((0 : Int) ≤ IntKind.i64.wrap (IntKind.i64.wrap ((↑i.toNat : Int) + (1 : Int)) + (↑(xs.length - j.toNat) : Int))) && decide (IntKind.i64.wrap (IntKind.i64.wrap ((↑i.toNat : Int) + (1 : Int)) + (↑(xs.length - j.toNat) : Int)) ≤ (↑xs.length : Int)) then bif decide (xs.length - (IntKind.i64.wrap (IntKind.i64.wrap ((↑i.toNat : Int) + (1 : Int)) + (↑(xs.length - j.toNat) : Int))).toNat = 1) && decide ((IntKind.i64.wrap (IntKind.i64.wrap ((↑i.toNat : Int) + (1 : Int)) + (↑(xs.length - j.toNat) : Int))).toNat < (List.take (IntKind.i64.wrap (i + (1 : Int))).toNat (List.take i.toNat xs ++ [y] ++ List.drop (i.toNat + 1) xs) ++ List.take (xs.length - j.toNat) (List.drop j.toNat (List.take i.toNat xs ++ [y] ++ List.drop (i.toNat + 1) xs)) ++ List.drop ((IntKind.i64.wrap (i + (1 : Int))).toNat + (List.take (xs.length - j.toNat) (List.drop j.toNat (List.take i.toNat xs ++ [y] ++ List.drop (i.toNat + 1) xs))).length) (List.take i.toNat xs ++ [y] ++ List.drop (i.toNat + 1) xs)).length) then some (AV.hc 0 0 (IntKind.i64.wrap (IntKind.i64.wrap ((↑i.toNat : Int) + (1 : Int)) + (↑(xs.length - j.toNat) : Int))).toNat c, [AObj.arr 10 ((Ty.int IntKind.i64).pair ((Ty.int IntKind.i64).pair ((Ty.int IntKind.i64).pair ((Ty.int IntKind.i64).pair (Ty.raw.pair (Ty.bool.pair (Ty.bool.pair (Ty.bool.pair ((Ty.int IntKind.i64).pair (Ty.int IntKind.u32)))))))))) (List.take (IntKind.i64.wrap (IntKind.i64.wrap ((↑i.toNat : Int) + (1 : Int)) + (↑(xs.length - j.toNat) : Int))).toNat (List.take (IntKind.i64.wrap (i + (1 : Int))).toNat (List.take i.toNat xs ++ [y] ++ List.drop (i.toNat + 1) xs) ++ List.take (xs.length - j.toNat) (List.drop j.toNat (List.take i.toNat xs ++ [y] ++ List.drop (i.toNat + 1) xs)) ++ List.drop ((IntKind.i64.wrap (i + (1 : Int))).toNat + (List.take (xs.length - j.toNat) (List.drop j.toNat (List.take i.toNat xs ++ [y] ++ List.drop (i.toNat + 1) xs))).length) (List.take i.toNat xs ++ [y] ++ List.drop (i.toNat + 1) xs)) ++ [rsegT.zero] ++ List.drop ((IntKind.i64.wrap (IntKind.i64.wrap ((↑i.toNat : Int) + (1 : Int)) + (↑(xs.length - j.toNat) : Int))).toNat + 1) (List.take (IntKind.i64.wrap (i + (1 : Int))).toNat (List.take i.toNat xs ++ [y] ++ List.drop (i.toNat + 1) xs) ++ List.take (xs.length - j.toNat) (List.drop j.toNat (List.take i.toNat xs ++ [y] ++ List.drop (i.toNat + 1) xs)) ++ List.drop ((IntKind.i64.wrap (i + (1 : Int))).toNat + (List.take (xs.length - j.toNat) (List.drop j.toNat (List.take i.toNat xs ++ [y] ++ List.drop (i.toNat + 1) xs))).length) (List.take i.toNat xs ++ [y] ++ List.drop (i.toNat + 1) xs))) [], AObj.arr 10 ((Ty.int IntKind.i64).pair ((Ty.int IntKind.i64).pair ((Ty.int IntKind.i64).pair ((Ty.int IntKind.i64).pair (Ty.raw.pair (Ty.bool.pair (Ty.bool.pair (Ty.bool.pair ((Ty.int IntKind.i64).pair (Ty.int IntKind.u32)))))))))) [y] []]) else none else none else none else none else none else none else none else bif decide ((0 : Int) ≤ IntKind.i64.wrap (i + (1 : Int))) && decide (IntKind.i64.wrap (i + (1 : Int)) ≤ (↑(IntKind.i64.wrap (IntKind.i64.wrap ((↑i.toNat : Int) + (1 : Int)) + (↑(xs.length - j.toNat) : Int))).toNat : Int)) then none else none else bif decide (IntKind.i64.wrap (IntKind.i64.wrap ((↑i.toNat : Int) + (1 : Int)) + (↑(xs.length - j.toNat) : Int)) = (↑xs.length : Int) + (1 : Int)) && decide (xs.length + 1 ≤ c) && decide (0 + xs.length = xs.length) && decide (xs.length < 9223372036854775807) && true then bif decide (IntKind.i64.wrap (i + (1 : Int)) ≤ j) then bif decide ((0 : Int) ≤ i) && decide (i ≤ (↑(xs.length + 1) : Int)) then none else none else bif decide ((0 : Int) ≤ IntKind.i64.wrap (i + (1 : Int))) && decide (IntKind.i64.wrap (i + (1 : Int)) ≤ (↑(xs.length + 1) : Int)) then none else none else none else none else bif decide (i = (↑xs.length : Int) + (1 : Int)) && decide (xs.length + 1 ≤ c) && decide (0 + xs.length = xs.length) && decide (xs.length < 9223372036854775807) && true then none else none else none else none := by kernel_rfl

/-- Two elements gone for one. -/
def twoOne {α : Type} (xs : List α) (i : Nat) (y : α) : List α := xs.take i ++ [y] ++ xs.drop (i + 2)
theorem twoOne_len {α : Type} {xs : List α} {i : Nat} {y : α} (h : i + 2 ≤ xs.length) : (twoOne xs i y).length = xs.length - 1 := by
  unfold twoOne
  simp only [List.length_append, List.length_take, List.length_singleton, List.length_drop]
  omega
theorem repl_list (xs : List RSeg) (y z : RSeg) (i : Nat) (h : i + 2 < xs.length) :
    List.take (xs.length - 1) (List.take (i + 1) (List.take i xs ++ [y] ++ List.drop (i + 1) xs) ++ List.take (xs.length - (i + 2)) (List.drop (i + 2) (List.take i xs ++ [y] ++ List.drop (i + 1) xs)) ++ List.drop (i + 1 + (xs.length - (i + 2))) (List.take i xs ++ [y] ++ List.drop (i + 1) xs)) ++ [z] ++
      List.drop (xs.length - 1 + 1) (List.take (i + 1) (List.take i xs ++ [y] ++ List.drop (i + 1) xs) ++ List.take (xs.length - (i + 2)) (List.drop (i + 2) (List.take i xs ++ [y] ++ List.drop (i + 1) xs)) ++ List.drop (i + 1 + (xs.length - (i + 2))) (List.take i xs ++ [y] ++ List.drop (i + 1) xs)) = twoOne xs i y ++ [z] := by
  have hl : (List.take i xs ++ [y]).length = i + 1 := by simp; omega
  have hA : (List.take i xs ++ [y] ++ List.drop (i + 1) xs).length = xs.length := by simp; omega
  have e1 : List.take (i + 1) (List.take i xs ++ [y] ++ List.drop (i + 1) xs) = List.take i xs ++ [y] := List.take_left' hl
  have e2 : List.drop (i + 2) (List.take i xs ++ [y] ++ List.drop (i + 1) xs) = List.drop (i + 2) xs := by
    rw [show i + 2 = (List.take i xs ++ [y]).length + 1 by omega, List.drop_append, hl]
    have e0 : List.drop (i + 1 + 1) (List.take i xs ++ [y]) = [] := List.drop_eq_nil_of_le (by omega)
    rw [e0, List.nil_append, List.drop_drop, show i + 1 + (i + 1 + 1 - (i + 1)) = i + 1 + 1 by omega]
  have e3 : List.take (xs.length - (i + 2)) (List.drop (i + 2) xs) = List.drop (i + 2) xs := List.take_of_length_le (by simp)
  rw [e1, e2, e3]
  have hT : (List.take i xs ++ [y] ++ List.drop (i + 2) xs).length = xs.length - 1 := twoOne_len (y := y) (by omega)
  rw [List.take_left' hT]
  have hD : List.drop (xs.length - 1 + 1) (List.take i xs ++ [y] ++ List.drop (i + 2) xs ++ List.drop (i + 1 + (xs.length - (i + 2))) (List.take i xs ++ [y] ++ List.drop (i + 1) xs)) = [] := by
    apply List.drop_eq_nil_of_le
    rw [List.length_append, hT, List.length_drop, hA]
    omega
  rw [hD, List.append_nil]
  rfl
theorem repl_raw (xs : List RSeg) (y : RSeg) (c i : Nat) (h : i + 2 < xs.length) (hl : xs.length ≤ 1000000000) (hc : xs.length ≤ c) :
    EffGood P0 I.slices_Replace_api_Segment_api_Segment [.hc 0 0 xs.length c, .int .i64 i, .int .i64 ((i + 2 : Nat) : Int), .hw 1] [.arr 10 rsegT xs [], .arr 10 rsegT [y] []] (.hc 0 0 (xs.length - 1) c) [.arr 10 rsegT (twoOne xs i y ++ [rsegT.zero]) [], .arr 10 rsegT [y] []] := by
  refine evFn_sound (H := H.repl2) (E := envR []) (envR_ok env_nil) globR mixed0 G.slices_Replace_api_Segment_api_Segment (by kernel_rfl) Bd.slices_Replace_api_Segment_api_Segment (LP := LPof []) noLoops ?_
  refine (repl_ev xs y c i ((i + 2 : Nat) : Int)).trans ?_
  have w1 : IntKind.i64.wrap ((i : Int) + 1) = ((i + 1 : Nat) : Int) := by rw [wrap64 (by omega) (by omega)]; omega
  have t2 : (((i + 2 : Nat) : Int)).toNat = i + 2 := Int.toNat_natCast _
  have w2 : IntKind.i64.wrap (((i + 1 : Nat) : Int) + ((xs.length - (i + 2) : Nat) : Int)) = ((xs.length - 1 : Nat) : Int) := by rw [wrap64 (by omega) (by omega)]; omega
  have e1 : ((i : Int) == ((i + 2 : Nat) : Int)) = false := by simp; omega
  have e2 : (((i + 2 : Nat) : Int) == (xs.length : Int)) = false := by simp; omega
  have e3 : decide (((xs.length - 1 : Nat) : Int) > (c : Int)) = false := decide_eq_false (by omega)
  have lA : (List.take i xs ++ [y] ++ List.drop (i + 1) xs).length = xs.length := by simp; omega
  have lB : (List.take (xs.length - (i + 2)) (List.drop (i + 2) (List.take i xs ++ [y] ++ List.drop (i + 1) xs))).length = xs.length - (i + 2) := by rw [List.length_take, List.length_drop, lA]; omega
  have lC : (List.take (i + 1) (List.take i xs ++ [y] ++ List.drop (i + 1) xs) ++ List.take (xs.length - (i + 2)) (List.drop (i + 2) (List.take i xs ++ [y] ++ List.drop (i + 1) xs)) ++ List.drop (i + 1 + (xs.length - (i + 2))) (List.take i xs ++ [y] ++ List.drop (i + 1) xs)).length = xs.length := by
    rw [List.length_append, List.length_append, lB, List.length_take, List.length_drop, lA]; omega
  simp only [Int.toNat_natCast, w1, w2, e1, e2, e3, cond_false, lA, lB, lC]
  rw [cond_pos2 (by omega) (by omega), cond_pos2 (by omega) (by omega), cond_pos2 (by omega) (by omega), cond_pos2 (by omega) (by omega)]
  rw [cond_pos2 (by omega) (by omega), cond_pos (by omega), cond_pos2 (by omega) (by omega), cond_pos2 (by omega) (by omega), cond_pos2 (by omega) (by omega), cond_pos2 (by omega) (by omega), cond_pos2 (by omega) (by omega), cond_pos2 (by omega) (by omega), cond_pos2 (by omega) (by omega), repl_list xs y rsegT.zero i h]
end Go.Sim
namespace Go.Sim
set_option linter.unusedSimpArgs false
set_option linter.unusedVariables false
set_option maxRecDepth 10000
def rcells (r : RSeg) : List Value := [.int .i64 r.1, .int .i64 r.2.1, .int .i64 r.2.2.1, .int .i64 r.2.2.2.1, r.2.2.2.2.1, .bool r.2.2.2.2.2.1, .bool r.2.2.2.2.2.2.1, .bool r.2.2.2.2.2.2.2.1, .int .i64 r.2.2.2.2.2.2.2.2.1, .int .u32 r.2.2.2.2.2.2.2.2.2]
theorem rseg_cells {φ : Nat → Nat} {w : World} {r : RSeg} {ds : List Value} (h : Vt φ w rsegT r ds) : ds = rcells r := by
  simp only [Vt] at h
  obtain ⟨_, _, rfl, ⟨rfl, _⟩, _, _, rfl, ⟨rfl, _⟩, _, _, rfl, ⟨rfl, _⟩, _, _, rfl, ⟨rfl, _⟩, _, _, rfl, ⟨rfl, _⟩, _, _, rfl, rfl, _, _, rfl, rfl, _, _, rfl, rfl, _, _, rfl, ⟨rfl, _⟩, rfl, _⟩ := h
  rfl
theorem rseg_told {φ : Nat → Nat} {w : World} {r : RSeg} (h1 : In .i64 r.1) (h2 : In .i64 r.2.1) (h3 : In .i64 r.2.2.1) (h4 : In .i64 r.2.2.2.1) (h5 : r.2.2.2.2.1.oneCell' = true) (h6 : In .i64 r.2.2.2.2.2.2.2.2.1) (h7 : In .u32 r.2.2.2.2.2.2.2.2.2) : Vt φ w rsegT r (rcells r) := by
  simp only [Vt]
  exact ⟨[_], _, rfl, ⟨rfl, h1⟩, [_], _, rfl, ⟨rfl, h2⟩, [_], _, rfl, ⟨rfl, h3⟩, [_], _, rfl, ⟨rfl, h4⟩, [_], _, rfl, ⟨rfl, h5⟩, [_], _, rfl, rfl, [_], _, rfl, rfl, [_], _, rfl, rfl, [_], _, rfl, ⟨rfl, h6⟩, rfl, h7⟩
theorem rseg_of_seg {φ : Nat → Nat} {w : World} {g : Seg} {ds : List Value} (h : Vt φ w segT g ds) : ∃ r : RSeg, Vt φ w rsegT r ds := by
  obtain ⟨b, n, t, e, l, s, c, m, z, u⟩ := g
  simp only [Vt] at h
  obtain ⟨_, _, rfl, ⟨rfl, h1⟩, _, _, rfl, ⟨rfl, h2⟩, _, _, rfl, ⟨rfl, h3⟩, _, _, rfl, ⟨rfl, h4⟩, _, _, rfl, ⟨_, A, cap, rfl, _⟩, _, _, rfl, rfl, _, _, rfl, rfl, _, _, rfl, rfl, _, _, rfl, ⟨rfl, h6⟩, rfl, h7⟩ := h
  exact ⟨(b, n, t, e, .slice A l.length cap, s, c, m, z, u), rseg_told h1 h2 h3 h4 rfl h6 h7⟩
theorem hw_slice {φ : Nat → Nat} {β : Beta} {w : World} {l : Nat} {v : Value} (h : V φ β w (.hw l) v) : ∃ A n c, v = .slice A n c := by
  simp only [V] at h
  split at h
  · obtain ⟨cap, rfl, _⟩ := h
    exact ⟨_, _, _, rfl⟩
  · obtain ⟨A, rfl⟩ := h
    exact ⟨_, _, _, rfl⟩
  · exact h.elim
theorem rseg_of_act {φ : Nat → Nat} {β : Beta} {w : World} {b n z : Int} {ds : List Value} (h : VL φ β w (actR b n z) ds) : ∃ r : RSeg, Vt φ w rsegT r ds := by
  simp only [VL] at h
  obtain ⟨_, _, rfl, h1, _, _, rfl, h2, _, _, rfl, h3, _, _, rfl, h4, u, _, rfl, h5, _, _, rfl, h6, _, _, rfl, h7, _, _, rfl, h8, _, _, rfl, h9, _, _, rfl, h10, rfl⟩ := h
  obtain ⟨A, m, c, rfl⟩ := hw_slice h5
  simp only [V] at h1 h2 h3 h4 h6 h7 h8 h9 h10
  obtain ⟨rfl, h1⟩ := h1
  obtain ⟨rfl, h2⟩ := h2
  obtain ⟨rfl, h3⟩ := h3
  obtain ⟨rfl, h4⟩ := h4
  obtain ⟨rfl, h9⟩ := h9
  obtain ⟨rfl, h10⟩ := h10
  subst h6 h7 h8
  exact ⟨(b, n, 0, 0, .slice A m c, false, false, false, z, 0), rseg_told h1 h2 h3 h4 rfl h9 h10⟩
theorem seg_of_cells {φ : Nat → Nat} {β : Beta} {w : World} {g : Seg} {ds : List Value} (h : VL φ β w (enc segT g) ds) : Vt φ w segT g ds := by
  obtain ⟨b, n, t, e, l, s, c, m, z, u⟩ := g
  simp only [enc, List.append_nil, List.cons_append, List.nil_append, VL] at h
  obtain ⟨_, _, rfl, h1, _, _, rfl, h2, _, _, rfl, h3, _, _, rfl, h4, _, _, rfl, h5, _, _, rfl, h6, _, _, rfl, h7, _, _, rfl, h8, _, _, rfl, h9, _, _, rfl, h10, rfl⟩ := h
  simp only [V] at h1 h2 h3 h4 h5 h6 h7 h8 h9 h10
  obtain ⟨rfl, h1⟩ := h1
  obtain ⟨rfl, h2⟩ := h2
  obtain ⟨rfl, h3⟩ := h3
  obtain ⟨rfl, h4⟩ := h4
  obtain ⟨rfl, h9⟩ := h9
  obtain ⟨rfl, h10⟩ := h10
  subst h6 h7 h8
  rw [Vt] 
  refine ⟨[_], _, rfl, ⟨rfl, h1⟩, ?_⟩
  rw [Vt]
  refine ⟨[_], _, rfl, ⟨rfl, h2⟩, ?_⟩
  rw [Vt]
  refine ⟨[_], _, rfl, ⟨rfl, h3⟩, ?_⟩
  rw [Vt]
  refine ⟨[_], _, rfl, ⟨rfl, h4⟩, ?_⟩
  rw [Vt]
  refine ⟨[_], _, rfl, h5, ?_⟩
  simp only [Vt]
  exact ⟨[_], _, rfl, rfl, [_], _, rfl, rfl, [_], _, rfl, rfl, [_], _, rfl, ⟨rfl, h9⟩, rfl, h10⟩
theorem ex_list {α : Type} {Q : Nat → α → Prop} : ∀ (n : Nat), (∀ k, k < n → ∃ r, Q k r) → ∃ xs : List α, xs.length = n ∧ ∀ k x, xs[k]? = some x → Q k x
  | 0, _ => ⟨[], rfl, fun k x h => by simp at h⟩
  | n + 1, h => by
    obtain ⟨xs, h1, h2⟩ := ex_list n fun k hk => h k (by omega)
    obtain ⟨r, hr⟩ := h n (by omega)
    refine ⟨xs ++ [r], by simp [h1], fun k x hk => ?_⟩
    rw [List.getElem?_append] at hk
    split at hk
    · exact h2 k x hk
    · rename_i hlt
      have hk0 : k - xs.length = 0 := by
        rcases Nat.eq_zero_or_pos (k - xs.length) with h0 | h0
        · exact h0
        · rw [List.getElem?_eq_none (by simp; omega)] at hk
          cases hk
      rw [hk0] at hk
      simp at hk
      subst hk
      obtain rfl : k = n := by omega
      exact hr
theorem twoOne_get {α : Type} {xs : List α} {i : Nat} {y : α} (h : i + 2 ≤ xs.length) (k : Nat) : (twoOne xs i y)[k]? = if k < i then xs[k]? else if k = i then some y else xs[k + 1]? := by
  have h1 : (List.take i xs).length = i := by simp; omega
  have h2 : (List.take i xs ++ [y]).length = i + 1 := by simp; omega
  unfold twoOne
  by_cases a : k < i
  · rw [if_pos a, List.append_assoc, List.getElem?_append_left (by omega), List.getElem?_take, if_pos a]
  · rw [if_neg a]
    by_cases b : k = i
    · rw [if_pos b, List.getElem?_append_left (by omega), List.getElem?_append_right (by omega), h1, b, Nat.sub_self]; rfl
    · rw [if_neg b, List.getElem?_append_right (by omega), h2, List.getElem?_drop]
      congr 1
      omega
theorem repl_eff (f : List Seg) (b n z : Int) (rs : List Rec) (g : Seg) (i : Nat) (hi : i + 2 ≤ f.length) (hl : f.length < 1000000000) :
    EffGood P0 I.slices_Replace_api_Segment_api_Segment [.hw 0, .int .i64 i, .int .i64 ((i + 2 : Nat) : Int), .hw 2] [.arr 10 segT f [actR b n z], .log recT rs, .arr 10 .bool [] [enc segT g]] (.hw 3) [.dead, .log recT rs, .dead, .arr 10 segT (twoOne f i g) [actR b n z]] := fun own φ β w vs hV hW ht => by
  have r0 := hW.rel 0
  have r1 := hW.rel 1
  have r2 := hW.rel 2
  simp only [List.getElem?_cons_zero, List.getElem?_cons_succ, Option.getD_some] at r0 r1 r2
  simp only [VL] at hV
  obtain ⟨v0, _, rfl, a0, v1, _, rfl, a1, v2, _, rfl, a2, v3, _, rfl, a3, rfl⟩ := hV
  rcases h0 : β 0 with _ | (_ | p)
  · simp only [ObjRel, h0] at r0
  · simp only [ObjRel, h0] at r0
    simp at r0
  rcases h2 : β 2 with _ | (_ | q)
  · simp only [ObjRel, h2] at r2
  · simp only [ObjRel, h2] at r2
    simp at r2
  simp only [ObjRel, h0] at r0
  simp only [ObjRel, h2] at r2
  obtain ⟨p1, p2, p3, p4, p5, p6, p7, p8, p9, p10⟩ := r0
  obtain ⟨q1, q2, q3, q4, q5, q6, q7, q8, q9, q10⟩ := r2
  simp only [List.length_singleton, List.length_nil, Nat.zero_add] at p3 q2 q3
  -- the cells
  obtain ⟨xs, x1, x2⟩ := ex_list (Q := fun k r => Vt φ w rsegT r (rcells r) ∧ CellsAt w p.block (p.off + k * 10) (rcells r) ∧ (∀ x, f[k]? = some x → Vt φ w segT x (rcells r)) ∧ (k = f.length → VL φ β w (actR b n z) (rcells r))) (f.length + 1) fun k hk => by
    by_cases hkf : k < f.length
    · obtain ⟨ds, d1, d2⟩ := p9 k _ (List.getElem?_eq_getElem hkf)
      obtain ⟨r, hr⟩ := rseg_of_seg d1
      have e := rseg_cells hr
      subst e
      exact ⟨r, hr, d2, fun x hx => by rw [List.getElem?_eq_getElem hkf] at hx; cases hx; exact d1, fun e => by omega⟩
    · obtain rfl : k = f.length := by omega
      obtain ⟨_, ds, d1, d2⟩ := p10 0 _ rfl
      obtain ⟨r, hr⟩ := rseg_of_act d1
      have e := rseg_cells hr
      subst e
      exact ⟨r, hr, d2, fun x hx => by simp at hx, fun _ => d1⟩
  obtain ⟨y, y1, y2, y3⟩ : ∃ r, Vt φ w rsegT r (rcells r) ∧ CellsAt w q.block (q.off + 0 * 10) (rcells r) ∧ Vt φ w segT g (rcells r) := by
    obtain ⟨_, ds, d1, d2⟩ := q10 0 _ rfl
    have d3 := seg_of_cells d1
    obtain ⟨r, hr⟩ := rseg_of_seg d3
    have e := rseg_cells hr
    subst e
    exact ⟨r, hr, d2, d3⟩
  have hd02 : p.block ≠ q.block := hW.dist 0 2 p q (by decide) (by simp) (by simp) h0 h2
  have m0 := hW.mine 0 p (by simp) h0
  have m2 := hW.mine 2 q (by simp) h2
  simp only [V, h0] at a0
  obtain ⟨cap, rfl, c1, c2, c3⟩ := a0
  simp only [V] at a1 a2
  simp only [V, h2] at a3
  obtain ⟨cap2, rfl, c4, c5, c6⟩ := a3
  have m1 : ∀ l, β 1 = some (some l) → l.block < w.heap.size := fun l hl => (hW.mine 1 l (by simp) hl).2
  obtain ⟨β1, hβ⟩ : ∃ β1 : Beta, β1 = fun l => if l = 0 then some (some ⟨p.block, p.off, 10, f.length + 1, f.length + 1⟩) else if l = 1 then some (some ⟨q.block, q.off, 10, 1, 1⟩) else none := ⟨_, rfl⟩
  have b0 : β1 0 = some (some ⟨p.block, p.off, 10, f.length + 1, f.length + 1⟩) := by rw [hβ]; rfl
  have b1 : β1 1 = some (some ⟨q.block, q.off, 10, 1, 1⟩) := by rw [hβ]; rfl
  have b2 : ∀ l, 2 ≤ l → β1 l = none := fun l hl => by rw [hβ]; show (if l = 0 then _ else if l = 1 then _ else none) = none; rw [if_neg (by omega), if_neg (by omega)]
  have hrun := repl_raw xs y cap i (by omega) (by omega) (by omega) (fun k => own k ∧ ∀ l, β 1 = some (some l) → k ≠ l.block) φ β1 w
    [.slice (some ⟨p.block, p.off, none⟩) p.len cap, v1, v2, .slice (some ⟨q.block, q.off, none⟩) q.len cap2] ?_ ?_ b2
  · refine hrun.mono fun e w' ⟨v, φ', β', he, hr, hVr, hWI, htop⟩ => ?_
    have e0 : β' 0 = some (some ⟨p.block, p.off, 10, f.length + 1, f.length + 1⟩) := (hr.agree 0 (by simp)).trans b0
    obtain ⟨β2, hβ2⟩ : ∃ β2 : Beta, β2 = fun l => if l < 3 then β l else if l = 3 then some (some ⟨p.block, p.off, 10, f.length - 1, f.length⟩) else none := ⟨_, rfl⟩
    have g0 : ∀ l, l < 3 → β2 l = β l := fun l hl => by rw [hβ2]; show (if l < 3 then _ else _) = _; rw [if_pos hl]
    have g3 : β2 3 = some (some ⟨p.block, p.off, 10, f.length - 1, f.length⟩) := by rw [hβ2]; rfl
    have g4 : ∀ l, 4 ≤ l → β2 l = none := fun l hl => by rw [hβ2]; show (if l < 3 then _ else if l = 3 then _ else none) = none; rw [if_neg (by omega), if_neg (by omega)]
    have hx : Ext β β2 := fun l x hl => by
      by_cases h : l < 3
      · rw [g0 l h]; exact hl
      · rw [ht l (by simp; omega)] at hl; cases hl
    have hold : ∀ l, β 1 = some (some l) → w'.heap[l.block]? = w.heap[l.block]? ∧ φ' l.block = φ l.block := fun l hl => hr.old _ (m1 l hl) fun h => h.2 l hl rfl
    have R0 := hWI.rel 0
    simp only [List.getElem?_cons_zero, Option.getD_some, ObjRel, e0] at R0
    obtain ⟨-, -, -, -, -, s6, s7, s8, s9, -⟩ := R0
    have tl : (twoOne f i g).length = f.length - 1 := twoOne_len (by omega)
    have tx : (twoOne xs i y).length = f.length := by rw [twoOne_len (by omega), x1]; rfl
    have cell : ∀ k r, (twoOne xs i y)[k]? = some r → CellsAt w' p.block (p.off + k * 10) (rcells r) := fun k r hk => by
      have hlt : k < (twoOne xs i y).length := (List.getElem?_eq_some_iff.1 hk).1
      obtain ⟨ds, d1, d2⟩ := s9 k r (by rw [List.getElem?_append_left hlt]; exact hk)
      rw [rseg_cells d1] at d2
      exact d2
    refine ⟨v, φ', β2, he, ⟨hr.keeps, fun l hl => g0 l (by simpa using hl), hr.grow, fun c hc ho => hr.old c hc fun h => ho h.1⟩, ?_, ?_, fun l hl => g4 l (by simpa using hl)⟩
    · simp only [V, e0] at hVr
      obtain ⟨k1, k2, A, rfl, k3, k4⟩ := hVr
      obtain ⟨rfl, k5⟩ := k4 (by omega)
      simp only [V, g3]
      refine ⟨cap, ?_, by omega, k2, by simpa using k5⟩
      simp [x1]
    · refine ⟨fun l => ?_, fun l u hl hu => ?_, fun l m u u' hlm hl hm hu hu' => ?_, fun c hc => ⟨(hWI.fresh c hc).1.1, (hWI.fresh c hc).2⟩, hWI.laid⟩
      · match l with
        | 0 => simp [ObjRel]
        | 1 => exact ObjRel.keep hr.keeps hx hold r1
        | 2 => simp [ObjRel]
        | 3 =>
          simp only [List.getElem?_cons_zero, List.getElem?_cons_succ, Option.getD_some, ObjRel, g3]
          refine ⟨trivial, tl.symm, by rw [tl]; simp; omega, by rw [p3] at p4; omega, fun _ => rfl, s6, s7, ?_, fun k x hk => ?_, fun k e hk => ?_⟩
          · obtain ⟨c, t, fr, u1, u2⟩ := s8
            exact ⟨c, t, fr, u1, by omega⟩
          · rw [twoOne_get hi] at hk
            by_cases a : k < i
            · rw [if_pos a] at hk
              have hkx : k < xs.length := by omega
              have h3 := cell k _ (by rw [twoOne_get (by omega), if_pos a]; exact List.getElem?_eq_getElem hkx)
              exact ⟨_, Vt.keep hr.keeps _ _ _ ((x2 k _ (List.getElem?_eq_getElem hkx)).2.2.1 x hk), h3⟩
            · rw [if_neg a] at hk
              by_cases b : k = i
              · rw [if_pos b] at hk
                cases hk
                have h3 := cell k y (by rw [twoOne_get (by omega), if_neg a, if_pos b])
                exact ⟨_, Vt.keep hr.keeps _ _ _ y3, h3⟩
              · rw [if_neg b] at hk
                have hkf : k + 1 < f.length := (List.getElem?_eq_some_iff.1 hk).1
                have hkx : k + 1 < xs.length := by omega
                have h3 := cell k _ (by rw [twoOne_get (by omega), if_neg a, if_neg b]; exact List.getElem?_eq_getElem hkx)
                exact ⟨_, Vt.keep hr.keeps _ _ _ ((x2 (k + 1) _ (List.getElem?_eq_getElem hkx)).2.2.1 x hk), h3⟩
          · match k, hk with
            | 0, hk =>
              simp at hk
              subst hk
              have hkx : f.length < xs.length := by omega
              have h3 := cell (f.length - 1) _ (by rw [twoOne_get (by omega), if_neg (by omega), if_neg (by omega), show f.length - 1 + 1 = f.length by omega]; exact List.getElem?_eq_getElem hkx)
              refine ⟨rfl, _, VL.keep hr.keeps hx _ _ ((x2 f.length _ (List.getElem?_eq_getElem hkx)).2.2.2 rfl), ?_⟩
              rw [tl]
              exact h3
        | l + 4 => simp [ObjRel]
      · match l, hl, hu with
        | 0, hl, _ => exact absurd (by simp) hl
        | 1, _, hu =>
          rw [g0 1 (by decide)] at hu
          have := hW.mine 1 u (by simp) hu
          exact ⟨this.1, Nat.lt_of_lt_of_le this.2 hr.grow⟩
        | 2, hl, _ => exact absurd (by simp) hl
        | 3, _, hu =>
          rw [g3] at hu
          cases hu
          exact ⟨m0.1, Nat.lt_of_lt_of_le m0.2 hr.grow⟩
        | l + 4, hl, _ => exact absurd (by simp) hl
      · match l, m, hl, hm, hu, hu' with
        | 0, _, hl, _, _, _ => exact absurd (by simp) hl
        | _, 0, _, hm, _, _ => exact absurd (by simp) hm
        | 2, _, hl, _, _, _ => exact absurd (by simp) hl
        | _, 2, _, hm, _, _ => exact absurd (by simp) hm
        | 1, 1, _, _, _, _ => exact absurd rfl hlm
        | 3, 3, _, _, _, _ => exact absurd rfl hlm
        | 1, 3, _, _, hu, hu' =>
          rw [g0 1 (by decide)] at hu
          rw [g3] at hu'
          cases hu'
          exact hW.dist 1 0 u p (by decide) (by simp) (by simp) hu h0
        | 3, 1, _, _, hu, hu' =>
          rw [g3] at hu
          rw [g0 1 (by decide)] at hu'
          cases hu
          exact hW.dist 0 1 p u' (by decide) (by simp) (by simp) h0 hu'
        | l + 4, _, hl, _, _, _ => exact absurd (by simp) hl
        | _, l + 4, _, hm, _, _ => exact absurd (by simp) hm
  · simp only [VL]
    refine ⟨_, _, rfl, ?_, _, _, rfl, ?_, _, _, rfl, ?_, _, _, rfl, ?_, rfl⟩
    · simp only [V, b0]
      refine ⟨by omega, c2, _, by rw [x1, p3], by omega, fun _ => ⟨by simp, ?_⟩⟩
      rw [p1] at c3
      simpa using c3
    · simp only [V]; exact a1
    · simp only [V]; exact a2
    · simp only [V, b1]
      refine ⟨cap2, by rw [q3], by omega, c5, ?_⟩
      rw [q1] at c6
      exact c6
  · refine ⟨fun l => ?_, fun l u hl hu => ?_, fun l m u u' hlm hl hm hu hu' => ?_, fun c hc => ?_, hW.laid⟩
    · match l with
      | 0 =>
        simp only [List.getElem?_cons_zero, Option.getD_some, ObjRel, b0]
        refine ⟨trivial, x1.symm, by simp [x1], by rw [← p3]; exact p4, fun _ => rfl, p6, p7, ?_, fun k x hx => ?_, fun k e he => by simp at he⟩
        · rw [p3] at p8
          exact p8
        · obtain ⟨d1, d2, _⟩ := x2 k x hx
          exact ⟨_, d1, d2⟩
      | 1 =>
        simp only [List.getElem?_cons_zero, List.getElem?_cons_succ, Option.getD_some, ObjRel, b1]
        refine ⟨trivial, rfl, rfl, by decide, fun _ => rfl, q6, q7, ?_, fun k x hx => ?_, fun k e he => by simp at he⟩
        · rw [q3] at q8
          exact q8
        · match k, hx with
          | 0, hx =>
            simp at hx
            subst hx
            exact ⟨_, y1, y2⟩
      | l + 2 => simp [ObjRel]
    · match l, hl, hu with
      | 0, _, hu =>
        rw [b0] at hu
        cases hu
        exact ⟨⟨m0.1, fun l hl => (hW.dist 0 1 p l (by decide) (by simp) (by simp) h0 hl)⟩, m0.2⟩
      | 1, _, hu =>
        rw [b1] at hu
        cases hu
        exact ⟨⟨m2.1, fun l hl => (hW.dist 2 1 q l (by decide) (by simp) (by simp) h2 hl)⟩, m2.2⟩
      | l + 2, hl, _ => exact absurd (by simp) hl
    · match l, m, hl, hm, hu, hu' with
      | 0, 0, _, _, _, _ => exact absurd rfl hlm
      | 1, 1, _, _, _, _ => exact absurd rfl hlm
      | 0, 1, _, _, hu, hu' =>
        rw [b0] at hu
        rw [b1] at hu'
        cases hu
        cases hu'
        exact hd02
      | 1, 0, _, _, hu, hu' =>
        rw [b1] at hu
        rw [b0] at hu'
        cases hu
        cases hu'
        exact fun e => hd02 e.symm
      | l + 2, _, hl, _, _, _ => exact absurd (by simp) hl
      | _, l + 2, _, hl, _, _ => exact absurd (by simp) hl
    · obtain ⟨h1, h2⟩ := hW.fresh c hc
      exact ⟨⟨h1, fun l hl e => by have := m1 l hl; omega⟩, h2⟩

end Go.Sim
namespace Go.Sim
set_option linter.unusedSimpArgs false
set_option linter.unusedVariables false
set_option maxRecDepth 10000
theorem kk3_rd {R : Type} (a b : List (List Rec)) (s n i : Int) (K : Ex → St → Option R) : roundK (env []) H.slices_Concat_api_Record_api_Record 0 (LPof []) V.slices_Concat_api_Record_api_Record_3 L.slices_Concat_api_Record_api_Record_3 ⟨[(0, .vl (.sl recT) a), (3, .int .i64 s), (9, .vl (.sl recT) b), (10, .int .i64 n), (11, .int .i64 i)], [], 0⟩ K = bif decide (i < n) then bif decide ((0 : Int) ≤ i) && decide (i < (↑b.length : Int)) then bif decide (IntKind.i64.wrap (s + (↑(List.length (b.getD i.toNat [])) : Int)) < (0 : Int)) then none else K Ex.normal { slots := [(0, AV.vl recTy.sl a), (3, AV.int IntKind.i64 (IntKind.i64.wrap (s + (↑(List.length (b.getD i.toNat [])) : Int)))), (9, AV.vl recTy.sl b), (10, AV.int IntKind.i64 n), (11, AV.int IntKind.i64 (IntKind.i64.wrap (i + (1 : Int))))], objs := [], nx := 0 } else none else K (Ex.exit 0) { slots := [(0, AV.vl recTy.sl a), (3, AV.int IntKind.i64 s), (9, AV.vl recTy.sl b), (10, AV.int IntKind.i64 n), (11, AV.int IntKind.i64 i)], objs := [], nx := 0 } := by kernel_rfl

theorem kk11a_rd {R : Type} (b : List (List Rec)) (n i : Int) (xs : List Rec) (K : Ex → St → Option R) : roundK (env []) H.slices_Concat_api_Record_api_Record 0 (LPof []) V.slices_Concat_api_Record_api_Record_11 L.slices_Concat_api_Record_api_Record_11 ⟨[(6, .hs 0 0 0), (25, .vl (.sl recT) b), (26, .int .i64 n), (27, .int .i64 i)], [(0, .arr 5 recT xs [])], 1⟩ K = bif decide (i < n) then bif decide ((0 : Int) ≤ i) && decide (i < (↑b.length : Int)) then bif decide ((List.take 0 xs ++ b.getD i.toNat []).length * 56 ≤ 140737488355328) then K Ex.normal { slots := [(6, AV.hw 0), (25, AV.vl recTy.sl b), (26, AV.int IntKind.i64 n), (27, AV.int IntKind.i64 (IntKind.i64.wrap (i + (1 : Int))))], objs := [(0, AObj.arr 5 recTy (List.take 0 xs ++ b.getD i.toNat []) [])], nx := 1 } else none else none else K (Ex.exit 2) { slots := [(6, AV.hs 0 0 0), (25, AV.vl recTy.sl b), (26, AV.int IntKind.i64 n), (27, AV.int IntKind.i64 i)], objs := [(0, AObj.arr 5 recTy xs [])], nx := 1 } := by kernel_rfl

theorem kk11b_rd {R : Type} (b : List (List Rec)) (n i : Int) (xs : List Rec) (K : Ex → St → Option R) : roundK (env []) H.slices_Concat_api_Record_api_Record 0 (LPof []) V.slices_Concat_api_Record_api_Record_11 L.slices_Concat_api_Record_api_Record_11 ⟨[(6, .hw 0), (25, .vl (.sl recT) b), (26, .int .i64 n), (27, .int .i64 i)], [(0, .arr 5 recT xs [])], 1⟩ K = bif decide (i < n) then bif decide ((0 : Int) ≤ i) && decide (i < (↑b.length : Int)) then bif decide ((xs ++ b.getD i.toNat []).length * 56 ≤ 140737488355328) then K Ex.normal { slots := [(6, AV.hw 0), (25, AV.vl recTy.sl b), (26, AV.int IntKind.i64 n), (27, AV.int IntKind.i64 (IntKind.i64.wrap (i + (1 : Int))))], objs := [(0, AObj.arr 5 recTy (xs ++ b.getD i.toNat []) [])], nx := 1 } else none else none else K (Ex.exit 2) { slots := [(6, AV.hw 0), (25, AV.vl recTy.sl b), (26, AV.int IntKind.i64 n), (27, AV.int IntKind.i64 i)], objs := [(0, AObj.arr 5 recTy xs [])], nx := 1 } := by kernel_rfl

theorem rgrow_ev (n : Int) : evFn (env []) H.slices_Grow_api_Record_api_Record (LPof []) F.slices_Grow_api_Record_api_Record [.nils, .int .i64 n] [] (finV (.hs 0) [.arr 5 recT []] 0) = bif decide (n < (0 : Int)) then none else bif decide (IntKind.i64.wrap (n - (0 : Int)) > (0 : Int)) then bif decide ((0 : Int) < IntKind.i64.wrap (n - (0 : Int))) && decide ((IntKind.i64.wrap (n - (0 : Int))).toNat * 56 ≤ 140737488355328) then some ((0, 0), (List.replicate (IntKind.i64.wrap (n - (0 : Int))).toNat recTy.zero, ()), ()) else none else none := by kernel_rfl

def H.rgrow2 : Hint := { H.slices_Grow_api_Record_api_Record with vs := [] }
theorem rgrow0_ev : evFn (env []) H.rgrow2 (LPof []) F.slices_Grow_api_Record_api_Record [.nils, .int .i64 0] [] (finV (.lit .nils) [] 0) = some ((), ()) := by kernel_rfl
def caseRgrow : VCase := ⟨[.lit .nils, .int .i64], [], .hs 0, [.arr 5 recT []], fun ⟨_, n, ()⟩ () => [(decide (0 < n) && decide (n ≤ 1000000000), (((0 : Nat), (0 : Nat)), ((List.replicate n.toNat recT.zero, ()), ())))]⟩
theorem rgrow_val (n : Int) (hc : (decide (0 < n) && decide (n ≤ 1000000000)) = true) : evFn (env []) H.slices_Grow_api_Record_api_Record (LPof []) F.slices_Grow_api_Record_api_Record [.nils, .int .i64 n] [] (finV (.hs 0) [.arr 5 recT []] 0) = some (((0 : Nat), (0 : Nat)), ((List.replicate n.toNat recT.zero, ()), ())) := by
  simp only [Bool.and_eq_true, decide_eq_true_eq] at hc
  have e : IntKind.i64.wrap (n - (0 : Int)) = n := by rw [wrap64 (by omega) (by omega)]; omega
  rw [rgrow_ev, e, cond_neg (by omega), cond_pos (by omega), cond_pos2 (by omega) (by omega)]
theorem rgrow_ok : caseRgrow.e.ok P0 I.slices_Grow_api_Record_api_Record := vcase_ok (c := caseRgrow) (H := H.slices_Grow_api_Record_api_Record) (E := env []) (env_ok env_nil) glob0 mixed0 G.slices_Grow_api_Record_api_Record Bd.slices_Grow_api_Record_api_Record (by kernel_rfl) noLoops fun ⟨_, n, ()⟩ () r h hw1 hw2 => by
  obtain ⟨hc, rfl⟩ := pick_pre h
  exact rgrow_val n hc
def caseRgrow0 : VCase := ⟨[.lit .nils, .lit (.int .i64 0)], [], .lit .nils, [], fun _ _ => [(true, ((), ()))]⟩
theorem rgrow0_ok : caseRgrow0.e.ok P0 I.slices_Grow_api_Record_api_Record := vcase_ok (c := caseRgrow0) (H := H.rgrow2) (E := env []) (env_ok env_nil) glob0 mixed0 G.slices_Grow_api_Record_api_Record Bd.slices_Grow_api_Record_api_Record (by kernel_rfl) noLoops fun _ _ r h hw1 hw2 => by
  obtain ⟨hc, rfl⟩ := pick_pre h
  exact rgrow0_ev
noncomputable abbrev consK20 : List (FuncId × Con) := [(I.slices_Grow_api_Record_api_Record, .eff (effOf [caseRgrow0.e]))]
theorem consK20_ok : ∀ x ∈ consK20, HoldsC P0 x.1 x.2 := by
  intro x hx
  simp at hx
  subst hx
  exact ⟨fun args objs r objs2 h _ => effOf_holds (by simp; exact rgrow0_ok) args objs r objs2 h, C.slices_Grow_api_Record_api_Record⟩
noncomputable abbrev consK2 : List (FuncId × Con) := [(I.slices_Grow_api_Record_api_Record, .eff (effOf [caseRgrow.e]))]
theorem consK2_ok : ∀ x ∈ consK2, HoldsC P0 x.1 x.2 := by
  intro x hx
  simp at hx
  subst hx
  exact ⟨fun args objs r objs2 h _ => effOf_holds (by simp; exact rgrow_ok) args objs r objs2 h, C.slices_Grow_api_Record_api_Record⟩
def lenR (b : List (List Rec)) (i : Nat) : Nat := ((b.take i).map List.length).sum
theorem lenR_succ {b : List (List Rec)} {i : Nat} (h : i < b.length) : lenR b (i + 1) = lenR b i + (b.getD i []).length := by
  unfold lenR
  rw [List.getD_eq_getElem?_getD, List.getElem?_eq_getElem h, List.take_add_one, List.getElem?_eq_getElem h]
  simp only [Option.toList_some, List.map_append, List.sum_append_nat, Option.getD_some, List.map_cons, List.map_nil, List.sum_cons, List.sum_nil, Nat.add_zero]
theorem lenR_mono (b : List (List Rec)) : ∀ (m i : Nat), i + m = b.length → lenR b i ≤ lenR b b.length
  | 0, i, h => by rw [show i = b.length by omega]; exact Nat.le_refl _
  | m + 1, i, h => by
    have := lenR_mono b m (i + 1) (by omega)
    rw [lenR_succ (by omega)] at this
    omega
theorem lenR_le {b : List (List Rec)} {i : Nat} (h : i ≤ b.length) : lenR b i ≤ lenR b b.length := lenR_mono b (b.length - i) i (by omega)
theorem rflat_len (b : List (List Rec)) (i : Nat) : (b.take i).flatten.length = lenR b i := by unfold lenR; rw [List.length_flatten]
theorem rflat_succ {b : List (List Rec)} {i : Nat} (h : i < b.length) : (b.take (i + 1)).flatten = (b.take i).flatten ++ b.getD i [] := by
  rw [List.getD_eq_getElem?_getD, List.getElem?_eq_getElem h, List.take_add_one, List.getElem?_eq_getElem h]
  simp only [Option.toList_some, List.flatten_append, Option.getD_some, List.flatten_cons, List.flatten_nil, List.append_nil]
def k3St (b : List (List Rec)) (i : Nat) : St := ⟨[(0, .vl (.sl recT) b), (3, .int .i64 (lenR b i : Nat)), (9, .vl (.sl recT) b), (10, .int .i64 b.length), (11, .int .i64 i)], [], 0⟩
theorem k3_rounds {R : Type} (b : List (List Rec)) (hb : lenR b b.length ≤ 1000000000) (hm : b.length ≤ maxL) (K : Ex → St → Option R) : ∀ (m i : Nat), i + m = b.length → rounds (env []) H.slices_Concat_api_Record_api_Record 0 (LPof []) V.slices_Concat_api_Record_api_Record_3 L.slices_Concat_api_Record_api_Record_3 (m + 1) (k3St b i) K = K (.exit 0) (k3St b b.length)
  | 0, i, h => by
    obtain rfl : i = b.length := by omega
    rw [rounds_succ']
    refine (kk3_rd _ _ _ _ _ _).trans ?_
    rw [cond_neg (by omega)]
    rfl
  | m + 1, i, h => by
    have ih := k3_rounds b hb hm K m (i + 1) (by omega)
    unfold maxL at hm
    have h1 := lenR_succ (b := b) (i := i) (by omega)
    have h2 := lenR_le (b := b) (i := i + 1) (by omega)
    have e1 : IntKind.i64.wrap ((lenR b i : Nat) + ((b.getD i []).length : Int)) = ((lenR b (i + 1) : Nat) : Int) := by rw [wrap64 (by omega) (by omega), h1]; omega
    have e3 : IntKind.i64.wrap ((i : Int) + 1) = ((i + 1 : Nat) : Int) := by rw [wrap64 (by omega) (by omega)]; omega
    rw [rounds_succ']
    refine (kk3_rd _ _ _ _ _ _).trans ?_
    rw [cond_pos (by omega), cond_pos2 (by omega) (by omega), Int.toNat_natCast, e1, cond_neg (by omega), e3]
    exact ih
abbrev k3LC : LoopC := LoopC.of ⟨[(0, .vl (.sl recT)), (3, .int .i64), (9, .vl (.sl recT)), (10, .int .i64), (11, .int .i64)], []⟩ (fun x => decide (x.1.2.2.2.2.1 = (0 : Int)) && decide (x.1.2.1 = (0 : Int)) && decide (x.1.2.2.1 = x.1.1) && decide (x.1.2.2.2.1 = (List.length x.1.1 : Int)) && decide (lenR x.1.1 (List.length x.1.1) ≤ 1000000000))
  fun x => [(true, .exit 0, k3St x.1.1 (List.length x.1.1))]
theorem k3_lok : LoopOK P0 H.slices_Concat_api_Record_api_Record 0 L.slices_Concat_api_Record_api_Record_3 k3LC :=
  loop_ok_of (env_ok env_nil) glob0 mixed0 noLoops V.slices_Concat_api_Record_api_Record_3 (by decide) fun ⟨⟨a, s, b, n, i, _⟩, _⟩ h hw => by
    simp only [Bool.and_eq_true, decide_eq_true_eq] at h
    obtain ⟨⟨⟨⟨rfl, rfl⟩, rfl⟩, rfl⟩, h5⟩ := h
    exact ⟨_, k3_rounds b h5 hw.1.1.1 _ b.length 0 (Nat.zero_add _)⟩
def k11St (b : List (List Rec)) (i : Nat) : St := ⟨[(6, .hw 0), (25, .vl (.sl recT) b), (26, .int .i64 b.length), (27, .int .i64 i)], [(0, .arr 5 recT (b.take i).flatten [])], 1⟩
theorem k11_rounds {R : Type} (b : List (List Rec)) (hb : lenR b b.length ≤ 1000000000) (hm : b.length ≤ maxL) (K : Ex → St → Option R) : ∀ (m i : Nat), i + m = b.length → rounds (env []) H.slices_Concat_api_Record_api_Record 0 (LPof []) V.slices_Concat_api_Record_api_Record_11 L.slices_Concat_api_Record_api_Record_11 (m + 1) (k11St b i) K = K (.exit 2) (k11St b b.length)
  | 0, i, h => by
    obtain rfl : i = b.length := by omega
    rw [rounds_succ']
    refine (kk11b_rd _ _ _ _ _).trans ?_
    rw [cond_neg (by omega)]
    rfl
  | m + 1, i, h => by
    have ih := k11_rounds b hb hm K m (i + 1) (by omega)
    unfold maxL at hm
    have h2 := lenR_le (b := b) (i := i + 1) (by omega)
    have e1 := rflat_succ (b := b) (i := i) (by omega)
    have e2 := rflat_len b (i + 1)
    have e3 : IntKind.i64.wrap ((i : Int) + 1) = ((i + 1 : Nat) : Int) := by rw [wrap64 (by omega) (by omega)]; omega
    rw [rounds_succ']
    refine (kk11b_rd _ _ _ _ _).trans ?_
    rw [cond_pos (by omega), cond_pos2 (by omega) (by omega), Int.toNat_natCast, ← e1, e2, cond_pos (by omega), e3]
    exact ih
theorem k11_go {R : Type} (b : List (List Rec)) (xs : List Rec) (h0 : 0 < b.length) (hb : lenR b b.length ≤ 1000000000) (hm : b.length ≤ maxL) (K : Ex → St → Option R) : ∃ m, rounds (env []) H.slices_Concat_api_Record_api_Record 0 (LPof []) V.slices_Concat_api_Record_api_Record_11 L.slices_Concat_api_Record_api_Record_11 m ⟨[(6, .hs 0 0 0), (25, .vl (.sl recT) b), (26, .int .i64 b.length), (27, .int .i64 0)], [(0, .arr 5 recT xs [])], 1⟩ K = K (.exit 2) (k11St b b.length) := by
  refine ⟨b.length - 1 + 1 + 1, ?_⟩
  have ih := k11_rounds b hb hm K (b.length - 1) 1 (by omega)
  have h2 := lenR_le (b := b) (i := 1) (by omega)
  have e1 := rflat_succ (b := b) (i := 0) h0
  have e2 := rflat_len b 1
  have e0 : (0 : Int).toNat = 0 := rfl
  have e4 : List.take 0 xs ++ b.getD 0 [] = (b.take 1).flatten := by rw [e1]; simp
  rw [rounds_succ']
  refine (kk11a_rd _ _ _ _ _).trans ?_
  rw [cond_pos (by omega), cond_pos2 (by omega) (by omega), e0, e4, e2, cond_pos (by omega)]
  exact ih
abbrev k11LC : LoopC := LoopC.of ⟨[(6, .hs 0), (25, .vl (.sl recT)), (26, .int .i64), (27, .int .i64)], [.arr 5 recT []]⟩ (fun x => decide (x.1.1.1 = 0) && decide (x.1.1.2 = 0) && decide (x.1.2.2.2.1 = (0 : Int)) && decide (x.1.2.2.1 = (List.length x.1.2.1 : Int)) && decide (0 < List.length x.1.2.1) && decide (lenR x.1.2.1 (List.length x.1.2.1) ≤ 1000000000))
  fun x => [(true, .exit 2, k11St x.1.2.1 (List.length x.1.2.1))]
theorem k11_lok : LoopOK P0 H.slices_Concat_api_Record_api_Record 0 L.slices_Concat_api_Record_api_Record_11 k11LC :=
  loop_ok_of (env_ok env_nil) glob0 mixed0 noLoops V.slices_Concat_api_Record_api_Record_11 (by decide) fun ⟨⟨⟨o, q⟩, b, n, i, _⟩, ⟨⟨xs, _⟩, _⟩⟩ h hw => by
    simp only [Bool.and_eq_true, decide_eq_true_eq] at h
    obtain ⟨⟨⟨⟨⟨rfl, rfl⟩, rfl⟩, rfl⟩, h3⟩, h4⟩ := h
    exact k11_go b xs h3 h4 hw.1.2.1.1 _
theorem rconcat_ev (b : List (List Rec)) : evFn (env consK2) H.slices_Concat_api_Record_api_Record (LPof [(3, k3LC), (11, k11LC)]) F.slices_Concat_api_Record_api_Record [.vl (.sl recT) b] [] (finT [.sl recT]) = bif decide (b = b) && decide ((↑b.length : Int) = (↑b.length : Int)) && decide (lenR b b.length ≤ 1000000000) && true then bif decide ((0 : (Pat.int IntKind.i64).den) < (↑(lenR b b.length) : Int)) && decide ((↑(lenR b b.length) : Int) ≤ (1000000000 : (Pat.int IntKind.i64).den)) then bif decide ((↑b.length : Int) = (↑b.length : Int)) && decide (0 < b.length) && decide (lenR b b.length ≤ 1000000000) && true then some ((List.take b.length b).flatten, ()) else none else none else none := by kernel_rfl

theorem rconcat0_ev : evFn (env consK20) H.slices_Concat_api_Record_api_Record (loopsF (env consK20) H.slices_Concat_api_Record_api_Record 0 B.slices_Concat_api_Record_api_Record 3) F.slices_Concat_api_Record_api_Record [.vl (.sl recT) []] [] (finT [.sl recT]) = some ([], ()) := by kernel_rfl

theorem rconcat00_ev : evFn (env consK20) H.slices_Concat_api_Record_api_Record (loopsF (env consK20) H.slices_Concat_api_Record_api_Record 0 B.slices_Concat_api_Record_api_Record 5) F.slices_Concat_api_Record_api_Record [.vl (.sl recT) [[], []]] [] (finT [.sl recT]) = some ([[], []].getD 0 [] ++ [[], []].getD 1 [], ()) := by kernel_rfl

def rjoinB (b : List (List Rec)) : Bool := decide (b.length = 2) && decide (lenR b b.length ≤ 1000000000)
def caseRconcat : PCase := ⟨[.ty (.sl (.sl recT))], [.sl recT], fun x => [(rjoinB x.1, (List.flatten x.1, ()))]⟩
def caseRconcatA : PCase := ⟨[.ty (.sl (.sl recT))], [.sl recT], fun x => [(decide (0 < lenR x.1 (List.length x.1)) && decide (lenR x.1 (List.length x.1) ≤ 1000000000), (List.flatten x.1, ()))]⟩
def caseRconcat0 : PCase := ⟨[.ty (.sl (.sl recT))], [.sl recT], fun x => [(decide (x.1 = [[], []]), ([], ()))]⟩
theorem rconcatA_ok : caseRconcatA.ok P0 I.slices_Concat_api_Record_api_Record := case_ok2 (H := H.slices_Concat_api_Record_api_Record) (E := env consK2) (env_ok consK2_ok) glob0 mixed0 G.slices_Concat_api_Record_api_Record Bd.slices_Concat_api_Record_api_Record (by kernel_rfl) (loops_good (tab := [(3, k3LC), (11, k11LC)]) (by kernel_rfl) (fun x hx => by simp at hx; rcases hx with rfl | rfl; exact k3_lok; exact k11_lok)) fun ⟨b, ()⟩ y h hw => by
  obtain ⟨hc, rfl⟩ := pick_pre h
  simp only [Bool.and_eq_true, decide_eq_true_eq] at hc
  have h0 : 0 < b.length := by
    rcases Nat.eq_zero_or_pos b.length with h | h
    · have : lenR b b.length = 0 := by rw [h]; rfl
      omega
    · exact h
  refine (rconcat_ev b).trans ?_
  have e1 : decide ((0 : (Pat.int IntKind.i64).den) < ((lenR b b.length : Nat) : Int)) = true := decide_eq_true (show (0 : Int) < ((lenR b b.length : Nat) : Int) by omega)
  have e2 : decide (((lenR b b.length : Nat) : Int) ≤ (1000000000 : (Pat.int IntKind.i64).den)) = true := decide_eq_true (show ((lenR b b.length : Nat) : Int) ≤ 1000000000 by omega)
  simp only [e1, e2, hc.2, h0, decide_true, Bool.and_self, cond_true, List.take_length]
  rfl
theorem rconcat0_ok : caseRconcat0.ok P0 I.slices_Concat_api_Record_api_Record := case_ok2 (H := H.slices_Concat_api_Record_api_Record) (E := env consK20) (env_ok consK20_ok) glob0 mixed0 G.slices_Concat_api_Record_api_Record Bd.slices_Concat_api_Record_api_Record (by kernel_rfl) (loopsF_good (env_ok consK20_ok) glob0 mixed0 (by kernel_rfl) 5) fun ⟨b, ()⟩ y h hw => by
  obtain ⟨hc, rfl⟩ := pick_pre h
  have hc := of_decide_eq_true hc
  obtain rfl : b = [[], []] := hc
  exact rconcat00_ev
theorem rconcat_ok : caseRconcat.ok P0 I.slices_Concat_api_Record_api_Record := fun ⟨b, ()⟩ y h hw => by
  obtain ⟨hc, rfl⟩ := pick_pre h
  have hc : rjoinB b = true := hc
  unfold rjoinB at hc
  simp only [Bool.and_eq_true, decide_eq_true_eq] at hc
  by_cases h0 : 0 < lenR b b.length
  · have hp : pick (caseRconcatA.f (b, ())) = some (List.flatten b, ()) := by show pick [(decide (0 < lenR b b.length) && decide (lenR b b.length ≤ 1000000000), _)] = _; rw [decide_eq_true h0, decide_eq_true hc.2]; rfl
    exact rconcatA_ok (b, ()) _ hp hw
  · match b, hc, h0 with
    | [x, y], _, h0 =>
      simp [lenR] at h0
      obtain ⟨rfl, rfl⟩ := h0
      have hp : pick (caseRconcat0.f ([[], []], ())) = some ([], ()) := rfl
      exact rconcat0_ok ([[], []], ()) _ hp hw
end Go.Sim
namespace Go.Sim
set_option linter.unusedSimpArgs false
set_option linter.unusedVariables false
set_option maxRecDepth 10000
noncomputable abbrev consE1 : List (FuncId × Con) := [(I.record_Right, .pure (pureOf [caseRecright])), (I.cooperageref1_Right, .pure (pureOf [caseRight1])), (I.segs_size, .pure (pureOf [caseSize])), (I.cooperageref1_Bytes, .pure (pureOf [caseRbytes]))]
theorem consE1_ok : ∀ x ∈ consE1, HoldsC P0 x.1 x.2 := by
  intro x hx
  simp at hx
  rcases hx with rfl | rfl | rfl | rfl
  · exact ⟨pureOf_holds (by simp; exact recright_ok), C.record_Right⟩
  · exact ⟨pureOf_holds (by simp; exact right1_ok), C.cooperageref1_Right⟩
  · exact ⟨pureOf_holds (by simp; exact size_ok), C.segs_size⟩
  · exact ⟨pureOf_holds (by simp; exact rbytes_ok), C.cooperageref1_Bytes⟩
theorem recs_rd {R : Type} (g : Seg) (f : Bool) (nx : Int) (rs : List Rec) (n i : Int) (K : Ex → St → Option R) : roundK (env consE1) H.segs_records 0 (LPof []) V.segs_records_3 L.segs_records_3 ⟨[(1, .ptr 0 (.tl 0) 0), (2, .bool f), (3, .int .i64 nx), (9, .vl recT rs), (10, .int .i64 n), (11, .int .i64 i)], [(0, .arr 10 .bool [] [enc segT g])], 1⟩ K = bif decide (i < n) then bif decide ((0 : Int) ≤ i) && decide (i < (↑rs.length : Int)) then Option.bind (bif !recR (rs.getD i.toNat recTy.zero) then some true else bif decide ((rs.getD i.toNat recTy.zero).fst < nx) then some true else some (decide ((rs.getD i.toNat recTy.zero).fst ≥ g.snd.fst))) fun v => bif v then K Ex.ret { slots := [(1, AV.ptr 0 (Elt.tl 0) 0), (2, AV.bool false), (3, AV.int IntKind.i64 nx), (9, AV.vl recTy rs), (10, AV.int IntKind.i64 n), (11, AV.int IntKind.i64 i)], objs := [(0, AObj.arr 10 Ty.bool [] [[AV.int IntKind.i64 g.fst, AV.int IntKind.i64 g.snd.fst, AV.int IntKind.i64 g.snd.snd.fst, AV.int IntKind.i64 g.snd.snd.snd.fst, AV.vl recTy g.snd.snd.snd.snd.fst, AV.bool g.snd.snd.snd.snd.snd.fst, AV.bool g.snd.snd.snd.snd.snd.snd.fst, AV.bool g.snd.snd.snd.snd.snd.snd.snd.fst, AV.int IntKind.i64 g.snd.snd.snd.snd.snd.snd.snd.snd.fst, AV.int IntKind.u32 g.snd.snd.snd.snd.snd.snd.snd.snd.snd]])], nx := 1 } else K Ex.normal { slots := [(1, AV.ptr 0 (Elt.tl 0) 0), (2, AV.bool f), (3, AV.int IntKind.i64 (IntKind.i64.wrap ((rs.getD i.toNat recTy.zero).fst + (1 : Int)))), (9, AV.vl recTy rs), (10, AV.int IntKind.i64 n), (11, AV.int IntKind.i64 (IntKind.i64.wrap (i + (1 : Int))))], objs := [(0, AObj.arr 10 Ty.bool [] [[AV.int IntKind.i64 g.fst, AV.int IntKind.i64 g.snd.fst, AV.int IntKind.i64 g.snd.snd.fst, AV.int IntKind.i64 g.snd.snd.snd.fst, AV.vl recTy g.snd.snd.snd.snd.fst, AV.bool g.snd.snd.snd.snd.snd.fst, AV.bool g.snd.snd.snd.snd.snd.snd.fst, AV.bool g.snd.snd.snd.snd.snd.snd.snd.fst, AV.int IntKind.i64 g.snd.snd.snd.snd.snd.snd.snd.snd.fst, AV.int IntKind.u32 g.snd.snd.snd.snd.snd.snd.snd.snd.snd]])], nx := 1 } else none else K (Ex.exit 0) { slots := [(1, AV.ptr 0 (Elt.tl 0) 0), (2, AV.bool f), (3, AV.int IntKind.i64 nx), (9, AV.vl recTy rs), (10, AV.int IntKind.i64 n), (11, AV.int IntKind.i64 i)], objs := [(0, AObj.arr 10 Ty.bool [] [[AV.int IntKind.i64 g.fst, AV.int IntKind.i64 g.snd.fst, AV.int IntKind.i64 g.snd.snd.fst, AV.int IntKind.i64 g.snd.snd.snd.fst, AV.vl recTy g.snd.snd.snd.snd.fst, AV.bool g.snd.snd.snd.snd.snd.fst, AV.bool g.snd.snd.snd.snd.snd.snd.fst, AV.bool g.snd.snd.snd.snd.snd.snd.snd.fst, AV.int IntKind.i64 g.snd.snd.snd.snd.snd.snd.snd.snd.fst, AV.int IntKind.u32 g.snd.snd.snd.snd.snd.snd.snd.snd.snd]])], nx := 1 } := by kernel_rfl

theorem time10_ev (n : Int) : evFn (env []) H.cooperageref10_time (LPof []) F.cooperageref10_time [.int .i64 n] [] (finT [.bool]) = Option.bind (bif decide (n ≥ (-1099511627776 : Int)) then some (decide (n ≤ (1099511627776 : Int))) else some false) fun v => some (v, ()) := by kernel_rfl

def caseTime10 : PCase := ⟨[.ty (.int .i64)], [.bool], fun x => (fun (n : Int) => [(true, ((decide (n ≥ -1099511627776) && decide (n ≤ 1099511627776)), ()))]) x.1⟩
theorem time10_val (n : Int) : evFn (env []) H.cooperageref10_time (LPof []) F.cooperageref10_time [.int .i64 n] [] (finT [.bool]) = some ((decide (n ≥ -1099511627776) && decide (n ≤ 1099511627776)), ()) := by
  rw [time10_ev]; simp only [and_bif, Option.bind_some]
theorem time10_ok : caseTime10.ok P0 I.cooperageref10_time := case_ok2 (H := H.cooperageref10_time) (E := env []) (env_ok env_nil) glob0 mixed0 G.cooperageref10_time Bd.cooperageref10_time (by kernel_rfl) noLoops fun ⟨n, ()⟩ y h hw => by
  obtain ⟨hc, rfl⟩ := pick_pre h
  exact time10_val n
theorem rsame_rd {R : Type} (a b : List Rec) (f : Bool) (i : Int) (K : Ex → St → Option R) : roundK (env []) H.cooperageref1_SameRecords 0 (LPof []) V.cooperageref1_SameRecords_4 L.cooperageref1_SameRecords_4 ⟨[(0, .vl recT a), (1, .vl recT b), (4, .bool f), (5, .int .i64 i)], [], 0⟩ K = bif decide (i < (↑a.length : Int)) then bif decide ((0 : Int) ≤ i) && decide (i < (↑a.length : Int)) then bif decide ((0 : Int) ≤ i) && decide (i < (↑b.length : Int)) then bif !((a.getD i.toNat recTy.zero).fst == (b.getD i.toNat recTy.zero).fst && ((a.getD i.toNat recTy.zero).snd.fst == (b.getD i.toNat recTy.zero).snd.fst && ((a.getD i.toNat recTy.zero).snd.snd.fst == (b.getD i.toNat recTy.zero).snd.snd.fst && ((a.getD i.toNat recTy.zero).snd.snd.snd.fst == (b.getD i.toNat recTy.zero).snd.snd.snd.fst && ((a.getD i.toNat recTy.zero).snd.snd.snd.snd == (b.getD i.toNat recTy.zero).snd.snd.snd.snd && true))))) then K Ex.ret { slots := [(0, AV.vl recTy a), (1, AV.vl recTy b), (4, AV.bool false), (5, AV.int IntKind.i64 i)], objs := [], nx := 0 } else K Ex.normal { slots := [(0, AV.vl recTy a), (1, AV.vl recTy b), (4, AV.bool f), (5, AV.int IntKind.i64 (IntKind.i64.wrap (i + (1 : Int))))], objs := [], nx := 0 } else none else none else K (Ex.exit 0) { slots := [(0, AV.vl recTy a), (1, AV.vl recTy b), (4, AV.bool f), (5, AV.int IntKind.i64 i)], objs := [], nx := 0 } := by kernel_rfl

theorem big8_rd {R : Type} (l : List Rec) (f : Bool) (i : Int) (K : Ex → St → Option R) : roundK (env []) H.cooperagelaw8_Big 0 (LPof []) V.cooperagelaw8_Big_2 L.cooperagelaw8_Big_2 ⟨[(0, .vl recT l), (2, .bool f), (3, .int .i64 i)], [], 0⟩ K = bif decide (i < (↑l.length : Int)) then Option.bind (bif decide ((0 : Int) ≤ i) && decide (i < (↑l.length : Int)) then bif decide ((↑(List.length (l.getD i.toNat recTy.zero).snd.snd.fst) : Int) > (250 : Int)) then some true else bif decide ((0 : Int) ≤ i) && decide (i < (↑l.length : Int)) then some (decide ((↑(List.length (l.getD i.toNat recTy.zero).snd.snd.snd.fst) : Int) > (300 : Int))) else none else none) fun v => bif v then K Ex.ret { slots := [(0, AV.vl recTy l), (2, AV.bool true), (3, AV.int IntKind.i64 i)], objs := [], nx := 0 } else K Ex.normal { slots := [(0, AV.vl recTy l), (2, AV.bool f), (3, AV.int IntKind.i64 (IntKind.i64.wrap (i + (1 : Int))))], objs := [], nx := 0 } else K (Ex.exit 0) { slots := [(0, AV.vl recTy l), (2, AV.bool f), (3, AV.int IntKind.i64 i)], objs := [], nx := 0 } := by kernel_rfl

def sameSt (a b : List Rec) (f : Bool) (i : Nat) : St := ⟨[(0, .vl recT a), (1, .vl recT b), (4, .bool f), (5, .int .i64 i)], [], 0⟩
def difB (a b : List Rec) (i : Nat) : Bool := !(recEqB (a.getD i recTy.zero) (b.getD i recTy.zero))
abbrev sameLC : LoopC := LoopC.of ⟨[(0, .vl recT), (1, .vl recT), (4, .bool), (5, .int .i64)], []⟩ (fun x => decide (List.length x.1.2.1 = List.length x.1.1) && decide (x.1.2.2.2.1 = (0 : Int)))
    fun x => [((firstFrom (difB x.1.1 x.1.2.1) 0 (List.length x.1.1)).isSome, .ret, sameSt x.1.1 x.1.2.1 false ((firstFrom (difB x.1.1 x.1.2.1) 0 (List.length x.1.1)).getD 0)), (true, .exit 0, sameSt x.1.1 x.1.2.1 x.1.2.2.1 (List.length x.1.1))]
theorem same_lok : LoopOK P0 H.cooperageref1_SameRecords 0 L.cooperageref1_SameRecords_4 sameLC :=
  loop_ok_of (env_ok env_nil) glob0 mixed0 noLoops V.cooperageref1_SameRecords_4 (by decide) fun ⟨⟨a, b, f, i, _⟩, _⟩ h hw => by
    simp only [Bool.and_eq_true, decide_eq_true_eq] at h
    obtain ⟨h1, h2⟩ := h
    subst h2
    have hm : List.length a ≤ maxL := hw.1.1.1
    unfold maxL at hm
    refine ⟨_, Eq.trans (search_rounds (S := sameSt a b f) (T := sameSt a b false) (p := difB a b) (n := List.length a) (e1 := .ret) (e2 := .exit 0) (s2 := sameSt a b f (List.length a)) (by simp) (by simp) (fun i hi K => ?_) (fun K => ?_) _ (List.length a) 0 (by omega)) search_pick⟩
    · unfold sameSt
      rw [rsame_rd, cond_pos (by omega), cond_pos2 (by omega) (by omega), cond_pos2 (by omega) (by omega), Int.toNat_natCast, wrap64 (by omega) (by omega)]
      rfl
    · unfold sameSt
      rw [rsame_rd, cond_neg (by omega)]
theorem rsame_ev (a b : List Rec) : evFn (env []) H.cooperageref1_SameRecords (LPof [(4, sameLC)]) F.cooperageref1_SameRecords [.vl recT a, .vl recT b] [] (finT [.bool]) = bif (↑a.length : Int) != (↑b.length : Int) then some (false, ()) else bif decide (b.length = a.length) && true && (firstFrom (difB a b) 0 a.length).isSome then some (false, ()) else bif decide (b.length = a.length) && true && true then some (true, ()) else none := by kernel_rfl

def caseSameR : PCase := ⟨[.ty (.sl recT), .ty (.sl recT)], [.bool], fun x => (fun (a b : List Rec) => [(true, (decide (a = b), ()))]) x.1 x.2.1⟩
theorem rsame_val (a b : List Rec) : evFn (env []) H.cooperageref1_SameRecords (LPof [(4, sameLC)]) F.cooperageref1_SameRecords [.vl recT a, .vl recT b] [] (finT [.bool]) = some (decide (a = b), ()) := by
  rw [rsame_ev]
  by_cases h : b.length = a.length
  · have h1 : ((a.length : Int) != (b.length : Int)) = false := by simp; omega
    have := firstFrom_eq recEqB_eq recTy.zero h
    unfold difB
    rw [h1, this, decide_eq_true h]
    cases decide (a = b) <;> rfl
  · have h1 : ((a.length : Int) != (b.length : Int)) = true := by simp; omega
    have h2 : a ≠ b := fun e => h (by rw [e])
    rw [h1, decide_eq_false h2]; rfl
theorem rsame_ok : caseSameR.ok P0 I.cooperageref1_SameRecords := case_ok2 (H := H.cooperageref1_SameRecords) (E := env []) (env_ok env_nil) glob0 mixed0 G.cooperageref1_SameRecords Bd.cooperageref1_SameRecords (by kernel_rfl) (loops_good (tab := [(4, sameLC)]) (by kernel_rfl) (fun x hx => by simp at hx; subst hx; exact same_lok)) fun ⟨a, b, ()⟩ y h hw => by
  obtain ⟨hc, rfl⟩ := pick_pre h
  exact rsame_val a b
/-- What the next record's offset is at least. -/
def nextR (g : Seg) : Nat → Int
  | 0 => g.1
  | k + 1 => IntKind.i64.wrap ((g.2.2.2.2.1.getD k recTy.zero).1 + 1)
def badRc (g : Seg) (k : Nat) : Bool := !recR (g.2.2.2.2.1.getD k recTy.zero) || (decide ((g.2.2.2.2.1.getD k recTy.zero).1 < nextR g k) || decide ((g.2.2.2.2.1.getD k recTy.zero).1 ≥ g.2.1))
theorem ors_bif3 {a b c : Bool} : (bif a then some true else bif b then some true else some c) = some (a || (b || c)) := by cases a <;> cases b <;> rfl
def rcSt (g : Seg) (f : Bool) (k : Nat) : St := ⟨[(1, .ptr 0 (.tl 0) 0), (2, .bool f), (3, .int .i64 (nextR g k)), (9, .vl recT g.2.2.2.2.1), (10, .int .i64 (List.length g.2.2.2.2.1)), (11, .int .i64 k)], [(0, .arr 10 .bool [] [enc segT g])], 1⟩
abbrev segP : List Pat := [.int .i64, .int .i64, .int .i64, .int .i64, .vl recT, .bool, .bool, .bool, .int .i64, .int .u32]
abbrev rcLC : LoopC := LoopC.of ⟨[(1, .lit (.ptr 0 (.tl 0) 0)), (2, .bool), (3, .int .i64), (9, .vl recT), (10, .int .i64), (11, .int .i64)], [.box 10 [segP]]⟩
  (fun ⟨⟨_, f, nx, rs, n, i, _⟩, ⟨⟨⟨b, m, t, gn, l, s, c, r, z, u, _⟩, _⟩, _⟩⟩ => decide (i = (0 : Int)) && decide (nx = b) && decide (rs = l) && decide (n = (List.length l : Int)))
  fun ⟨⟨_, f, nx, rs, n, i, _⟩, ⟨⟨⟨b, m, t, gn, l, s, c, r, z, u, _⟩, _⟩, _⟩⟩ => [((firstFrom (badRc (b, m, t, gn, l, s, c, r, z, u)) 0 (List.length l)).isSome, .ret, rcSt (b, m, t, gn, l, s, c, r, z, u) false ((firstFrom (badRc (b, m, t, gn, l, s, c, r, z, u)) 0 (List.length l)).getD 0)),
    (true, .exit 0, rcSt (b, m, t, gn, l, s, c, r, z, u) f (List.length l))]
theorem rc_lok : LoopOK P0 H.segs_records 0 L.segs_records_3 rcLC :=
  loop_ok_of (env_ok consE1_ok) glob0 mixed0 noLoops V.segs_records_3 (by decide) fun ⟨⟨_, f, nx, rs, n, i, _⟩, ⟨⟨⟨b, m, t, gn, l, s, c, r, z, u, _⟩, _⟩, _⟩⟩ h hw => by
    simp only [Bool.and_eq_true, decide_eq_true_eq] at h
    obtain ⟨⟨⟨rfl, rfl⟩, rfl⟩, rfl⟩ := h
    have hm : List.length rs ≤ maxL := hw.1.2.2.2.1.1
    unfold maxL at hm
    refine ⟨_, Eq.trans (search_rounds (S := rcSt (nx, m, t, gn, rs, s, c, r, z, u) f) (T := rcSt (nx, m, t, gn, rs, s, c, r, z, u) false) (p := badRc (nx, m, t, gn, rs, s, c, r, z, u)) (n := List.length rs) (e1 := .ret) (e2 := .exit 0) (s2 := rcSt (nx, m, t, gn, rs, s, c, r, z, u) f (List.length rs)) (by simp) (by simp) (fun k hk K => ?_) (fun K => ?_) _ (List.length rs) 0 (by omega)) search_pick⟩
    · refine (recs_rd (nx, m, t, gn, rs, s, c, r, z, u) f (nextR (nx, m, t, gn, rs, s, c, r, z, u) k) rs (List.length rs : Int) k K).trans ?_
      have e3 : IntKind.i64.wrap ((k : Int) + 1) = ((k + 1 : Nat) : Int) := by rw [wrap64 (by omega) (by omega)]; omega
      rw [cond_pos (by omega), cond_pos2 (by omega) (by omega), Int.toNat_natCast, ors_bif3, Option.bind_some, e3]
      rfl
    · refine (recs_rd (nx, m, t, gn, rs, s, c, r, z, u) f (nextR (nx, m, t, gn, rs, s, c, r, z, u) (List.length rs)) rs (List.length rs : Int) (List.length rs) K).trans ?_
      rw [cond_neg (by omega)]
      rfl
theorem recs_ev (g : Seg) : evFn (env consE1) H.segs_records (LPof [(3, rcLC)]) F.segs_records [valOf segT g] [] (finT [.bool]) = bif decide (g.fst = g.fst) && decide (g.snd.snd.snd.snd.fst = g.snd.snd.snd.snd.fst) && decide ((↑(List.length g.snd.snd.snd.snd.fst) : Int) = (↑(List.length g.snd.snd.snd.snd.fst) : Int)) && (firstFrom (badRc g) 0 (List.length g.snd.snd.snd.snd.fst)).isSome then some (false, ()) else bif decide (g.fst = g.fst) && decide (g.snd.snd.snd.snd.fst = g.snd.snd.snd.snd.fst) && decide ((↑(List.length g.snd.snd.snd.snd.fst) : Int) = (↑(List.length g.snd.snd.snd.snd.fst) : Int)) && true then some (true, ()) else none := by kernel_rfl

def chainB (g : Seg) : Bool := (firstFrom (badRc g) 0 (List.length g.2.2.2.2.1)).isNone
def caseRecs : PCase := ⟨[.ty segT], [.bool], fun x => (fun (g : Seg) => [(true, (chainB g, ()))]) x.1⟩
theorem recs_val (g : Seg) : evFn (env consE1) H.segs_records (LPof [(3, rcLC)]) F.segs_records [valOf segT g] [] (finT [.bool]) = some (chainB g, ()) := by
  rw [recs_ev]
  unfold chainB
  simp only [decide_true, Bool.true_and, Bool.and_true]
  cases firstFrom (badRc g) 0 (List.length g.2.2.2.2.1) <;> rfl
theorem recs_ok : caseRecs.ok P0 I.segs_records := case_ok2 (H := H.segs_records) (E := env consE1) (env_ok consE1_ok) glob0 mixed0 G.segs_records Bd.segs_records (by kernel_rfl) (loops_good (tab := [(3, rcLC)]) (by kernel_rfl) (fun x hx => by simp at hx; subst hx; exact rc_lok)) fun ⟨g, ()⟩ y h hw => by
  obtain ⟨hc, rfl⟩ := pick_pre h
  exact recs_val g
noncomputable abbrev consE2 : List (FuncId × Con) := [(I.segs_records, .pure (pureOf [caseRecs]))] ++ consE1
theorem consE2_ok : ∀ x ∈ consE2, HoldsC P0 x.1 x.2 := by
  intro x hx
  rcases List.mem_append.1 hx with hx | hx
  · simp at hx
    subst hx
    exact ⟨pureOf_holds (by simp; exact recs_ok), C.segs_records⟩
  · exact consE1_ok x hx
theorem may_ev (g : Seg) (q : Bool) : evFn (env consE2) H.segs_may (LPof []) F.segs_may [valOf segT g, .bool q] [] (finT [.bool]) = Option.bind (bif decide (g.fst < (0 : Int)) then some true else bif decide (g.snd.snd.snd.fst < (0 : Int)) then some true else bif decide (g.snd.snd.snd.snd.snd.snd.snd.snd.fst < (0 : Int)) then some true else bif decide (g.snd.fst < g.fst) then some true else bif decide (g.snd.fst > (1125899906842624 : Int)) then some true else some !chainB g) fun v => bif v then bif v then some (false, ()) else ((Option.bind (bif decide (g.snd.snd.fst < (-1099511627776 : Int)) then some true else some (decide (g.snd.snd.fst > (1099511627776 : Int)))) fun v => some (v, ())).bind fun v => bif v.fst then some (v.fst, ()) else Option.bind (bif q then bif g.snd.snd.fst != (0 : Int) then some true else bif g.snd.snd.snd.snd.snd.snd.fst then some true else some g.snd.snd.snd.snd.snd.snd.snd.fst else some false) fun v => some (v, ())).bind fun v => bif v.fst then some (false, ()) else bif g.snd.snd.snd.snd.snd.snd.snd.fst then some ((↑(List.length g.snd.snd.snd.snd.fst) : Int) == (0 : Int), ()) else Option.bind (bif g.snd.snd.snd.snd.snd.snd.snd.snd.snd == (0 : Int) then bif decide (List.length g.snd.snd.snd.snd.fst ≤ 1000000000) then some (g.snd.snd.snd.snd.snd.snd.snd.snd.fst == (↑(bytS g.snd.snd.snd.snd.fst).length : Int)) else none else some false) fun v => some (v, ()) else bif g.snd.snd.snd.snd.snd.fst == q then bif g.snd.snd.snd.snd.snd.fst == q then some (false, ()) else ((Option.bind (bif decide (g.snd.snd.fst < (-1099511627776 : Int)) then some true else some (decide (g.snd.snd.fst > (1099511627776 : Int)))) fun v => some (v, ())).bind fun v => bif v.fst then some (v.fst, ()) else Option.bind (bif q then bif g.snd.snd.fst != (0 : Int) then some true else bif g.snd.snd.snd.snd.snd.snd.fst then some true else some g.snd.snd.snd.snd.snd.snd.snd.fst else some false) fun v => some (v, ())).bind fun v => bif v.fst then some (false, ()) else bif g.snd.snd.snd.snd.snd.snd.snd.fst then some ((↑(List.length g.snd.snd.snd.snd.fst) : Int) == (0 : Int), ()) else Option.bind (bif g.snd.snd.snd.snd.snd.snd.snd.snd.snd == (0 : Int) then bif decide (List.length g.snd.snd.snd.snd.fst ≤ 1000000000) then some (g.snd.snd.snd.snd.snd.snd.snd.snd.fst == (↑(bytS g.snd.snd.snd.snd.fst).length : Int)) else none else some false) fun v => some (v, ()) else Option.bind (bif g.snd.snd.snd.snd.snd.fst then some (g.snd.fst == g.fst) else some false) fun v => bif v then some (false, ()) else ((Option.bind (bif decide (g.snd.snd.fst < (-1099511627776 : Int)) then some true else some (decide (g.snd.snd.fst > (1099511627776 : Int)))) fun v => some (v, ())).bind fun v => bif v.fst then some (v.fst, ()) else Option.bind (bif q then bif g.snd.snd.fst != (0 : Int) then some true else bif g.snd.snd.snd.snd.snd.snd.fst then some true else some g.snd.snd.snd.snd.snd.snd.snd.fst else some false) fun v => some (v, ())).bind fun v => bif v.fst then some (false, ()) else bif g.snd.snd.snd.snd.snd.snd.snd.fst then some ((↑(List.length g.snd.snd.snd.snd.fst) : Int) == (0 : Int), ()) else Option.bind (bif g.snd.snd.snd.snd.snd.snd.snd.snd.snd == (0 : Int) then bif decide (List.length g.snd.snd.snd.snd.fst ≤ 1000000000) then some (g.snd.snd.snd.snd.snd.snd.snd.snd.fst == (↑(bytS g.snd.snd.snd.snd.fst).length : Int)) else none else some false) fun v => some (v, ()) := by kernel_rfl

def mayB (g : Seg) (q : Bool) : Bool := !(decide (g.1 < 0) || (decide (g.2.2.2.1 < 0) || (decide (g.2.2.2.2.2.2.2.2.1 < 0) || (decide (g.2.1 < g.1) || (decide (g.2.1 > 1125899906842624) || !chainB g))))) &&
  (!(g.2.2.2.2.2.1 == q) && (!(g.2.2.2.2.2.1 && g.2.1 == g.1) && (!(decide (g.2.2.1 < -1099511627776) || decide (g.2.2.1 > 1099511627776)) && (!(q && (g.2.2.1 != 0 || (g.2.2.2.2.2.2.1 || g.2.2.2.2.2.2.2.1))) &&
  (bif g.2.2.2.2.2.2.2.1 then ((List.length g.2.2.2.2.1 : Int) == 0) else g.2.2.2.2.2.2.2.2.2 == 0 && g.2.2.2.2.2.2.2.2.1 == ((bytS g.2.2.2.2.1).length : Int))))))
theorem bool_may (A S T U W Rm Lz Z q : Bool) : (bif A then bif A then some (false, ()) else (bif U then some (U, ()) else some (W, ())).bind (fun v => bif v.1 then some (false, ()) else bif Rm then some (Lz, ()) else some (Z, ())) else bif S then bif S then some (false, ()) else (bif U then some (U, ()) else some (W, ())).bind (fun v => bif v.1 then some (false, ()) else bif Rm then some (Lz, ()) else some (Z, ())) else
    bif T then some (false, ()) else (bif U then some (U, ()) else some (W, ())).bind (fun v => bif v.1 then some (false, ()) else bif Rm then some (Lz, ()) else some (Z, ()))) = some (!A && (!S && (!T && (!U && (!W && (bif Rm then Lz else Z))))), ()) := by
  cases A <;> cases S <;> cases T <;> cases U <;> cases W <;> cases Rm <;> rfl
def caseMay : PCase := ⟨[.ty segT, .ty .bool], [.bool], fun x => (fun (g : Seg) (q : Bool) => [(decide (List.length g.2.2.2.2.1 ≤ 1000000000), (mayB g q, ()))]) x.1 x.2.1⟩
theorem may_val (g : Seg) (q : Bool) (hc : (decide (List.length g.2.2.2.2.1 ≤ 1000000000)) = true) : evFn (env consE2) H.segs_may (LPof []) F.segs_may [valOf segT g, .bool q] [] (finT [.bool]) = some (mayB g q, ()) := by
  rw [may_ev, hc]
  simp only [or_bif, and_bif, Option.bind_some, cond_true]
  exact bool_may _ _ _ _ _ _ _ _ q
theorem may_ok : caseMay.ok P0 I.segs_may := case_ok2 (H := H.segs_may) (E := env consE2) (env_ok consE2_ok) glob0 mixed0 G.segs_may Bd.segs_may (by kernel_rfl) noLoops fun ⟨g, q, ()⟩ y h hw => by
  obtain ⟨hc, rfl⟩ := pick_pre h
  exact may_val g q hc
noncomputable abbrev consE3 : List (FuncId × Con) := [(I.segs_may, .pure (pureOf [caseMay])), (I.segs_all, .pure (pureOf [caseAllv]))] ++ consE2
theorem consE3_ok : ∀ x ∈ consE3, HoldsC P0 x.1 x.2 := by
  intro x hx
  rcases List.mem_append.1 hx with hx | hx
  · simp at hx
    rcases hx with rfl | rfl
    · exact ⟨pureOf_holds (by simp; exact may_ok), C.segs_may⟩
    · exact ⟨pureOf_holds (by simp; exact allv_ok), C.segs_all⟩
  · exact consE2_ok x hx
theorem of_rd {R : Type} (l : List Seg) (p : Bool) (n m i : Int) (K : Ex → St → Option R) : roundK (env consE3) H.segs_Of 0 (LPof []) V.segs_Of_5 L.segs_Of_5 ⟨[(0, .vl segT l), (2, .nilp), (3, .bool p), (4, .int .i64 n), (11, .vl segT l), (12, .int .i64 m), (13, .int .i64 i)], [], 0⟩ K = bif decide (i < m) then bif decide ((0 : Int) ≤ i) && decide (i < (↑l.length : Int)) then Option.bind (bif decide ((l.getD i.toNat segTy.zero).snd.snd.snd.snd.fst.length ≤ 1000000000) then bif !mayB (l.getD i.toNat segTy.zero) (IntKind.i64.wrap (i + (1 : Int)) == n) then some true else bif decide (i > (0 : Int)) then bif decide ((0 : Int) ≤ IntKind.i64.wrap (i - (1 : Int))) && decide (IntKind.i64.wrap (i - (1 : Int)) < (↑l.length : Int)) then bif (l.getD i.toNat segTy.zero).fst != (l.getD (IntKind.i64.wrap (i - (1 : Int))).toNat segTy.zero).snd.fst then some true else bif (l.getD i.toNat segTy.zero).snd.snd.snd.snd.snd.snd.snd.fst then bif decide ((0 : Int) ≤ IntKind.i64.wrap (i - (1 : Int))) && decide (IntKind.i64.wrap (i - (1 : Int)) < (↑l.length : Int)) then some !(l.getD (IntKind.i64.wrap (i - (1 : Int))).toNat segTy.zero).snd.snd.snd.snd.snd.snd.snd.fst else none else some false else none else some false else none) fun v => bif v then K Ex.ret { slots := [(0, AV.vl segTy l), (2, AV.nilp), (3, AV.bool false), (4, AV.int IntKind.i64 n), (11, AV.vl segTy l), (12, AV.int IntKind.i64 m), (13, AV.int IntKind.i64 i)], objs := [], nx := 0 } else K Ex.normal { slots := [(0, AV.vl segTy l), (2, AV.nilp), (3, AV.bool p), (4, AV.int IntKind.i64 n), (11, AV.vl segTy l), (12, AV.int IntKind.i64 m), (13, AV.int IntKind.i64 (IntKind.i64.wrap (i + (1 : Int))))], objs := [], nx := 0 } else none else K (Ex.exit 0) { slots := [(0, AV.vl segTy l), (2, AV.nilp), (3, AV.bool p), (4, AV.int IntKind.i64 n), (11, AV.vl segTy l), (12, AV.int IntKind.i64 m), (13, AV.int IntKind.i64 i)], objs := [], nx := 0 } := by kernel_rfl

theorem rlin_rd {R : Type} (l : List Seg) (f : Bool) (n : Int) (lo : Bool) (i : Int) (g : Seg) (k : Int) (K : Ex → St → Option R) : roundK (env consE1) H.cooperageref10_RightLog 0 (LPof []) V.cooperageref10_RightLog_15 L.cooperageref10_RightLog_15 ⟨[(0, .vl segT l), (2, .bool f), (3, .int .i64 n), (4, .bool lo), (5, .int .i64 i), (6, .ptr 0 (.tl 0) 0), (7, .int .i64 k)], [(0, .arr 10 .bool [] [enc segT g])], 1⟩ K = bif decide (k < (↑(List.length g.snd.snd.snd.snd.fst) : Int)) then bif decide ((0 : Int) ≤ k) && decide (k < (↑(List.length g.snd.snd.snd.snd.fst) : Int)) then Option.bind (bif !recR (List.getD g.snd.snd.snd.snd.fst k.toNat recTy.zero) then some true else bif decide ((List.getD g.snd.snd.snd.snd.fst k.toNat recTy.zero).fst < g.fst) then some true else bif decide ((List.getD g.snd.snd.snd.snd.fst k.toNat recTy.zero).fst ≥ g.snd.fst) then some true else bif decide (k > (0 : Int)) then bif decide ((0 : Int) ≤ IntKind.i64.wrap (k - (1 : Int))) && decide (IntKind.i64.wrap (k - (1 : Int)) < (↑(List.length g.snd.snd.snd.snd.fst) : Int)) then some (decide ((List.getD g.snd.snd.snd.snd.fst k.toNat recTy.zero).fst ≤ (List.getD g.snd.snd.snd.snd.fst (IntKind.i64.wrap (k - (1 : Int))).toNat recTy.zero).fst)) else none else some false) fun v => bif v then K Ex.ret { slots := [(0, AV.vl segTy l), (2, AV.bool false), (3, AV.int IntKind.i64 n), (4, AV.bool lo), (5, AV.int IntKind.i64 i), (6, AV.ptr 0 (Elt.tl 0) 0), (7, AV.int IntKind.i64 k)], objs := [(0, AObj.arr 10 Ty.bool [] [[AV.int IntKind.i64 g.fst, AV.int IntKind.i64 g.snd.fst, AV.int IntKind.i64 g.snd.snd.fst, AV.int IntKind.i64 g.snd.snd.snd.fst, AV.vl recTy g.snd.snd.snd.snd.fst, AV.bool g.snd.snd.snd.snd.snd.fst, AV.bool g.snd.snd.snd.snd.snd.snd.fst, AV.bool g.snd.snd.snd.snd.snd.snd.snd.fst, AV.int IntKind.i64 g.snd.snd.snd.snd.snd.snd.snd.snd.fst, AV.int IntKind.u32 g.snd.snd.snd.snd.snd.snd.snd.snd.snd]])], nx := 1 } else K Ex.normal { slots := [(0, AV.vl segTy l), (2, AV.bool f), (3, AV.int IntKind.i64 n), (4, AV.bool lo), (5, AV.int IntKind.i64 i), (6, AV.ptr 0 (Elt.tl 0) 0), (7, AV.int IntKind.i64 (IntKind.i64.wrap (k + (1 : Int))))], objs := [(0, AObj.arr 10 Ty.bool [] [[AV.int IntKind.i64 g.fst, AV.int IntKind.i64 g.snd.fst, AV.int IntKind.i64 g.snd.snd.fst, AV.int IntKind.i64 g.snd.snd.snd.fst, AV.vl recTy g.snd.snd.snd.snd.fst, AV.bool g.snd.snd.snd.snd.snd.fst, AV.bool g.snd.snd.snd.snd.snd.snd.fst, AV.bool g.snd.snd.snd.snd.snd.snd.snd.fst, AV.int IntKind.i64 g.snd.snd.snd.snd.snd.snd.snd.snd.fst, AV.int IntKind.u32 g.snd.snd.snd.snd.snd.snd.snd.snd.snd]])], nx := 1 } else none else K (Ex.exit 2) { slots := [(0, AV.vl segTy l), (2, AV.bool f), (3, AV.int IntKind.i64 n), (4, AV.bool lo), (5, AV.int IntKind.i64 i), (6, AV.ptr 0 (Elt.tl 0) 0), (7, AV.int IntKind.i64 k)], objs := [(0, AObj.arr 10 Ty.bool [] [[AV.int IntKind.i64 g.fst, AV.int IntKind.i64 g.snd.fst, AV.int IntKind.i64 g.snd.snd.fst, AV.int IntKind.i64 g.snd.snd.snd.fst, AV.vl recTy g.snd.snd.snd.snd.fst, AV.bool g.snd.snd.snd.snd.snd.fst, AV.bool g.snd.snd.snd.snd.snd.snd.fst, AV.bool g.snd.snd.snd.snd.snd.snd.snd.fst, AV.int IntKind.i64 g.snd.snd.snd.snd.snd.snd.snd.snd.fst, AV.int IntKind.u32 g.snd.snd.snd.snd.snd.snd.snd.snd.snd]])], nx := 1 } := by kernel_rfl

end Go.Sim
namespace Go.Sim
set_option linter.unusedSimpArgs false
set_option linter.unusedVariables false
set_option maxRecDepth 10000
instance segDec0 : DecidableEq (Bool × Bool × Bool × Int × Int) := inferInstance
instance segDec1 : DecidableEq (List Rec × Bool × Bool × Bool × Int × Int) := @instDecidableEqProd _ _ recsDec segDec0
instance segDec2 : DecidableEq (Int × Int × List Rec × Bool × Bool × Bool × Int × Int) := @instDecidableEqProd _ _ _ (@instDecidableEqProd _ _ _ segDec1)
instance segDec : DecidableEq Seg := @instDecidableEqProd _ _ _ (@instDecidableEqProd _ _ _ segDec2)
instance segsDec : DecidableEq (List Seg) := @instDecidableEqList Seg segDec
noncomputable abbrev consF0 : List (FuncId × Con) := [(I.cooperageref1_SameRecords, .pure (pureOf [caseSameR]))]
theorem consF0_ok : ∀ x ∈ consF0, HoldsC P0 x.1 x.2 := by
  intro x hx
  simp at hx
  subst hx
  exact ⟨pureOf_holds (by simp; exact rsame_ok), C.cooperageref1_SameRecords⟩
theorem ssame_rd {R : Type} (a b : List Seg) (f : Bool) (i : Int) (K : Ex → St → Option R) : roundK (env consF0) H.cooperageref10_SameSegments 0 (LPof []) V.cooperageref10_SameSegments_4 L.cooperageref10_SameSegments_4 ⟨[(0, .vl segT a), (1, .vl segT b), (4, .bool f), (5, .int .i64 i)], [], 0⟩ K = bif decide (i < (↑a.length : Int)) then bif decide ((0 : Int) ≤ i) && decide (i < (↑a.length : Int)) then bif decide ((0 : Int) ≤ i) && decide (i < (↑b.length : Int)) then Option.bind (bif (a.getD i.toNat segTy.zero).fst != (b.getD i.toNat segTy.zero).fst then some true else bif (a.getD i.toNat segTy.zero).snd.fst != (b.getD i.toNat segTy.zero).snd.fst then some true else bif (a.getD i.toNat segTy.zero).snd.snd.fst != (b.getD i.toNat segTy.zero).snd.snd.fst then some true else bif (a.getD i.toNat segTy.zero).snd.snd.snd.fst != (b.getD i.toNat segTy.zero).snd.snd.snd.fst then some true else bif !decide ((a.getD i.toNat segTy.zero).snd.snd.snd.snd.fst = (b.getD i.toNat segTy.zero).snd.snd.snd.snd.fst) then some true else bif !(a.getD i.toNat segTy.zero).snd.snd.snd.snd.snd.fst == (b.getD i.toNat segTy.zero).snd.snd.snd.snd.snd.fst then some true else bif !(a.getD i.toNat segTy.zero).snd.snd.snd.snd.snd.snd.fst == (b.getD i.toNat segTy.zero).snd.snd.snd.snd.snd.snd.fst then some true else bif !(a.getD i.toNat segTy.zero).snd.snd.snd.snd.snd.snd.snd.fst == (b.getD i.toNat segTy.zero).snd.snd.snd.snd.snd.snd.snd.fst then some true else bif (a.getD i.toNat segTy.zero).snd.snd.snd.snd.snd.snd.snd.snd.fst != (b.getD i.toNat segTy.zero).snd.snd.snd.snd.snd.snd.snd.snd.fst then some true else some ((a.getD i.toNat segTy.zero).snd.snd.snd.snd.snd.snd.snd.snd.snd != (b.getD i.toNat segTy.zero).snd.snd.snd.snd.snd.snd.snd.snd.snd)) fun v => bif v then K Ex.ret { slots := [(0, AV.vl segTy a), (1, AV.vl segTy b), (4, AV.bool false), (5, AV.int IntKind.i64 i)], objs := [], nx := 0 } else K Ex.normal { slots := [(0, AV.vl segTy a), (1, AV.vl segTy b), (4, AV.bool f), (5, AV.int IntKind.i64 (IntKind.i64.wrap (i + (1 : Int))))], objs := [], nx := 0 } else none else none else K (Ex.exit 0) { slots := [(0, AV.vl segTy a), (1, AV.vl segTy b), (4, AV.bool f), (5, AV.int IntKind.i64 i)], objs := [], nx := 0 } := by kernel_rfl

def badO (l : List Seg) (i : Nat) : Bool := !mayB (l.getD i segTy.zero) (((i + 1 : Nat) : Int) == (List.length l : Int)) || (decide (i > 0) && ((l.getD i segTy.zero).1 != (l.getD (i - 1) segTy.zero).2.1 || ((l.getD i segTy.zero).2.2.2.2.2.2.2.1 && !(l.getD (i - 1) segTy.zero).2.2.2.2.2.2.2.1)))
def ofSt (l : List Seg) (p : Bool) (i : Nat) : St := ⟨[(0, .vl segT l), (2, .nilp), (3, .bool p), (4, .int .i64 l.length), (11, .vl segT l), (12, .int .i64 l.length), (13, .int .i64 i)], [], 0⟩
abbrev ofLC : LoopC := LoopC.of ⟨[(0, .vl segT), (2, .lit .nilp), (3, .bool), (4, .int .i64), (11, .vl segT), (12, .int .i64), (13, .int .i64)], []⟩
  (fun ⟨⟨l, _, p, n, l2, m, i, _⟩, _⟩ => decide (i = (0 : Int)) && decide (l2 = l) && decide (n = (List.length l : Int)) && decide (m = (List.length l : Int)) && smallL l)
  fun ⟨⟨l, _, p, n, l2, m, i, _⟩, _⟩ => [((firstFrom (badO l) 0 (List.length l)).isSome, .ret, ofSt l false ((firstFrom (badO l) 0 (List.length l)).getD 0)), (true, .exit 0, ofSt l p (List.length l))]
theorem of_lok : LoopOK P0 H.segs_Of 0 L.segs_Of_5 ofLC :=
  loop_ok_of (env_ok consE3_ok) glob0 mixed0 noLoops V.segs_Of_5 (by decide) fun ⟨⟨l, _, p, n, l2, m, i, _⟩, _⟩ h hw => by
    simp only [Bool.and_eq_true, decide_eq_true_eq, smallL] at h
    obtain ⟨⟨⟨⟨rfl, rfl⟩, rfl⟩, rfl⟩, h5, h6⟩ := h
    have h5 : List.length l2 ≤ 1000000000 := h5
    refine ⟨_, Eq.trans (search_rounds (S := ofSt l2 p) (T := ofSt l2 false) (p := badO l2) (n := List.length l2) (e1 := .ret) (e2 := .exit 0) (s2 := ofSt l2 p (List.length l2)) (by simp) (by simp) (fun k hk K => ?_) (fun K => ?_) _ (List.length l2) 0 (by omega)) search_pick⟩
    · refine (of_rd l2 p (List.length l2 : Int) (List.length l2 : Int) k K).trans ?_
      have e3 : IntKind.i64.wrap ((k : Int) + 1) = ((k + 1 : Nat) : Int) := by rw [wrap64 (by omega) (by omega)]; omega
      have hs := small_at h6 hk
      rw [cond_pos (by omega), cond_pos2 (by omega) (by omega), Int.toNat_natCast, e3, cond_pos hs]
      have e : (bif !mayB (l2.getD k segTy.zero) (((k + 1 : Nat) : Int) == (List.length l2 : Int)) then some true else bif decide ((k : Int) > 0) then bif decide ((0 : Int) ≤ IntKind.i64.wrap ((k : Int) - 1)) && decide (IntKind.i64.wrap ((k : Int) - 1) < (List.length l2 : Int)) then
          bif (l2.getD k segTy.zero).1 != (l2.getD (IntKind.i64.wrap ((k : Int) - 1)).toNat segTy.zero).2.1 then some true else bif (l2.getD k segTy.zero).2.2.2.2.2.2.2.1 then bif decide ((0 : Int) ≤ IntKind.i64.wrap ((k : Int) - 1)) && decide (IntKind.i64.wrap ((k : Int) - 1) < (List.length l2 : Int)) then
          some !(l2.getD (IntKind.i64.wrap ((k : Int) - 1)).toNat segTy.zero).2.2.2.2.2.2.2.1 else none else some false else none else some false) = some (badO l2 k) := by
        unfold badO
        by_cases h0 : k > 0
        · have w : IntKind.i64.wrap ((k : Int) - 1) = ((k - 1 : Nat) : Int) := by rw [wrap64 (by omega) (by omega)]; omega
          rw [w, Int.toNat_natCast, cond_pos (show (k : Int) > 0 by omega), cond_pos2 (by omega) (by omega), cond_pos2 (by omega) (by omega), and_bif, or_bif, or_bif, decide_eq_true h0, Bool.true_and]
        · rw [cond_neg (show ¬ (k : Int) > 0 by omega), or_bif, decide_eq_false h0, Bool.false_and]
      rw [e, Option.bind_some]
      rfl
    · refine (of_rd l2 p (List.length l2 : Int) (List.length l2 : Int) (List.length l2 : Nat) K).trans ?_
      rw [cond_neg (by omega)]
      rfl
theorem ofn_ev (l : List Seg) : evFn (env consE3) H.segs_Of (LPof [(5, ofLC)]) F.segs_Of [.vl segT l] [] (finV (.tup [.lit .nilp, .lit (.bool false)]) [] 0) = bif (↑l.length : Int) == (0 : Int) then some (((), (), ()), ()) else bif decide (l = l) && decide ((↑l.length : Int) = (↑l.length : Int)) && decide ((↑l.length : Int) = (↑l.length : Int)) && smallL l && (firstFrom (badO l) 0 l.length).isSome then some (((), (), ()), ()) else bif decide (l = l) && decide ((↑l.length : Int) = (↑l.length : Int)) && decide ((↑l.length : Int) = (↑l.length : Int)) && smallL l && true then bif smallL l then none else none else none := by kernel_rfl

theorem ofy_ev (l : List Seg) : evFn (env consE3) H.segs_Of (LPof [(5, ofLC)]) F.segs_Of [.vl segT l] [] (finV (.tup [.lit (.ptr 0 (.tl 0) 0), .lit (.bool true)]) [.box 1 [[.vl segT]]] 0) = bif (↑l.length : Int) == (0 : Int) then none else bif decide (l = l) && decide ((↑l.length : Int) = (↑l.length : Int)) && decide ((↑l.length : Int) = (↑l.length : Int)) && smallL l && (firstFrom (badO l) 0 l.length).isSome then none else bif decide (l = l) && decide ((↑l.length : Int) = (↑l.length : Int)) && decide ((↑l.length : Int) = (↑l.length : Int)) && smallL l && true then bif smallL l then some (((), (), ()), ((l, ()), ()), ()) else none else none := by kernel_rfl

def badRr (g : Seg) (k : Nat) : Bool := !recR (g.2.2.2.2.1.getD k recTy.zero) || (decide ((g.2.2.2.2.1.getD k recTy.zero).1 < g.1) || (decide ((g.2.2.2.2.1.getD k recTy.zero).1 ≥ g.2.1) || (decide (k > 0) && decide ((g.2.2.2.2.1.getD k recTy.zero).1 ≤ (g.2.2.2.2.1.getD (k - 1) recTy.zero).1))))
def rlSt (l : List Seg) (f : Bool) (n : Int) (lo : Bool) (i : Int) (g : Seg) (k : Nat) : St := ⟨[(0, .vl segT l), (2, .bool f), (3, .int .i64 n), (4, .bool lo), (5, .int .i64 i), (6, .ptr 0 (.tl 0) 0), (7, .int .i64 k)], [(0, .arr 10 .bool [] [enc segT g])], 1⟩
abbrev rlLC : LoopC := LoopC.of ⟨[(0, .vl segT), (2, .bool), (3, .int .i64), (4, .bool), (5, .int .i64), (6, .lit (.ptr 0 (.tl 0) 0)), (7, .int .i64)], [.box 10 [segP]]⟩
  (fun ⟨⟨l, f, n, lo, i, _, k, _⟩, ⟨⟨⟨b, m, t, gn, rs, s, c, r, z, u, _⟩, _⟩, _⟩⟩ => decide (k = (0 : Int)))
  fun ⟨⟨l, f, n, lo, i, _, k, _⟩, ⟨⟨⟨b, m, t, gn, rs, s, c, r, z, u, _⟩, _⟩, _⟩⟩ => [((firstFrom (badRr (b, m, t, gn, rs, s, c, r, z, u)) 0 (List.length rs)).isSome, .ret, rlSt l false n lo i (b, m, t, gn, rs, s, c, r, z, u) ((firstFrom (badRr (b, m, t, gn, rs, s, c, r, z, u)) 0 (List.length rs)).getD 0)),
    (true, .exit 2, rlSt l f n lo i (b, m, t, gn, rs, s, c, r, z, u) (List.length rs))]
theorem rl_lok : LoopOK P0 H.cooperageref10_RightLog 0 L.cooperageref10_RightLog_15 rlLC :=
  loop_ok_of (env_ok consE1_ok) glob0 mixed0 noLoops V.cooperageref10_RightLog_15 (by decide) fun ⟨⟨l, f, n, lo, i, _, k, _⟩, ⟨⟨⟨b, m, t, gn, rs, s, c, r, z, u, _⟩, _⟩, _⟩⟩ h hw => by
    obtain rfl := of_decide_eq_true h
    have hm : List.length rs ≤ maxL := hw.2.1.1.2.2.2.2.1.1
    unfold maxL at hm
    refine ⟨_, Eq.trans (search_rounds (S := rlSt l f n lo i (b, m, t, gn, rs, s, c, r, z, u)) (T := rlSt l false n lo i (b, m, t, gn, rs, s, c, r, z, u)) (p := badRr (b, m, t, gn, rs, s, c, r, z, u)) (n := List.length rs) (e1 := .ret) (e2 := .exit 2) (s2 := rlSt l f n lo i (b, m, t, gn, rs, s, c, r, z, u) (List.length rs)) (by simp) (by simp) (fun k hk K => ?_) (fun K => ?_) _ (List.length rs) 0 (by omega)) search_pick⟩
    · refine (rlin_rd l f n lo i (b, m, t, gn, rs, s, c, r, z, u) k K).trans ?_
      have e3 : IntKind.i64.wrap ((k : Int) + 1) = ((k + 1 : Nat) : Int) := by rw [wrap64 (by omega) (by omega)]; omega
      simp only
      rw [cond_pos (by omega), cond_pos2 (by omega) (by omega), Int.toNat_natCast, e3]
      have e : (bif !recR (List.getD rs k recTy.zero) then some true else bif decide ((List.getD rs k recTy.zero).1 < b) then some true else bif decide ((List.getD rs k recTy.zero).1 ≥ m) then some true else bif decide ((k : Int) > 0) then bif decide ((0 : Int) ≤ IntKind.i64.wrap ((k : Int) - 1)) && decide (IntKind.i64.wrap ((k : Int) - 1) < (List.length rs : Int)) then
          some (decide ((List.getD rs k recTy.zero).1 ≤ (List.getD rs (IntKind.i64.wrap ((k : Int) - 1)).toNat recTy.zero).1)) else none else some false) = some (badRr (b, m, t, gn, rs, s, c, r, z, u) k) := by
        unfold badRr
        by_cases h0 : k > 0
        · have w : IntKind.i64.wrap ((k : Int) - 1) = ((k - 1 : Nat) : Int) := by rw [wrap64 (by omega) (by omega)]; omega
          rw [w, Int.toNat_natCast, cond_pos (show (k : Int) > 0 by omega), cond_pos2 (by omega) (by omega), or_bif, or_bif, or_bif, decide_eq_true h0, Bool.true_and]
        · rw [cond_neg (show ¬ (k : Int) > 0 by omega), or_bif, or_bif, or_bif, decide_eq_false h0, Bool.false_and]
      refine (congrArg (fun o => Option.bind o _) e).trans ?_
      rfl
    · refine (rlin_rd l f n lo i (b, m, t, gn, rs, s, c, r, z, u) (List.length rs : Nat) K).trans ?_
      simp only
      rw [cond_neg (by omega)]
      rfl
noncomputable abbrev consE4 : List (FuncId × Con) := [(I.cooperageref10_time, .pure (pureOf [caseTime10]))] ++ consE1
theorem consE4_ok : ∀ x ∈ consE4, HoldsC P0 x.1 x.2 := by
  intro x hx
  rcases List.mem_append.1 hx with hx | hx
  · simp at hx
    subst hx
    exact ⟨pureOf_holds (by simp; exact time10_ok), C.cooperageref10_time⟩
  · exact consE1_ok x hx
theorem rlout_rd {R : Type} (l : List Seg) (f : Bool) (n : Int) (lo : Bool) (i : Int) (K : Ex → St → Option R) : roundK (env consE4) H.cooperageref10_RightLog 0 (LPof [(15, rlLC)]) V.cooperageref10_RightLog_4 L.cooperageref10_RightLog_4 ⟨[(0, .vl segT l), (2, .bool f), (3, .int .i64 n), (4, .bool lo), (5, .int .i64 i)], [], 0⟩ K = bif decide (i < n) then bif decide ((0 : Int) ≤ i) && decide (i < (↑l.length : Int)) then Option.bind (bif decide ((l.getD i.toNat segTy.zero).fst < (0 : Int)) then some true else bif decide ((l.getD i.toNat segTy.zero).fst > (l.getD i.toNat segTy.zero).snd.fst) then some true else bif decide ((l.getD i.toNat segTy.zero).snd.fst > (1125899906842624 : Int)) then some true else bif decide (i > (0 : Int)) then bif decide ((0 : Int) ≤ IntKind.i64.wrap (i - (1 : Int))) && decide (IntKind.i64.wrap (i - (1 : Int)) < (↑l.length : Int)) then bif (l.getD i.toNat segTy.zero).fst != (l.getD (IntKind.i64.wrap (i - (1 : Int))).toNat segTy.zero).snd.fst then some true else bif decide ((l.getD i.toNat segTy.zero).snd.snd.snd.fst < (0 : Int)) then some true else bif decide ((l.getD i.toNat segTy.zero).snd.snd.snd.snd.snd.snd.snd.snd.fst < (0 : Int)) then some true else some !(decide ((l.getD i.toNat segTy.zero).snd.snd.fst ≥ (-1099511627776 : Int)) && decide ((l.getD i.toNat segTy.zero).snd.snd.fst ≤ (1099511627776 : Int))) else none else bif decide ((l.getD i.toNat segTy.zero).snd.snd.snd.fst < (0 : Int)) then some true else bif decide ((l.getD i.toNat segTy.zero).snd.snd.snd.snd.snd.snd.snd.snd.fst < (0 : Int)) then some true else some !(decide ((l.getD i.toNat segTy.zero).snd.snd.fst ≥ (-1099511627776 : Int)) && decide ((l.getD i.toNat segTy.zero).snd.snd.fst ≤ (1099511627776 : Int)))) fun v => bif v then K Ex.ret { slots := [(0, AV.vl segTy l), (2, AV.bool false), (3, AV.int IntKind.i64 n), (4, AV.bool lo), (5, AV.int IntKind.i64 i)], objs := [], nx := 0 } else Option.bind (bif !(l.getD i.toNat segTy.zero).snd.snd.snd.snd.snd.fst == decide (IntKind.i64.wrap (i + (1 : Int)) < n) then some true else bif (l.getD i.toNat segTy.zero).snd.snd.snd.snd.snd.fst then bif (l.getD i.toNat segTy.zero).fst == (l.getD i.toNat segTy.zero).snd.fst then some true else bif !(l.getD i.toNat segTy.zero).snd.snd.snd.snd.snd.fst then bif (l.getD i.toNat segTy.zero).snd.snd.snd.snd.snd.snd.fst then some true else bif (l.getD i.toNat segTy.zero).snd.snd.snd.snd.snd.snd.snd.fst then some true else some ((l.getD i.toNat segTy.zero).snd.snd.fst != (0 : Int)) else some false else bif !(l.getD i.toNat segTy.zero).snd.snd.snd.snd.snd.fst then bif (l.getD i.toNat segTy.zero).snd.snd.snd.snd.snd.snd.fst then some true else bif (l.getD i.toNat segTy.zero).snd.snd.snd.snd.snd.snd.snd.fst then some true else some ((l.getD i.toNat segTy.zero).snd.snd.fst != (0 : Int)) else some false) fun v => bif v then K Ex.ret { slots := [(0, AV.vl segTy l), (2, AV.bool false), (3, AV.int IntKind.i64 n), (4, AV.bool lo), (5, AV.int IntKind.i64 i)], objs := [], nx := 0 } else Option.bind (bif (l.getD i.toNat segTy.zero).snd.snd.snd.snd.snd.snd.snd.fst then bif lo then some true else bif decide ((↑(List.length (l.getD i.toNat segTy.zero).snd.snd.snd.snd.fst) : Int) > (0 : Int)) then some true else bif !(l.getD i.toNat segTy.zero).snd.snd.snd.snd.snd.snd.snd.fst then bif (l.getD i.toNat segTy.zero).snd.snd.snd.snd.snd.snd.snd.snd.snd != (0 : Int) then some true else bif decide (List.length (l.getD i.toNat segTy.zero).snd.snd.snd.snd.fst ≤ 1000000000) then some ((l.getD i.toNat segTy.zero).snd.snd.snd.snd.snd.snd.snd.snd.fst != (↑(bytS (l.getD i.toNat segTy.zero).snd.snd.snd.snd.fst).length : Int)) else none else some false else bif !(l.getD i.toNat segTy.zero).snd.snd.snd.snd.snd.snd.snd.fst then bif (l.getD i.toNat segTy.zero).snd.snd.snd.snd.snd.snd.snd.snd.snd != (0 : Int) then some true else bif decide (List.length (l.getD i.toNat segTy.zero).snd.snd.snd.snd.fst ≤ 1000000000) then some ((l.getD i.toNat segTy.zero).snd.snd.snd.snd.snd.snd.snd.snd.fst != (↑(bytS (l.getD i.toNat segTy.zero).snd.snd.snd.snd.fst).length : Int)) else none else some false) fun v => bif v then K Ex.ret { slots := [(0, AV.vl segTy l), (2, AV.bool false), (3, AV.int IntKind.i64 n), (4, AV.bool lo), (5, AV.int IntKind.i64 i)], objs := [], nx := 0 } else Option.bind (bif lo then some true else some !(l.getD i.toNat segTy.zero).snd.snd.snd.snd.snd.snd.snd.fst) fun v => bif (firstFrom (badRr (l.getD i.toNat segTy.zero)) 0 (List.length (l.getD i.toNat segTy.zero).snd.snd.snd.snd.fst)).isSome then K Ex.ret { slots := [(0, AV.vl segTy l), (2, AV.bool false), (3, AV.int IntKind.i64 n), (4, AV.bool v), (5, AV.int IntKind.i64 i)], objs := [], nx := 0 } else K Ex.normal { slots := [(0, AV.vl segTy l), (2, AV.bool f), (3, AV.int IntKind.i64 n), (4, AV.bool v), (5, AV.int IntKind.i64 (IntKind.i64.wrap (i + (1 : Int))))], objs := [], nx := 0 } else none else K (Ex.exit 0) { slots := [(0, AV.vl segTy l), (2, AV.bool f), (3, AV.int IntKind.i64 n), (4, AV.bool lo), (5, AV.int IntKind.i64 i)], objs := [], nx := 0 } := by kernel_rfl

def locI (l : List Seg) : Nat → Bool
  | 0 => false
  | i + 1 => locI l i || !(l.getD i segTy.zero).2.2.2.2.2.2.2.1
def cA (l : List Seg) (i : Nat) : Bool := decide ((l.getD i segTy.zero).1 < 0) || (decide ((l.getD i segTy.zero).1 > (l.getD i segTy.zero).2.1) || (decide ((l.getD i segTy.zero).2.1 > 1125899906842624) || ((decide (i > 0) && (l.getD i segTy.zero).1 != (l.getD (i - 1) segTy.zero).2.1) ||
  (decide ((l.getD i segTy.zero).2.2.2.1 < 0) || (decide ((l.getD i segTy.zero).2.2.2.2.2.2.2.2.1 < 0) || !(decide ((l.getD i segTy.zero).2.2.1 ≥ -1099511627776) && decide ((l.getD i segTy.zero).2.2.1 ≤ 1099511627776)))))))
def cB (l : List Seg) (i : Nat) : Bool := (!(l.getD i segTy.zero).2.2.2.2.2.1 == decide (((i + 1 : Nat) : Int) < (List.length l : Int))) || (((l.getD i segTy.zero).2.2.2.2.2.1 && (l.getD i segTy.zero).1 == (l.getD i segTy.zero).2.1) || (!(l.getD i segTy.zero).2.2.2.2.2.1 && ((l.getD i segTy.zero).2.2.2.2.2.2.1 || ((l.getD i segTy.zero).2.2.2.2.2.2.2.1 || (l.getD i segTy.zero).2.2.1 != 0))))
def cC (l : List Seg) (i : Nat) : Bool := ((l.getD i segTy.zero).2.2.2.2.2.2.2.1 && (locI l i || decide ((List.length (l.getD i segTy.zero).2.2.2.2.1 : Int) > 0))) || (!(l.getD i segTy.zero).2.2.2.2.2.2.2.1 && ((l.getD i segTy.zero).2.2.2.2.2.2.2.2.2 != 0 || (l.getD i segTy.zero).2.2.2.2.2.2.2.2.1 != ((bytS (l.getD i segTy.zero).2.2.2.2.1).length : Int)))
def badN (g : Seg) : Bool := (firstFrom (badRr g) 0 (List.length g.2.2.2.2.1)).isSome
def badL (l : List Seg) (i : Nat) : Bool := cA l i || (cB l i || (cC l i || badN (l.getD i segTy.zero)))
def rgSt (l : List Seg) (f : Bool) (lo : Bool) (i : Nat) : St := ⟨[(0, .vl segT l), (2, .bool f), (3, .int .i64 l.length), (4, .bool lo), (5, .int .i64 i)], [], 0⟩
def rgT (l : List Seg) (i : Nat) : St := rgSt l false (bif cA l i || (cB l i || cC l i) then locI l i else locI l (i + 1)) i
theorem rg_round {R : Type} (l : List Seg) (f : Bool) (hl : l.length ≤ 1000000000) (hs : l.all smallS = true) (i : Nat) (hi : i < l.length) (K : Ex → St → Option R) :
    roundK (env consE4) H.cooperageref10_RightLog 0 (LPof [(15, rlLC)]) V.cooperageref10_RightLog_4 L.cooperageref10_RightLog_4 (rgSt l f (locI l i) i) K = bif badL l i then K .ret (rgT l i) else K .normal (rgSt l f (locI l (i + 1)) (i + 1)) := by
  refine (rlout_rd l f (List.length l : Int) (locI l i) i K).trans ?_
  have e3 : IntKind.i64.wrap ((i : Int) + 1) = ((i + 1 : Nat) : Int) := by rw [wrap64 (by omega) (by omega)]; omega
  have hsm := small_at hs hi
  rw [cond_pos (by omega), cond_pos2 (by omega) (by omega), Int.toNat_natCast, e3]
  unfold badL rgT
  have eA : (bif decide ((l.getD i segTy.zero).1 < (0 : Int)) then some true else bif decide ((l.getD i segTy.zero).1 > (l.getD i segTy.zero).2.1) then some true else bif decide ((l.getD i segTy.zero).2.1 > (1125899906842624 : Int)) then some true else bif decide ((i : Int) > (0 : Int)) then bif decide ((0 : Int) ≤ IntKind.i64.wrap ((i : Int) - (1 : Int))) && decide (IntKind.i64.wrap ((i : Int) - (1 : Int)) < (List.length l : Int)) then bif (l.getD i segTy.zero).1 != (l.getD (IntKind.i64.wrap ((i : Int) - (1 : Int))).toNat segTy.zero).2.1 then some true else bif decide ((l.getD i segTy.zero).2.2.2.1 < (0 : Int)) then some true else bif decide ((l.getD i segTy.zero).2.2.2.2.2.2.2.2.1 < (0 : Int)) then some true else some !(decide ((l.getD i segTy.zero).2.2.1 ≥ (-1099511627776 : Int)) && decide ((l.getD i segTy.zero).2.2.1 ≤ (1099511627776 : Int))) else none else bif decide ((l.getD i segTy.zero).2.2.2.1 < (0 : Int)) then some true else bif decide ((l.getD i segTy.zero).2.2.2.2.2.2.2.2.1 < (0 : Int)) then some true else some !(decide ((l.getD i segTy.zero).2.2.1 ≥ (-1099511627776 : Int)) && decide ((l.getD i segTy.zero).2.2.1 ≤ (1099511627776 : Int)))) = some (cA l i) := by
    unfold cA
    by_cases h0 : i > 0
    · have w : IntKind.i64.wrap ((i : Int) - 1) = ((i - 1 : Nat) : Int) := by rw [wrap64 (by omega) (by omega)]; omega
      rw [w, Int.toNat_natCast, cond_pos (show (i : Int) > 0 by omega), cond_pos2 (by omega) (by omega)]
      simp only [or_bif, decide_eq_true h0, Bool.true_and]
    · rw [cond_neg (show ¬ (i : Int) > 0 by omega)]
      simp only [or_bif, decide_eq_false h0, Bool.false_and, Bool.false_or]
  rw [eA, Option.bind_some]
  cases hA : cA l i with
  | true => rfl
  | false =>
  rw [cond_false, Bool.false_or]
  have eB : (bif !(l.getD i segTy.zero).2.2.2.2.2.1 == decide (((i + 1 : Nat) : Int) < (List.length l : Int)) then some true else bif (l.getD i segTy.zero).2.2.2.2.2.1 then bif (l.getD i segTy.zero).1 == (l.getD i segTy.zero).2.1 then some true else bif !(l.getD i segTy.zero).2.2.2.2.2.1 then bif (l.getD i segTy.zero).2.2.2.2.2.2.1 then some true else bif (l.getD i segTy.zero).2.2.2.2.2.2.2.1 then some true else some ((l.getD i segTy.zero).2.2.1 != (0 : Int)) else some false else bif !(l.getD i segTy.zero).2.2.2.2.2.1 then bif (l.getD i segTy.zero).2.2.2.2.2.2.1 then some true else bif (l.getD i segTy.zero).2.2.2.2.2.2.2.1 then some true else some ((l.getD i segTy.zero).2.2.1 != (0 : Int)) else some false) = some (cB l i) := by
    unfold cB
    cases (l.getD i segTy.zero).2.2.2.2.2.1 <;> simp only [or_bif, cond_true, cond_false, Bool.not_true, Bool.not_false, Bool.true_and, Bool.false_and, Bool.or_false, Bool.false_or]
  rw [eB, Option.bind_some]
  cases hB : cB l i with
  | true => rfl
  | false =>
  rw [cond_false, Bool.false_or]
  have eC : (bif (l.getD i segTy.zero).2.2.2.2.2.2.2.1 then bif locI l i then some true else bif decide ((List.length (l.getD i segTy.zero).2.2.2.2.1 : Int) > (0 : Int)) then some true else bif !(l.getD i segTy.zero).2.2.2.2.2.2.2.1 then bif (l.getD i segTy.zero).2.2.2.2.2.2.2.2.2 != (0 : Int) then some true else bif decide (List.length (l.getD i segTy.zero).2.2.2.2.1 ≤ 1000000000) then some ((l.getD i segTy.zero).2.2.2.2.2.2.2.2.1 != ((bytS (l.getD i segTy.zero).2.2.2.2.1).length : Int)) else none else some false else bif !(l.getD i segTy.zero).2.2.2.2.2.2.2.1 then bif (l.getD i segTy.zero).2.2.2.2.2.2.2.2.2 != (0 : Int) then some true else bif decide (List.length (l.getD i segTy.zero).2.2.2.2.1 ≤ 1000000000) then some ((l.getD i segTy.zero).2.2.2.2.2.2.2.2.1 != ((bytS (l.getD i segTy.zero).2.2.2.2.1).length : Int)) else none else some false) = some (cC l i) := by
    unfold cC
    rw [decide_eq_true hsm]
    cases (l.getD i segTy.zero).2.2.2.2.2.2.2.1 <;> simp only [or_bif, cond_true, cond_false, Bool.not_true, Bool.not_false, Bool.true_and, Bool.false_and, Bool.or_false, Bool.false_or]
  rw [eC, Option.bind_some]
  cases hC : cC l i with
  | true => rfl
  | false =>
  rw [cond_false, Bool.false_or, or_bif, Option.bind_some]
  unfold badN
  cases (firstFrom (badRr (l.getD i segTy.zero)) 0 (List.length (l.getD i segTy.zero).2.2.2.2.1)).isSome <;> rfl
abbrev rgLC : LoopC := LoopC.of ⟨[(0, .vl segT), (2, .bool), (3, .int .i64), (4, .bool), (5, .int .i64)], []⟩
  (fun ⟨⟨l, f, n, lo, i, _⟩, _⟩ => decide (i = (0 : Int)) && decide (n = (List.length l : Int)) && !lo && smallL l)
  fun ⟨⟨l, f, n, lo, i, _⟩, _⟩ => [((firstFrom (badL l) 0 (List.length l)).isSome, .ret, rgT l ((firstFrom (badL l) 0 (List.length l)).getD 0)), (true, .exit 0, rgSt l f (locI l (List.length l)) (List.length l))]
theorem rg_lok : LoopOK P0 H.cooperageref10_RightLog 0 L.cooperageref10_RightLog_4 rgLC :=
  loop_ok_of (env_ok consE4_ok) glob0 mixed0 (loops_good (tab := [(15, rlLC)]) (by kernel_rfl) (fun x hx => by simp at hx; subst hx; exact rl_lok)) V.cooperageref10_RightLog_4 (by decide) fun ⟨⟨l, f, n, lo, i, _⟩, _⟩ h hw => by
    simp only [Bool.and_eq_true, decide_eq_true_eq, smallL, Bool.not_eq_true'] at h
    obtain ⟨⟨⟨rfl, rfl⟩, rfl⟩, h5, h6⟩ := h
    have h5 : List.length l ≤ 1000000000 := h5
    refine ⟨_, Eq.trans (search_rounds (S := fun i => rgSt l f (locI l i) i) (T := rgT l) (p := badL l) (n := List.length l) (e1 := .ret) (e2 := .exit 0) (s2 := rgSt l f (locI l (List.length l)) (List.length l)) (by simp) (by simp) (fun k hk K => rg_round l f h5 h6 k hk K) (fun K => ?_) _ (List.length l) 0 (by omega)) search_pick⟩
    refine (rlout_rd l f (List.length l : Int) (locI l (List.length l)) (List.length l : Nat) K).trans ?_
    rw [cond_neg (by omega)]
    rfl
theorem rlog_ev (l : List Seg) : evFn (env consE4) H.cooperageref10_RightLog (LPof [(4, rgLC), (15, rlLC)]) F.cooperageref10_RightLog [.vl segT l] [] (finT [.bool]) = bif decide ((↑l.length : Int) = (↑l.length : Int)) && true && smallL l && (firstFrom (badL l) 0 l.length).isSome then some (false, ()) else bif decide ((↑l.length : Int) = (↑l.length : Int)) && true && smallL l && true then some (decide ((↑l.length : Int) > (0 : Int)), ()) else none := by kernel_rfl

end Go.Sim
namespace Go.Sim
set_option linter.unusedSimpArgs false
set_option linter.unusedVariables false
set_option maxRecDepth 10000
def rightO (l : List Seg) : Bool := decide (0 < List.length l) && (firstFrom (badO l) 0 (List.length l)).isNone
def rightB (l : List Seg) : Bool := decide (0 < List.length l) && (firstFrom (badL l) 0 (List.length l)).isNone
theorem ff_eq {p q : Nat → Bool} : ∀ (m i : Nat), (∀ j, j < i → p j = false) → (∀ j, j < i → q j = false) → (∀ k, k < i + m → (∀ j, j < k → p j = false) → (∀ j, j < k → q j = false) → p k = q k) → firstFrom p i m = firstFrom q i m
  | 0, i, _, _, _ => rfl
  | m + 1, i, hp, hq, h => by
    have e := h i (by omega) hp hq
    simp only [firstFrom]
    rw [e]
    cases hb : q i with
    | true => rfl
    | false =>
      exact ff_eq m (i + 1) (fun j hj => by
        rcases Nat.lt_or_ge j i with h1 | h1
        · exact hp j h1
        · rw [show j = i by omega, e, hb]) (fun j hj => by
        rcases Nat.lt_or_ge j i with h1 | h1
        · exact hq j h1
        · rw [show j = i by omega, hb]) (fun k hk => h k (by omega))
theorem chain_eq (g : Seg) : chainB g = !badN g := by
  have key : firstFrom (badRc g) 0 (List.length g.2.2.2.2.1) = firstFrom (badRr g) 0 (List.length g.2.2.2.2.1) := ff_eq _ 0 (fun j hj => by omega) (fun j hj => by omega) fun k hk hp hq => by
    unfold badRc badRr
    cases k with
    | zero => simp [nextR]
    | succ k =>
      have h1 := hq k (by omega)
      unfold badRr at h1
      simp only [Bool.or_eq_false_iff, Bool.not_eq_false', decide_eq_false_iff_not] at h1
      obtain ⟨r1, r2, r3, _⟩ := h1
      have hr : (g.2.2.2.2.1.getD k recTy.zero).1 ≥ 0 ∧ (g.2.2.2.2.1.getD k recTy.zero).1 ≤ 1125899906842624 := by
        unfold recR at r1
        simp only [Bool.and_eq_true, decide_eq_true_eq] at r1
        exact ⟨r1.1, r1.2.1⟩
      have e : nextR g (k + 1) = (g.2.2.2.2.1.getD k recTy.zero).1 + 1 := wrap64 (by omega) (by omega)
      rw [e]
      cases recR (g.2.2.2.2.1.getD (k + 1) recTy.zero) with
      | false => rfl
      | true =>
        simp only [Bool.not_true, Bool.false_or, Nat.add_sub_cancel, show k + 1 > 0 from Nat.succ_pos _, decide_true, Bool.true_and]
        apply Bool.eq_iff_iff.2
        simp only [Bool.or_eq_true, decide_eq_true_eq]
        omega
  unfold chainB badN
  rw [key]
  cases firstFrom (badRr g) 0 (List.length g.2.2.2.2.1) <;> rfl
theorem loc_eq {l : List Seg} : ∀ {i : Nat}, (∀ j, j < i → badO l j = false) → locI l i = (decide (i > 0) && !(l.getD (i - 1) segTy.zero).2.2.2.2.2.2.2.1)
  | 0, _ => rfl
  | i + 1, h => by
    have ih := loc_eq (l := l) (i := i) (fun j hj => h j (by omega))
    have hb := h i (by omega)
    show (locI l i || !(l.getD i segTy.zero).2.2.2.2.2.2.2.1) = _
    rw [ih, Nat.add_sub_cancel, decide_eq_true (show i + 1 > 0 by omega), Bool.true_and]
    unfold badO at hb
    simp only [Bool.or_eq_false_iff] at hb
    have hb := hb.2
    cases h0 : decide (i > 0) with
    | false => rfl
    | true =>
      rw [h0, Bool.true_and] at hb
      simp only [Bool.or_eq_false_iff] at hb
      have hb := hb.2
      revert hb
      cases (l.getD i segTy.zero).2.2.2.2.2.2.2.1 <;> cases (l.getD (i - 1) segTy.zero).2.2.2.2.2.2.2.1 <;> simp
theorem bool_log (b0 g0 z0 bn big inn s q nb tl tg tz c r len0 u0 ze ip bp pr tm : Bool) (ht : tm = !(tl || tg)) :
    (!(!(b0 || (g0 || (z0 || (bn || (big || inn))))) && (!(s == q) && (!(s && nb) && (!(tl || tg) && (!(q && (!tz || (c || r))) && (bif r then len0 else u0 && ze)))))) || (ip && (bp || (r && !pr)))) =
    ((b0 || (bn || (big || ((ip && bp) || (g0 || (z0 || !tm)))))) || (((!s == !q) || ((s && nb) || (!s && (c || (r || !tz))))) || (((r && ((ip && !pr) || !len0)) || (!r && (!u0 || !ze))) || inn))) := by
  subst ht
  cases s <;> cases q <;> cases r <;> cases ip <;> cases pr <;> simp [Bool.or_comm, Bool.or_left_comm, Bool.or_assoc]
theorem bad_eq {l : List Seg} {i : Nat} (hi : i < l.length) (h : ∀ j, j < i → badO l j = false) : badO l i = badL l i := by
  have e1 : decide (((i + 1 : Nat) : Int) < (List.length l : Int)) = !(((i + 1 : Nat) : Int) == (List.length l : Int)) := by
    apply Bool.eq_iff_iff.2
    simp only [decide_eq_true_eq, Bool.not_eq_true', beq_eq_false_iff_ne]
    omega
  have e2 : ((l.getD i segTy.zero).1 == (l.getD i segTy.zero).2.1) = ((l.getD i segTy.zero).2.1 == (l.getD i segTy.zero).1) := by
    apply Bool.eq_iff_iff.2
    simp only [beq_iff_eq]
    exact eq_comm
  have e3 : decide ((List.length (l.getD i segTy.zero).2.2.2.2.1 : Int) > 0) = !((List.length (l.getD i segTy.zero).2.2.2.2.1 : Int) == 0) := by
    apply Bool.eq_iff_iff.2
    simp only [decide_eq_true_eq, Bool.not_eq_true', beq_eq_false_iff_ne]
    omega
  have ht : (decide ((l.getD i segTy.zero).2.2.1 ≥ -1099511627776) && decide ((l.getD i segTy.zero).2.2.1 ≤ 1099511627776)) = !(decide ((l.getD i segTy.zero).2.2.1 < -1099511627776) || decide ((l.getD i segTy.zero).2.2.1 > 1099511627776)) := by
    apply Bool.eq_iff_iff.2
    simp only [Bool.and_eq_true, decide_eq_true_eq, Bool.not_eq_true', Bool.or_eq_false_iff, decide_eq_false_iff_not]
    omega
  unfold badO badL mayB cA cB cC
  rw [chain_eq, loc_eq h, Bool.not_not, e1, e2, e3]
  exact bool_log _ _ _ _ _ _ _ (((i + 1 : Nat) : Int) == (List.length l : Int)) _ _ _ ((l.getD i segTy.zero).2.2.1 == 0) _ _ ((List.length (l.getD i segTy.zero).2.2.2.2.1 : Int) == 0) ((l.getD i segTy.zero).2.2.2.2.2.2.2.2.2 == 0) ((l.getD i segTy.zero).2.2.2.2.2.2.2.2.1 == ((bytS (l.getD i segTy.zero).2.2.2.2.1).length : Int)) _ _ _ _ ht
theorem right_eq (l : List Seg) : rightO l = rightB l := by
  have key : firstFrom (badO l) 0 (List.length l) = firstFrom (badL l) 0 (List.length l) := ff_eq _ 0 (fun j hj => by omega) (fun j hj => by omega) fun k hk hp _ => bad_eq (by omega) hp
  unfold rightO rightB
  rw [key]
def caseOfN : VCase := ⟨[.vl segT], [], .tup [.lit .nilp, .lit (.bool false)], [], fun ⟨l, _⟩ _ => [(smallL l && !rightO l, (((), (), ()), ()))]⟩
def caseOfY : VCase := ⟨[.vl segT], [], .tup [.lit (.ptr 0 (.tl 0) 0), .lit (.bool true)], [.box 1 [[.vl segT]]], fun ⟨l, _⟩ _ => [(smallL l && rightO l, (((), (), ()), (((l, ()), ()), ())))]⟩
theorem len0_eq (l : List Seg) : ((List.length l : Int) == 0) = !decide (0 < List.length l) := by
  apply Bool.eq_iff_iff.2
  simp only [beq_iff_eq, Bool.not_eq_true', decide_eq_false_iff_not]
  omega
theorem ofn_ok : caseOfN.e.ok P0 I.segs_Of := vcase_ok (c := caseOfN) (H := H.segs_Of) (E := env consE3) (env_ok consE3_ok) glob0 mixed0 G.segs_Of Bd.segs_Of (by kernel_rfl) (loops_good (tab := [(5, ofLC)]) (by kernel_rfl) (fun x hx => by simp at hx; subst hx; exact of_lok)) fun ⟨l, _⟩ _ r h hw1 hw2 => by
  obtain ⟨hc, rfl⟩ := pick_pre h
  simp only [Bool.and_eq_true] at hc
  refine (ofn_ev l).trans ?_
  have h2 := hc.2
  unfold rightO at h2
  rw [len0_eq, hc.1]
  cases h0 : decide (0 < List.length l) with
  | false => rfl
  | true =>
    rw [h0, Bool.true_and] at h2
    simp only [decide_true, Bool.not_true, cond_false, Bool.true_and]
    cases hf : firstFrom (badO l) 0 (List.length l) with
    | none => rw [hf] at h2; cases h2
    | some j => rfl
theorem ofy_ok : caseOfY.e.ok P0 I.segs_Of := vcase_ok (c := caseOfY) (H := H.segs_Of) (E := env consE3) (env_ok consE3_ok) glob0 mixed0 G.segs_Of Bd.segs_Of (by kernel_rfl) (loops_good (tab := [(5, ofLC)]) (by kernel_rfl) (fun x hx => by simp at hx; subst hx; exact of_lok)) fun ⟨l, _⟩ _ r h hw1 hw2 => by
  obtain ⟨hc, rfl⟩ := pick_pre h
  simp only [Bool.and_eq_true] at hc
  refine (ofy_ev l).trans ?_
  have h2 := hc.2
  unfold rightO at h2
  rw [len0_eq, hc.1]
  cases h0 : decide (0 < List.length l) with
  | false => rw [h0] at h2; cases h2
  | true =>
    rw [h0, Bool.true_and] at h2
    simp only [decide_true, Bool.not_true, cond_false, Bool.true_and]
    cases hf : firstFrom (badO l) 0 (List.length l) with
    | none => rfl
    | some j => rw [hf] at h2; cases h2
theorem pick_or {α : Type} {v : α} : ∀ {a b : List (Bool × α)}, pick (a ++ b) = some v → pick a = some v ∨ pick b = some v
  | [], _, h => .inr h
  | (true, u) :: _, _, h => .inl h
  | (false, u) :: a, b, h => pick_or (a := a) h
def caseOf : ECase := ⟨caseOfN.ins, caseOfN.objs, fun x y => caseOfN.e.f x y ++ caseOfY.e.f x y⟩
theorem of_ok : caseOf.ok P0 I.segs_Of := fun x y r objs' h hw1 hw2 => by
  rcases pick_or h with h | h
  · exact ofn_ok x y r objs' h hw1 hw2
  · exact ofy_ok x y r objs' h hw1 hw2
def caseRlog : PCase := ⟨[.ty (.sl segT)], [.bool], fun x => (fun (l : List Seg) => [(smallL l, (rightB l, ()))]) x.1⟩
theorem rlog_val (l : List Seg) (hc : (smallL l) = true) : evFn (env consE4) H.cooperageref10_RightLog (LPof [(4, rgLC), (15, rlLC)]) F.cooperageref10_RightLog [.vl segT l] [] (finT [.bool]) = some (rightB l, ()) := by
  rw [rlog_ev, hc]
  unfold rightB
  simp only [decide_true, Bool.true_and, Bool.and_true]
  have e : decide ((List.length l : Int) > 0) = decide (0 < List.length l) := by
    apply Bool.eq_iff_iff.2
    simp only [decide_eq_true_eq]
    omega
  rw [e]
  cases firstFrom (badL l) 0 (List.length l) with
  | none => simp
  | some j => simp
theorem rlog_ok : caseRlog.ok P0 I.cooperageref10_RightLog := case_ok2 (H := H.cooperageref10_RightLog) (E := env consE4) (env_ok consE4_ok) glob0 mixed0 G.cooperageref10_RightLog Bd.cooperageref10_RightLog (by kernel_rfl) (loops_good (tab := [(4, rgLC), (15, rlLC)]) (by kernel_rfl) (fun x hx => by simp at hx; rcases hx with rfl | rfl <;> first | exact rg_lok | exact rl_lok)) fun ⟨l, ()⟩ y h hw => by
  obtain ⟨hc, rfl⟩ := pick_pre h
  exact rlog_val l hc
theorem seg_dif (a b : Seg) : (bif a.1 != b.1 then some true else bif a.2.1 != b.2.1 then some true else bif a.2.2.1 != b.2.2.1 then some true else bif a.2.2.2.1 != b.2.2.2.1 then some true else bif !decide (a.2.2.2.2.1 = b.2.2.2.2.1) then some true else bif !a.2.2.2.2.2.1 == b.2.2.2.2.2.1 then some true else bif !a.2.2.2.2.2.2.1 == b.2.2.2.2.2.2.1 then some true else bif !a.2.2.2.2.2.2.2.1 == b.2.2.2.2.2.2.2.1 then some true else bif a.2.2.2.2.2.2.2.2.1 != b.2.2.2.2.2.2.2.2.1 then some true else some (a.2.2.2.2.2.2.2.2.2 != b.2.2.2.2.2.2.2.2.2)) = some !decide (a = b) := by
  obtain ⟨a1, a2, a3, a4, a5, a6, a7, a8, a9, a10⟩ := a
  obtain ⟨b1, b2, b3, b4, b5, b6, b7, b8, b9, b10⟩ := b
  simp only [or_bif]
  congr 1
  rw [Bool.eq_iff_iff]
  simp only [Bool.or_eq_true, bne_iff_ne, ne_eq, Bool.not_eq_true', decide_eq_false_iff_not, beq_eq_false_iff_ne, Prod.mk.injEq]
  constructor
  · intro h
    rintro ⟨h1, h2, h3, h4, h5, h6, h7, h8, h9, h10⟩
    subst h1; subst h2; subst h3; subst h4; subst h5; subst h6; subst h7; subst h8; subst h9; subst h10
    simp at h
  · intro h
    by_cases h1 : a1 = b1
    · by_cases h2 : a2 = b2
      · by_cases h3 : a3 = b3
        · by_cases h4 : a4 = b4
          · by_cases h5 : a5 = b5
            · by_cases h6 : a6 = b6
              · by_cases h7 : a7 = b7
                · by_cases h8 : a8 = b8
                  · by_cases h9 : a9 = b9
                    · exact .inr (.inr (.inr (.inr (.inr (.inr (.inr (.inr (.inr fun h10 => h ⟨h1, h2, h3, h4, h5, h6, h7, h8, h9, h10⟩))))))))
                    · exact .inr (.inr (.inr (.inr (.inr (.inr (.inr (.inr (.inl h9))))))))
                  · exact .inr (.inr (.inr (.inr (.inr (.inr (.inr (.inl h8)))))))
                · exact .inr (.inr (.inr (.inr (.inr (.inr (.inl h7))))))
              · exact .inr (.inr (.inr (.inr (.inr (.inl h6)))))
            · exact .inr (.inr (.inr (.inr (.inl h5))))
          · exact .inr (.inr (.inr (.inl h4)))
        · exact .inr (.inr (.inl h3))
      · exact .inr (.inl h2)
    · exact .inl h1
def difS (a b : List Seg) (i : Nat) : Bool := !(decide (a.getD i segTy.zero = b.getD i segTy.zero))
def smSt (a b : List Seg) (f : Bool) (i : Nat) : St := ⟨[(0, .vl segT a), (1, .vl segT b), (4, .bool f), (5, .int .i64 i)], [], 0⟩
abbrev smLC : LoopC := LoopC.of ⟨[(0, .vl segT), (1, .vl segT), (4, .bool), (5, .int .i64)], []⟩ (fun x => decide (List.length x.1.2.1 = List.length x.1.1) && decide (x.1.2.2.2.1 = (0 : Int)))
    fun x => [((firstFrom (difS x.1.1 x.1.2.1) 0 (List.length x.1.1)).isSome, .ret, smSt x.1.1 x.1.2.1 false ((firstFrom (difS x.1.1 x.1.2.1) 0 (List.length x.1.1)).getD 0)), (true, .exit 0, smSt x.1.1 x.1.2.1 x.1.2.2.1 (List.length x.1.1))]
theorem sm_lok : LoopOK P0 H.cooperageref10_SameSegments 0 L.cooperageref10_SameSegments_4 smLC :=
  loop_ok_of (env_ok consF0_ok) glob0 mixed0 noLoops V.cooperageref10_SameSegments_4 (by decide) fun ⟨⟨a, b, f, i, _⟩, _⟩ h hw => by
    simp only [Bool.and_eq_true, decide_eq_true_eq] at h
    obtain ⟨h1, h2⟩ := h
    subst h2
    have hm : List.length a ≤ maxL := hw.1.1.1
    unfold maxL at hm
    refine ⟨_, Eq.trans (search_rounds (S := smSt a b f) (T := smSt a b false) (p := difS a b) (n := List.length a) (e1 := .ret) (e2 := .exit 0) (s2 := smSt a b f (List.length a)) (by simp) (by simp) (fun i hi K => ?_) (fun K => ?_) _ (List.length a) 0 (by omega)) search_pick⟩
    · refine (ssame_rd a b f i K).trans ?_
      rw [cond_pos (by omega), cond_pos2 (by omega) (by omega), cond_pos2 (by omega) (by omega), Int.toNat_natCast, seg_dif, wrap64 (by omega) (by omega)]
      rfl
    · refine (ssame_rd a b f (List.length a : Nat) K).trans ?_
      rw [cond_neg (by omega)]
      rfl
theorem ssame_ev (a b : List Seg) : evFn (env consF0) H.cooperageref10_SameSegments (LPof [(4, smLC)]) F.cooperageref10_SameSegments [.vl segT a, .vl segT b] [] (finT [.bool]) = bif (↑a.length : Int) != (↑b.length : Int) then some (false, ()) else bif decide (b.length = a.length) && true && (firstFrom (difS a b) 0 a.length).isSome then some (false, ()) else bif decide (b.length = a.length) && true && true then some (true, ()) else none := by kernel_rfl

def caseSsame : PCase := ⟨[.ty (.sl segT), .ty (.sl segT)], [.bool], fun x => (fun (a b : List Seg) => [(true, (decide (a = b), ()))]) x.1 x.2.1⟩
theorem ssame_val (a b : List Seg) : evFn (env consF0) H.cooperageref10_SameSegments (LPof [(4, smLC)]) F.cooperageref10_SameSegments [.vl segT a, .vl segT b] [] (finT [.bool]) = some (decide (a = b), ()) := by
  rw [ssame_ev]
  by_cases h : b.length = a.length
  · have h1 : ((a.length : Int) != (b.length : Int)) = false := by simp; omega
    have := firstFrom_eq (q := fun a b => decide (a = b)) (fun _ _ => rfl) segTy.zero h
    unfold difS
    rw [h1, this, decide_eq_true h]
    cases decide (a = b) <;> rfl
  · have h1 : ((a.length : Int) != (b.length : Int)) = true := by simp; omega
    have h2 : a ≠ b := fun e => h (by rw [e])
    rw [h1, decide_eq_false h2]; rfl
theorem ssame_ok : caseSsame.ok P0 I.cooperageref10_SameSegments := case_ok2 (H := H.cooperageref10_SameSegments) (E := env consF0) (env_ok consF0_ok) glob0 mixed0 G.cooperageref10_SameSegments Bd.cooperageref10_SameSegments (by kernel_rfl) (loops_good (tab := [(4, smLC)]) (by kernel_rfl) (fun x hx => by simp at hx; subst hx; exact sm_lok)) fun ⟨a, b, ()⟩ y h hw => by
  obtain ⟨hc, rfl⟩ := pick_pre h
  exact ssame_val a b
end Go.Sim
