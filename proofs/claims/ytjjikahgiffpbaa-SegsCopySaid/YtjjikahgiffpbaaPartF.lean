/-
  WkUG: walks of a log: Find; records from an offset on. · WkW2: the document's log: Append, Find. · PlRet: chapter 14 in plain Lean: which segments are dropped. · WkK2: walks of package retain, and of the reference's Drop, for the newer seats. · PlCln: chapter 13 in plain Lean: which records stay. · WkW3: the document's Keep. · PlGrp: tables of groups: the plain side. · PlFold: what records fold to, and that a clean leaves it as it was. · WkUD: what Clean makes of a log, in plain Lean. · WkW4: the document's log: Clean. · WkUI: a part of a log's row, copied: raw cells. · WkUJ: slices.Clone of the hinder part of a log's segments; Log.Retain. · WkR5: a log of segments: Merge.
-/
import Derived.Test.YtjjikahgiffpbaaPartE
namespace Go.Sim
set_option linter.unusedSimpArgs false
set_option linter.unusedVariables false
set_option maxRecDepth 10000
noncomputable abbrev consI1 : List (FuncId × Con) := [(I.f52, inl (env []) H.f52 F.f52 (fun R k0 => loopsF (env []) H.f52 k0 B.f52 1))]
theorem consI1_ok : ∀ x ∈ consI1, HoldsC P0 x.1 x.2 := by
  intro x hx
  simp at hx
  subst hx
  exact inl_ok (env_ok env_nil) glob0 mixed0 G.f52 Bd.f52 C.f52 (fun R k0 => loopsF_good (env_ok env_nil) glob0 mixed0 (by kernel_rfl) 1)
theorem idx_rd {R : Type} (off r k m i : Int) (f : List Seg) (b n z : Int) (rs : List Rec) (K : Ex → St → Option R) : roundK (env consI1) H.f76 3 (LPof []) V.f76_2 L.f76_2 ⟨[(0, .hw 0), (1, .fn (.func I.f52) [] [.ptr 2 (.tl 0) 0]), (4, .int .i64 r), (7, .int .i64 m), (8, .int .i64 i)], [(0, .arr 10 segT f [actR b n z]), (1, .log recT rs), (2, .arr 1 .bool [] [[.int .i64 off]])], 3⟩ K = bif decide (i < m) then bif decide ((0 : Int) ≤ i) && decide (i < (↑(f.length + 1) : Int)) then bif decide (i.toNat < f.length) then bif decide ((f.getD i.toNat segTy.zero).2.1 > off) then K .ret { slots := [(0, .hw 0), (1, .fn (Fn.func 64) [] [.ptr 2 (.tl 0) 0]), (4, .int .i64 i), (7, .int .i64 m), (8, .int .i64 i)], objs := [(0, .arr 10 segTy f [[.int .i64 b, .int .i64 n, .int .i64 (0 : Int), .int .i64 (0 : Int), .hw 1, .bool false, .bool false, .bool false, .int .i64 z, .int .u32 (0 : Int)]]), (1, .log recTy rs), (2, .arr 1 .bool [] [[.int .i64 off]])], nx := 3 } else K .normal { slots := [(0, .hw 0), (1, .fn (Fn.func 64) [] [.ptr 2 (.tl 0) 0]), (4, .int .i64 r), (7, .int .i64 m), (8, .int .i64 (IntKind.i64.wrap (i + (1 : Int))))], objs := [(0, .arr 10 segTy f [[.int .i64 b, .int .i64 n, .int .i64 (0 : Int), .int .i64 (0 : Int), .hw 1, .bool false, .bool false, .bool false, .int .i64 z, .int .u32 (0 : Int)]]), (1, .log recTy rs), (2, .arr 1 .bool [] [[.int .i64 off]])], nx := 3 } else bif decide (i.toNat - f.length = 0) then bif decide (n > off) then K .ret { slots := [(0, .hw 0), (1, .fn (Fn.func 64) [] [.ptr 2 (.tl 0) 0]), (4, .int .i64 i), (7, .int .i64 m), (8, .int .i64 i)], objs := [(0, .arr 10 segTy f [[.int .i64 b, .int .i64 n, .int .i64 (0 : Int), .int .i64 (0 : Int), .hw 1, .bool false, .bool false, .bool false, .int .i64 z, .int .u32 (0 : Int)]]), (1, .log recTy rs), (2, .arr 1 .bool [] [[.int .i64 off]])], nx := 3 } else K .normal { slots := [(0, .hw 0), (1, .fn (Fn.func 64) [] [.ptr 2 (.tl 0) 0]), (4, .int .i64 r), (7, .int .i64 m), (8, .int .i64 (IntKind.i64.wrap (i + (1 : Int))))], objs := [(0, .arr 10 segTy f [[.int .i64 b, .int .i64 n, .int .i64 (0 : Int), .int .i64 (0 : Int), .hw 1, .bool false, .bool false, .bool false, .int .i64 z, .int .u32 (0 : Int)]]), (1, .log recTy rs), (2, .arr 1 .bool [] [[.int .i64 off]])], nx := 3 } else none else none else K (.exit 0) { slots := [(0, .hw 0), (1, .fn (Fn.func 64) [] [.ptr 2 (.tl 0) 0]), (4, .int .i64 r), (7, .int .i64 m), (8, .int .i64 i)], objs := [(0, .arr 10 segTy f [[.int .i64 b, .int .i64 n, .int .i64 (0 : Int), .int .i64 (0 : Int), .hw 1, .bool false, .bool false, .bool false, .int .i64 z, .int .u32 (0 : Int)]]), (1, .log recTy rs), (2, .arr 1 .bool [] [[.int .i64 off]])], nx := 3 } := by kernel_rfl
def nextP (off : Int) (M : LogS) (i : Nat) : Bool := decide (((segsL M).getD i segTy.zero).2.1 > off)
abbrev idO (off : Int) (M : LogS) : List (Nat × AObj) := [(0, .arr 10 segT M.1 [actR M.2.1 M.2.2.1 M.2.2.2.1]), (1, .log recT M.2.2.2.2), (2, .arr 1 .bool [] [[.int .i64 off]])]
def idSt (off r : Int) (M : LogS) (i : Nat) : St := ⟨[(0, .hw 0), (1, .fn (.func I.f52) [] [.ptr 2 (.tl 0) 0]), (4, .int .i64 r), (7, .int .i64 (M.1.length + 1 : Nat)), (8, .int .i64 i)], idO off M, 3⟩
theorem id_step {R : Type} (off r : Int) (M : LogS) (h1 : M.1.length ≤ 1000000000) (i : Nat) (hi : i < M.1.length + 1) (K : Ex → St → Option R) :
    roundK (env consI1) H.f76 3 (LPof []) V.f76_2 L.f76_2 (idSt off r M i) K = bif nextP off M i then K .ret (idSt off i M i) else K .normal (idSt off r M (i + 1)) := by
  refine (idx_rd off r 0 (M.1.length + 1 : Nat) i M.1 M.2.1 M.2.2.1 M.2.2.2.1 M.2.2.2.2 K).trans ?_
  have e1 : IntKind.i64.wrap ((i : Int) + 1) = ((i + 1 : Nat) : Int) := by rw [wrap64 (by omega) (by omega)]; omega
  rw [cond_pos (by omega), cond_pos2 (by omega) (by omega), Int.toNat_natCast, e1]
  unfold nextP
  by_cases h : i < M.1.length
  · rw [cond_pos h, segsL_lt h]
    rfl
  · obtain rfl : i = M.1.length := by omega
    rw [cond_neg h, cond_pos (by omega), segsL_last]
    rfl
theorem id_last {R : Type} (off r : Int) (M : LogS) (K : Ex → St → Option R) :
    roundK (env consI1) H.f76 3 (LPof []) V.f76_2 L.f76_2 (idSt off r M (M.1.length + 1)) K = K (.exit 0) (idSt off r M (M.1.length + 1)) := by
  refine (idx_rd off r 0 (M.1.length + 1 : Nat) (M.1.length + 1 : Nat) M.1 M.2.1 M.2.2.1 M.2.2.2.1 M.2.2.2.2 K).trans ?_
  rw [cond_neg (by omega)]
  rfl
abbrev idP : List OPat := [.arr 10 segT [actRP], .log recT, .box 1 [[.int .i64]]]
def idAt (off : Int) (M : LogS) : Option Nat := firstFrom (nextP off M) 0 (M.1.length + 1)
abbrev idLC : LoopC := LoopC.of ⟨[(0, .lit (.hw 0)), (1, .fn I.f52 [.lit (.ptr 2 (.tl 0) 0)]), (4, .int .i64), (7, .int .i64), (8, .int .i64)], idP⟩
  (fun ⟨⟨_, _, r, m, i, _⟩, ⟨⟨f, ⟨b, n, _, _, _, _, _, _, z, _, _⟩, _⟩, rs, ⟨⟨off, _⟩, _⟩, _⟩⟩ => decide (i = (0 : Int)) && decide (m = ((List.length f + 1 : Nat) : Int)) && decide (List.length f ≤ 1000000000))
  fun ⟨⟨_, _, r, m, i, _⟩, ⟨⟨f, ⟨b, n, _, _, _, _, _, _, z, _, _⟩, _⟩, rs, ⟨⟨off, _⟩, _⟩, _⟩⟩ => [((idAt off (f, b, n, z, rs)).isSome, .ret, idSt off ((idAt off (f, b, n, z, rs)).getD 0 : Nat) (f, b, n, z, rs) ((idAt off (f, b, n, z, rs)).getD 0)), (true, .exit 0, idSt off r (f, b, n, z, rs) (List.length f + 1))]
theorem id_lok : LoopOK P0 H.f76 3 L.f76_2 idLC :=
  loop_ok_of (env_ok consI1_ok) glob0 mixed0 noLoops V.f76_2 (by decide) fun ⟨⟨_, _, r, m, i, _⟩, ⟨⟨f, ⟨b, n, _, _, _, _, _, _, z, _, _⟩, _⟩, rs, ⟨⟨off, _⟩, _⟩, _⟩⟩ h hw => by
    simp only [Bool.and_eq_true, decide_eq_true_eq] at h
    obtain ⟨⟨rfl, rfl⟩, h3⟩ := h
    exact ⟨_, Eq.trans (search_rounds (S := idSt off r (f, b, n, z, rs)) (T := fun i => idSt off i (f, b, n, z, rs) i) (p := nextP off (f, b, n, z, rs)) (n := List.length f + 1) (e1 := .ret) (e2 := .exit 0) (by simp) (by simp) (fun i hi K => id_step off r (f, b, n, z, rs) h3 i hi K) (fun K => id_last off r (f, b, n, z, rs) K) _ (List.length f + 1) 0 (by omega)) search_pick⟩
theorem idx_ev (off : Int) (f : List Seg) (b n z : Int) (rs : List Rec) : evFn (env consI1) H.f76 (LPof [(2, idLC)]) F.f76 [.hw 0, .fn (.func I.f52) [] [.ptr 2 (.tl 0) 0]] [.arr 10 segT f [actR b n z], .log recT rs, .arr 1 .bool [] [[.int .i64 off]]] (finV (.int .i64) idP 3) = bif decide ((↑(f.length + 1) : Int) = (↑(f.length + 1) : Int)) && decide (f.length ≤ 1000000000) && (idAt off (f, b, n, z, rs)).isSome then some ((↑((idAt off (f, b, n, z, rs)).getD 0) : Int), (f, (b, n, (), (), (), (), (), (), z, (), ()), ()), rs, ((off, ()), ()), ()) else bif decide ((↑(f.length + 1) : Int) = (↑(f.length + 1) : Int)) && decide (f.length ≤ 1000000000) && true then some ((-1 : Int), (f, (b, n, (), (), (), (), (), (), z, (), ()), ()), rs, ((off, ()), ()), ()) else none := by kernel_rfl
noncomputable def hold {α : Type} (v : α) : α := Classical.choose (⟨v, rfl⟩ : ∃ x, x = v)
theorem hold_eq {α : Type} (v : α) : hold v = v := Classical.choose_spec (⟨v, rfl⟩ : ∃ x, x = v)
noncomputable def idxV (off : Int) (M : LogS) : Int := hold (bif (idAt off M).isSome then (((idAt off M).getD 0 : Nat) : Int) else -1)
noncomputable def caseIdx : VCase := ⟨[.lit (.hw 0), .fn I.f52 [.lit (.ptr 2 (.tl 0) 0)]], idP, .int .i64, idP, fun _ ⟨⟨f, ⟨b, n, _, _, _, _, _, _, z, _, _⟩, _⟩, rs, ⟨⟨off, _⟩, _⟩, _⟩ =>
  [(decide (List.length f ≤ 1000000000), (idxV off (f, b, n, z, rs), ((f, (b, n, (), (), (), (), (), (), z, (), ()), ()), rs, ((off, ()), ()), ())))]⟩
theorem idx_ok : caseIdx.e.ok P0 I.f76 := vcase_ok (c := caseIdx) (H := H.f76) (E := env consI1) (env_ok consI1_ok) glob0 mixed0 G.f76 Bd.f76 (by kernel_rfl) (loops_good (tab := [(2, idLC)]) (by kernel_rfl) (fun x hx => by simp at hx; subst hx; exact id_lok)) fun _ ⟨⟨f, ⟨b, n, _, _, _, _, _, _, z, _, _⟩, _⟩, rs, ⟨⟨off, _⟩, _⟩, _⟩ r h hw1 hw2 => by
  obtain ⟨hc, rfl⟩ := pick_pre h
  refine (idx_ev off f b n z rs).trans ?_
  have hc : decide (List.length f ≤ 1000000000) = true := hc
  rw [hc]
  simp only [decide_true, Bool.true_and, cond_true]
  unfold idxV
  rw [hold_eq]
  cases (idAt off (f, b, n, z, rs)).isSome <;> rfl
noncomputable abbrev consI2 : List (FuncId × Con) := [(I.f76, .eff (effOf [caseIdx.e])), (I.f66, .pure (pureOf [caseCopied])), (I.f54, .eff (effOf [caseLow.e]))]
theorem consI2_ok : ∀ x ∈ consI2, HoldsC P0 x.1 x.2 := by
  intro x hx
  simp at hx
  rcases hx with rfl | rfl | rfl
  · exact ⟨fun args objs r objs2 h _ => effOf_holds (by simp; exact idx_ok) args objs r objs2 h, C.f76⟩
  · exact ⟨pureOf_holds (by simp; exact copied_ok), C.f66⟩
  · exact ⟨fun args objs r objs2 h _ => effOf_holds (by simp; exact low_ok) args objs r objs2 h, C.f54⟩
def fdS (off k : Int) (f : List Seg) (b n z : Int) (rs : List Rec) : St := ⟨[(19, .bool (decide (k < (0 : Int)))), (18, .int .i64 k), (6, .int .i64 k), (17, .int .i64 k), (16, .fn (.func I.f52) [] [.ptr 3 (.tl 0) 0]), (15, .hw 1), (14, .ptr 0 (.tl 0) 0), (13, .ptr 0 (.tl 0) 0), (12, .ptr 0 (.tl 0) 0), (10, .bool (decide (off < lowP (f, b, n, z, rs)))), (9, .int .i64 (lowP (f, b, n, z, rs))), (8, .ptr 0 (.tl 0) 0), (7, .int .i64 off), (5, .bool false), (4, .ptr 4 (.tl 0) 0), (3, .ptr 3 (.tl 0) 0), (0, .ptr 0 (.tl 0) 0), (1, .int .i64 off)],
  [(1, .arr 10 segT f [actC b n z]), (2, .log recT rs), (3, .arr 1 .bool [] [[.int .i64 off]]), (0, .arr 1 .bool [] [[.hw 1]]), (1, .arr 10 segT f [actC b n z]), (2, .log recT rs), (4, .arr 10 .bool [] [[.int .i64 0, .int .i64 0, .int .i64 0, .int .i64 0, .nils, .bool false, .bool false, .bool false, .int .i64 0, .int .u32 0]]), (3, .arr 1 .bool [] [[.int .i64 off]]), (0, .arr 1 .bool [] [[.hw 1]]), (1, .arr 10 segT f [actC b n z]), (2, .log recT rs)], 5⟩
theorem find1_ev {R : Type} (off : Int) (f : List Seg) (b n z : Int) (rs : List Rec) (K : Ex → St → Option R) : ev (env consI2) H.f51 3 (LPof []) (preC 4 B.f51) (initSt [.ptr 0 (.tl 0) 0, .int .i64 off] [.arr 1 .bool [] [[.hw 1]], .arr 10 segT f [actC b n z], .log recT rs]) K = bif decide (off < lowP (f, b, n, z, rs)) then K .ret { slots := [(5, .bool false), (11, .agg [.int .i64 (0 : Int), .int .i64 (0 : Int), .int .i64 (0 : Int), .int .i64 (0 : Int), .nils, .bool false, .bool false, .bool false, .int .i64 (0 : Int), .int .u32 (0 : Int)]), (10, .bool (decide (off < lowP (f, b, n, z, rs)))), (9, .int .i64 (lowP (f, b, n, z, rs))), (8, .ptr 0 (.tl 0) 0), (7, .int .i64 off), (5, .bool false), (4, .ptr 4 (.tl 0) 0), (3, .ptr 3 (.tl 0) 0), (0, .ptr 0 (.tl 0) 0), (1, .int .i64 off)], objs := [(4, .arr 10 .bool [] [[.int .i64 (0 : Int), .int .i64 (0 : Int), .int .i64 (0 : Int), .int .i64 (0 : Int), .nils, .bool false, .bool false, .bool false, .int .i64 (0 : Int), .int .u32 (0 : Int)]]), (0, .arr 1 .bool [] [[.hw 1]]), (1, .arr 10 segTy f [[.int .i64 b, .int .i64 n, .int .i64 (0 : Int), .int .i64 (0 : Int), .hw 2, .bool false, .bool false, .bool false, .int .i64 z, .int .u32 (0 : Int)]]), (2, .log recTy rs), (4, .arr 10 .bool [] [[.int .i64 (0 : Int), .int .i64 (0 : Int), .int .i64 (0 : Int), .int .i64 (0 : Int), .nils, .bool false, .bool false, .bool false, .int .i64 (0 : Int), .int .u32 (0 : Int)]]), (3, .arr 1 .bool [] [[.int .i64 off]]), (0, .arr 1 .bool [] [[.hw 1]]), (1, .arr 10 segTy f [[.int .i64 b, .int .i64 n, .int .i64 (0 : Int), .int .i64 (0 : Int), .hw 2, .bool false, .bool false, .bool false, .int .i64 z, .int .u32 (0 : Int)]]), (2, .log recTy rs)], nx := 5 } else bif decide (f.length ≤ 1000000000) then bif decide (idxV off (f, b, n, z, rs) < (0 : Int)) then K .ret { slots := [(5, .bool false), (20, .agg [.int .i64 (0 : Int), .int .i64 (0 : Int), .int .i64 (0 : Int), .int .i64 (0 : Int), .nils, .bool false, .bool false, .bool false, .int .i64 (0 : Int), .int .u32 (0 : Int)]), (19, .bool (decide (idxV off (f, b, n, z, rs) < (0 : Int)))), (18, .int .i64 (idxV off (f, b, n, z, rs))), (6, .int .i64 (idxV off (f, b, n, z, rs))), (17, .int .i64 (idxV off (f, b, n, z, rs))), (16, .fn (Fn.func 64) [] [.ptr 3 (.tl 0) 0]), (15, .hw 1), (14, .ptr 0 (.tl 0) 0), (13, .ptr 0 (.tl 0) 0), (12, .ptr 0 (.tl 0) 0), (10, .bool (decide (off < lowP (f, b, n, z, rs)))), (9, .int .i64 (lowP (f, b, n, z, rs))), (8, .ptr 0 (.tl 0) 0), (7, .int .i64 off), (5, .bool false), (4, .ptr 4 (.tl 0) 0), (3, .ptr 3 (.tl 0) 0), (0, .ptr 0 (.tl 0) 0), (1, .int .i64 off)], objs := [(4, .arr 10 .bool [] [[.int .i64 (0 : Int), .int .i64 (0 : Int), .int .i64 (0 : Int), .int .i64 (0 : Int), .nils, .bool false, .bool false, .bool false, .int .i64 (0 : Int), .int .u32 (0 : Int)]]), (1, .arr 10 segTy f [[.int .i64 b, .int .i64 n, .int .i64 (0 : Int), .int .i64 (0 : Int), .hw 2, .bool false, .bool false, .bool false, .int .i64 z, .int .u32 (0 : Int)]]), (2, .log recTy rs), (3, .arr 1 .bool [] [[.int .i64 off]]), (0, .arr 1 .bool [] [[.hw 1]]), (1, .arr 10 segTy f [[.int .i64 b, .int .i64 n, .int .i64 (0 : Int), .int .i64 (0 : Int), .hw 2, .bool false, .bool false, .bool false, .int .i64 z, .int .u32 (0 : Int)]]), (2, .log recTy rs), (4, .arr 10 .bool [] [[.int .i64 (0 : Int), .int .i64 (0 : Int), .int .i64 (0 : Int), .int .i64 (0 : Int), .nils, .bool false, .bool false, .bool false, .int .i64 (0 : Int), .int .u32 (0 : Int)]]), (3, .arr 1 .bool [] [[.int .i64 off]]), (0, .arr 1 .bool [] [[.hw 1]]), (1, .arr 10 segTy f [[.int .i64 b, .int .i64 n, .int .i64 (0 : Int), .int .i64 (0 : Int), .hw 2, .bool false, .bool false, .bool false, .int .i64 z, .int .u32 (0 : Int)]]), (2, .log recTy rs)], nx := 5 } else K .normal { slots := [(19, .bool (decide (idxV off (f, b, n, z, rs) < (0 : Int)))), (18, .int .i64 (idxV off (f, b, n, z, rs))), (6, .int .i64 (idxV off (f, b, n, z, rs))), (17, .int .i64 (idxV off (f, b, n, z, rs))), (16, .fn (Fn.func 64) [] [.ptr 3 (.tl 0) 0]), (15, .hw 1), (14, .ptr 0 (.tl 0) 0), (13, .ptr 0 (.tl 0) 0), (12, .ptr 0 (.tl 0) 0), (10, .bool (decide (off < lowP (f, b, n, z, rs)))), (9, .int .i64 (lowP (f, b, n, z, rs))), (8, .ptr 0 (.tl 0) 0), (7, .int .i64 off), (5, .bool false), (4, .ptr 4 (.tl 0) 0), (3, .ptr 3 (.tl 0) 0), (0, .ptr 0 (.tl 0) 0), (1, .int .i64 off)], objs := [(1, .arr 10 segTy f [[.int .i64 b, .int .i64 n, .int .i64 (0 : Int), .int .i64 (0 : Int), .hw 2, .bool false, .bool false, .bool false, .int .i64 z, .int .u32 (0 : Int)]]), (2, .log recTy rs), (3, .arr 1 .bool [] [[.int .i64 off]]), (0, .arr 1 .bool [] [[.hw 1]]), (1, .arr 10 segTy f [[.int .i64 b, .int .i64 n, .int .i64 (0 : Int), .int .i64 (0 : Int), .hw 2, .bool false, .bool false, .bool false, .int .i64 z, .int .u32 (0 : Int)]]), (2, .log recTy rs), (4, .arr 10 .bool [] [[.int .i64 (0 : Int), .int .i64 (0 : Int), .int .i64 (0 : Int), .int .i64 (0 : Int), .nils, .bool false, .bool false, .bool false, .int .i64 (0 : Int), .int .u32 (0 : Int)]]), (3, .arr 1 .bool [] [[.int .i64 off]]), (0, .arr 1 .bool [] [[.hw 1]]), (1, .arr 10 segTy f [[.int .i64 b, .int .i64 n, .int .i64 (0 : Int), .int .i64 (0 : Int), .hw 2, .bool false, .bool false, .bool false, .int .i64 z, .int .u32 (0 : Int)]]), (2, .log recTy rs)], nx := 5 } else none := by kernel_rfl
abbrev segV : Pat := .agg [.int .i64, .int .i64, .int .i64, .int .i64, .vl recT, .bool, .bool, .bool, .int .i64, .int .u32]
noncomputable abbrev fdFin : Ex → St → Option ((Pat.tup [segV, .bool]).den × opatsDen logP) := fun e s => match e with
  | .exit _ => none
  | _ => (resultsOf (env consI2) s F.f51.results.toList).bind fun vs => finV (.tup [segV, .bool]) logP 3 (oneOr vs) s
theorem find2_ev (off k : Int) (f : List Seg) (b n z : Int) (rs : List Rec) : ev (env consI2) H.f51 3 (LPof []) (sufC 4 B.f51) (fdS off k f b n z rs) fdFin = bif decide ((0 : Int) ≤ k) && decide (k < (↑(f.length + 1) : Int)) then bif decide (k.toNat < f.length) then bif decide ((f.getD k.toNat segTy.zero).2.2.2.2.1.length ≤ 1000000000) then some ((((f.getD k.toNat segTy.zero).1, (f.getD k.toNat segTy.zero).2.1, (f.getD k.toNat segTy.zero).2.2.1, (f.getD k.toNat segTy.zero).2.2.2.1, (f.getD k.toNat segTy.zero).2.2.2.2.1, (f.getD k.toNat segTy.zero).2.2.2.2.2.1, (f.getD k.toNat segTy.zero).2.2.2.2.2.2.1, (f.getD k.toNat segTy.zero).2.2.2.2.2.2.2.1, (f.getD k.toNat segTy.zero).2.2.2.2.2.2.2.2.1, (f.getD k.toNat segTy.zero).2.2.2.2.2.2.2.2.2, ()), true, ()), (((), ()), ()), (f, (b, n, (), (), (), (), (), (), z, (), ()), ()), rs, ()) else none else bif decide (k.toNat - f.length = 0) then bif decide (rs.length ≤ 1000000000) then some (((b, n, (0 : Int), (0 : Int), rs, false, false, false, z, (0 : Int), ()), true, ()), (((), ()), ()), (f, (b, n, (), (), (), (), (), (), z, (), ()), ()), rs, ()) else none else none else none := by kernel_rfl
theorem first_findP (p : Seg → Bool) (l : List Seg) : ∀ (m i : Nat), i + m = l.length → (match firstFrom (fun k => p (l.getD k segTy.zero)) i m with
    | some k => some (l.getD k segTy.zero)
    | none => none) = (l.drop i).find? p
  | 0, i, h => by
    rw [List.drop_of_length_le (by omega)]
    rfl
  | m + 1, i, h => by
    have hi : i < l.length := by omega
    have e : l.drop i = l.getD i segTy.zero :: l.drop (i + 1) := by
      rw [List.drop_eq_getElem_cons hi, List.getD_eq_getElem?_getD, List.getElem?_eq_getElem hi]
      rfl
    have ih := first_findP p l m (i + 1) (by omega)
    rw [e, List.find?_cons, firstFrom]
    cases p (l.getD i segTy.zero) with
    | true => rfl
    | false => exact ih
def nextG (off : Int) (g : Seg) : Bool := decide (g.2.1 > off)
def fndP (off : Int) (M : LogS) : Seg × Bool := bif decide (off < lowP M) then (segTy.zero, false) else match (segsL M).find? (nextG off) with
  | some g => (g, true)
  | none => (segTy.zero, false)
def segD (g : Seg) : segV.den := (g.1, g.2.1, g.2.2.1, g.2.2.2.1, g.2.2.2.2.1, g.2.2.2.2.2.1, g.2.2.2.2.2.2.1, g.2.2.2.2.2.2.2.1, g.2.2.2.2.2.2.2.2.1, g.2.2.2.2.2.2.2.2.2, ())
theorem id_find (off : Int) (M : LogS) : (match idAt off M with
    | some k => some ((segsL M).getD k segTy.zero)
    | none => none) = (segsL M).find? (nextG off) := by
  have h := first_findP (nextG off) (segsL M) _ 0 (Nat.zero_add _)
  rw [segsL_len, List.drop_zero] at h
  exact h
theorem find_val (off : Int) (f : List Seg) (b n z : Int) (rs : List Rec) (h1 : smallL f = true) (h3 : rs.length ≤ 1000000000) : evFn (env consI2) H.f51 (LPof []) F.f51 [.ptr 0 (.tl 0) 0, .int .i64 off] [.arr 1 .bool [] [[.hw 1]], .arr 10 segT f [actC b n z], .log recT rs] (finV (.tup [segV, .bool]) logP 3) =
    some ((segD (fndP off (f, b, n, z, rs)).1, (fndP off (f, b, n, z, rs)).2, ()), ((((), ()), ()), (f, (b, n, (), (), (), (), (), (), z, (), ()), ()), rs, ())) := by
  have h0 : evFn (env consI2) H.f51 (LPof []) F.f51 [.ptr 0 (.tl 0) 0, .int .i64 off] [.arr 1 .bool [] [[.hw 1]], .arr 10 segT f [actC b n z], .log recT rs] (finV (.tup [segV, .bool]) logP 3) =
    ev (env consI2) H.f51 3 (LPof []) B.f51 (initSt [.ptr 0 (.tl 0) 0, .int .i64 off] [.arr 1 .bool [] [[.hw 1]], .arr 10 segT f [actC b n z], .log recT rs]) fdFin := by
    unfold evFn
    rw [Bd.f51]
    rfl
  unfold smallL at h1
  simp only [Bool.and_eq_true, decide_eq_true_eq] at h1
  have hid := id_find off (f, b, n, z, rs)
  rw [h0, ev_cut (by rfl) 4, find1_ev]
  unfold fndP
  by_cases hlow : off < lowP (f, b, n, z, rs)
  · rw [cond_pos hlow, decide_eq_true hlow, cond_true]
    rfl
  · rw [cond_neg hlow, decide_eq_false hlow, cond_false, cond_pos h1.1, ← hid]
    cases hi : idAt off (f, b, n, z, rs) with
    | none =>
      have hv : idxV off (f, b, n, z, rs) = -1 := by unfold idxV; rw [hold_eq, hi]; rfl
      rw [hv]
      rfl
    | some k =>
      have hv : idxV off (f, b, n, z, rs) = (k : Int) := by unfold idxV; rw [hold_eq, hi]; rfl
      have hk : k < f.length + 1 := by
        have h9 : k < 0 + (f.length + 1) := (firstFrom_spec hi).2.1
        omega
      rw [hv, cond_neg (by omega)]
      have hst : decide (off < lowP (f, b, n, z, rs)) = false := decide_eq_false hlow
      refine Eq.trans (b := ev (env consI2) H.f51 3 (LPof []) (sufC 4 B.f51) (fdS off k f b n z rs) fdFin) ?_ ?_
      · unfold fdS
        rw [hst]
      rw [find2_ev, cond_pos2 (by omega) (by omega), Int.toNat_natCast]
      by_cases h : k < f.length
      · have := small_at h1.2 h
        rw [cond_pos h, cond_pos this]
        have e : (segsL (f, b, n, z, rs)).getD k segTy.zero = f.getD k segTy.zero := segsL_lt (L := (f, b, n, z, rs)) h
        simp only [e]
        rfl
      · obtain rfl : k = f.length := by omega
        rw [cond_neg h, cond_pos (by omega), cond_pos h3]
        have e : (segsL (f, b, n, z, rs)).getD f.length segTy.zero = actS (f, b, n, z, rs) := segsL_last (f, b, n, z, rs)
        simp only [e]
        rfl
def caseFind : VCase := ⟨[.lit (.ptr 0 (.tl 0) 0), .int .i64], logP, .tup [segV, .bool], logP, fun ⟨_, off, _⟩ ⟨_, ⟨f, ⟨b, n, _, _, _, _, _, _, z, _, _⟩, _⟩, rs, _⟩ => [(smallL f && decide (List.length rs ≤ 1000000000), ((segD (fndP off (f, b, n, z, rs)).1, (fndP off (f, b, n, z, rs)).2, ()), ((((), ()), ()), (f, (b, n, (), (), (), (), (), (), z, (), ()), ()), rs, ())))]⟩
theorem find_ok : caseFind.e.ok P0 I.f51 := vcase_ok (c := caseFind) (H := H.f51) (E := env consI2) (env_ok consI2_ok) glob0 mixed0 G.f51 Bd.f51 (by kernel_rfl) noLoops fun ⟨_, off, _⟩ ⟨_, ⟨f, ⟨b, n, _, _, _, _, _, _, z, _, _⟩, _⟩, rs, _⟩ r h hw1 hw2 => by
  obtain ⟨hc, rfl⟩ := pick_pre h
  have hc : (smallL f && decide (List.length rs ≤ 1000000000)) = true := hc
  simp only [Bool.and_eq_true, decide_eq_true_eq] at hc
  exact find_val off f b n z rs hc.1 hc.2
end Go.Sim
namespace Go.Sim
set_option linter.unusedSimpArgs false
set_option linter.unusedVariables false
set_option maxRecDepth 10000
noncomputable abbrev consW2 : List (FuncId × Con) := [(I.f20, .eff (effOf [caseRseal.e])), (I.f35, .pure (pureOf [caseRight1])), (I.f29, .pure (pureOf [caseRbytes]))] ++ consW1
theorem consW2_ok : ∀ x ∈ consW2, HoldsC P0 x.1 x.2 := by
  intro x hx
  rcases List.mem_append.1 hx with hx | hx
  · simp at hx
    rcases hx with rfl | rfl | rfl
    · exact ⟨fun args objs r objs2 h _ => effOf_holds (by simp; exact rseal_ok) args objs r objs2 h, C.f20⟩
    · exact ⟨pureOf_holds (by simp; exact right1_ok), C.f35⟩
    · exact ⟨pureOf_holds (by simp; exact rbytes_ok), C.f29⟩
  · exact consW1_ok x hx
def H.rapp2 : Hint := { H.f12 with vs := [51] }
theorem rapp_rd {R : Type} (l : List Rec) (most first i : Int) (f : List Seg) (K : Ex → St → Option R) : roundK (env consW2) H.rapp2 1 (LPof []) V.f12_5 L.f12_5 ⟨[(0, .ptr 0 (.tl 0) 0), (1, .vl recT l), (2, .int .i64 most), (7, .int .i64 first), (8, .int .i64 i)], [(0, .arr 1 .bool [] [[.hw 1]]), (1, .arr 10 segT f [])], 2⟩ K = bif decide (i < (↑l.length : Int)) then bif decide ((0 : Int) ≤ IntKind.i64.wrap ((↑f.length : Int) - (1 : Int))) && decide (IntKind.i64.wrap ((↑f.length : Int) - (1 : Int)) < (↑f.length : Int)) then bif decide ((0 : Int) ≤ i) && decide (i < (↑l.length : Int)) then bif !recR ((0 : Int), (l.getD i.toNat recTy.zero).2) then K .normal { slots := [(0, .ptr 0 (.tl 0) 0), (1, .vl recTy l), (2, .int .i64 most), (7, .int .i64 first), (8, .int .i64 (IntKind.i64.wrap (i + (1 : Int))))], objs := [(0, .arr 1 .bool [] [[.hw 1]]), (1, .arr 10 segTy f [])], nx := 2 } else bif decide (List.length (f.getD (IntKind.i64.wrap ((↑f.length : Int) - (1 : Int))).toNat segTy.zero).2.2.2.2.1 * 56 ≤ 140737488355328) then bif decide (((f.getD (IntKind.i64.wrap ((↑f.length : Int) - (1 : Int))).toNat segTy.zero).2.2.2.2.1 ++ [((f.getD (IntKind.i64.wrap ((↑f.length : Int) - (1 : Int))).toNat segTy.zero).2.1, (l.getD i.toNat recTy.zero).2)]).length * 56 ≤ 140737488355328) then bif decide (((f.getD (IntKind.i64.wrap ((↑f.length : Int) - (1 : Int))).toNat segTy.zero).2.2.2.2.1 ++ [((f.getD (IntKind.i64.wrap ((↑f.length : Int) - (1 : Int))).toNat segTy.zero).2.1, (l.getD i.toNat recTy.zero).2)]).length ≤ 1000000000) then bif decide ((0 : Int) ≤ IntKind.i64.wrap ((↑f.length : Int) - (1 : Int))) && decide (IntKind.i64.wrap ((↑f.length : Int) - (1 : Int)) < (↑f.length : Int)) then Option.bind (bif f.length.ble f.length then some (f.set (IntKind.i64.wrap ((↑f.length : Int) - (1 : Int))).toNat ((f.getD (IntKind.i64.wrap ((↑f.length : Int) - (1 : Int))).toNat segTy.zero).1, IntKind.i64.wrap ((f.getD (IntKind.i64.wrap ((↑f.length : Int) - (1 : Int))).toNat segTy.zero).2.1 + (1 : Int)), (f.getD (IntKind.i64.wrap ((↑f.length : Int) - (1 : Int))).toNat segTy.zero).2.2.1, (f.getD (IntKind.i64.wrap ((↑f.length : Int) - (1 : Int))).toNat segTy.zero).2.2.2.1, (f.getD (IntKind.i64.wrap ((↑f.length : Int) - (1 : Int))).toNat segTy.zero).2.2.2.2.1 ++ [((f.getD (IntKind.i64.wrap ((↑f.length : Int) - (1 : Int))).toNat segTy.zero).2.1, (l.getD i.toNat recTy.zero).2)], (f.getD (IntKind.i64.wrap ((↑f.length : Int) - (1 : Int))).toNat segTy.zero).2.2.2.2.2.1, (f.getD (IntKind.i64.wrap ((↑f.length : Int) - (1 : Int))).toNat segTy.zero).2.2.2.2.2.2.1, (f.getD (IntKind.i64.wrap ((↑f.length : Int) - (1 : Int))).toNat segTy.zero).2.2.2.2.2.2.2.1, (↑(bytS ((f.getD (IntKind.i64.wrap ((↑f.length : Int) - (1 : Int))).toNat segTy.zero).2.2.2.2.1 ++ [((f.getD (IntKind.i64.wrap ((↑f.length : Int) - (1 : Int))).toNat segTy.zero).2.1, (l.getD i.toNat recTy.zero).2)])).length : Int), (f.getD (IntKind.i64.wrap ((↑f.length : Int) - (1 : Int))).toNat segTy.zero).2.2.2.2.2.2.2.2.2)) else none) fun v => bif decide (IntKind.i64.wrap (IntKind.i64.wrap ((f.getD (IntKind.i64.wrap ((↑f.length : Int) - (1 : Int))).toNat segTy.zero).2.1 + (1 : Int)) - (f.getD (IntKind.i64.wrap ((↑f.length : Int) - (1 : Int))).toNat segTy.zero).1) ≥ most) then bif docB v then K .normal { slots := [(0, .ptr 0 (.tl 0) 0), (1, .vl recTy l), (2, .int .i64 most), (7, .int .i64 first), (8, .int .i64 (IntKind.i64.wrap (i + (1 : Int))))], objs := [(0, .arr 1 .bool [] [[.hw 1]]), (1, .arr 10 segTy (rsealP v) [])], nx := 2 } else none else K .normal { slots := [(0, .ptr 0 (.tl 0) 0), (1, .vl recTy l), (2, .int .i64 most), (7, .int .i64 first), (8, .int .i64 (IntKind.i64.wrap (i + (1 : Int))))], objs := [(0, .arr 1 .bool [] [[.hw 1]]), (1, .arr 10 segTy v [])], nx := 2 } else none else none else none else none else none else none else K (.exit 0) { slots := [(0, .ptr 0 (.tl 0) 0), (1, .vl recTy l), (2, .int .i64 most), (7, .int .i64 first), (8, .int .i64 i)], objs := [(0, .arr 1 .bool [] [[.hw 1]]), (1, .arr 10 segTy f [])], nx := 2 } := by kernel_rfl
def H.rfind2 : Hint := { H.f14 with join := [] }
theorem rfind_rd {R : Type} (o i : Int) (q : Bool) (f : List Seg) (K : Ex → St → Option R) : roundK (env consW2) H.rfind2 2 (LPof []) V.f14_2 L.f14_2 ⟨[(0, .ptr 0 (.tl 0) 0), (1, .int .i64 o), (4, .ptr 2 (.tl 0) 0), (5, .bool q), (6, .int .i64 i)], [(0, .arr 1 .bool [] [[.hw 1]]), (1, .arr 10 segT f []), (2, .arr 10 .bool [] [enc segT segTy.zero])], 3⟩ K = bif decide (i < (↑f.length : Int)) then bif docB f then bif decide (o ≥ rlowP f) then bif decide ((0 : Int) ≤ i) && decide (i < (↑f.length : Int)) then bif decide ((f.getD i.toNat segTy.zero).2.1 > o) then bif decide ((0 : Int) ≤ i) && decide (i < (↑f.length : Int)) then K .ret { slots := [(0, .ptr 0 (.tl 0) 0), (1, .int .i64 o), (4, .ptr 2 (.tl 0) 0), (5, .bool true), (6, .int .i64 i)], objs := [(0, .arr 1 .bool [] [[.hw 1]]), (1, .arr 10 segTy f []), (2, .arr 10 .bool [] [[.int .i64 (f.getD i.toNat segTy.zero).1, .int .i64 (f.getD i.toNat segTy.zero).2.1, .int .i64 (f.getD i.toNat segTy.zero).2.2.1, .int .i64 (f.getD i.toNat segTy.zero).2.2.2.1, .vl recTy (f.getD i.toNat segTy.zero).2.2.2.2.1, .bool (f.getD i.toNat segTy.zero).2.2.2.2.2.1, .bool (f.getD i.toNat segTy.zero).2.2.2.2.2.2.1, .bool (f.getD i.toNat segTy.zero).2.2.2.2.2.2.2.1, .int .i64 (f.getD i.toNat segTy.zero).2.2.2.2.2.2.2.2.1, .int .u32 (f.getD i.toNat segTy.zero).2.2.2.2.2.2.2.2.2]])], nx := 3 } else none else K .normal { slots := [(0, .ptr 0 (.tl 0) 0), (1, .int .i64 o), (4, .ptr 2 (.tl 0) 0), (5, .bool q), (6, .int .i64 (IntKind.i64.wrap (i + (1 : Int))))], objs := [(0, .arr 1 .bool [] [[.hw 1]]), (1, .arr 10 segTy f []), (2, .arr 10 .bool [] [[.int .i64 segTy.zero.1, .int .i64 segTy.zero.2.1, .int .i64 segTy.zero.2.2.1, .int .i64 segTy.zero.2.2.2.1, .vl recTy segTy.zero.2.2.2.2.1, .bool segTy.zero.2.2.2.2.2.1, .bool segTy.zero.2.2.2.2.2.2.1, .bool segTy.zero.2.2.2.2.2.2.2.1, .int .i64 segTy.zero.2.2.2.2.2.2.2.2.1, .int .u32 segTy.zero.2.2.2.2.2.2.2.2.2]])], nx := 3 } else none else K (.exit 0) { slots := [(0, .ptr 0 (.tl 0) 0), (1, .int .i64 o), (4, .ptr 2 (.tl 0) 0), (5, .bool q), (6, .int .i64 i)], objs := [(0, .arr 1 .bool [] [[.hw 1]]), (1, .arr 10 segTy f []), (2, .arr 10 .bool [] [[.int .i64 segTy.zero.1, .int .i64 segTy.zero.2.1, .int .i64 segTy.zero.2.2.1, .int .i64 segTy.zero.2.2.2.1, .vl recTy segTy.zero.2.2.2.2.1, .bool segTy.zero.2.2.2.2.2.1, .bool segTy.zero.2.2.2.2.2.2.1, .bool segTy.zero.2.2.2.2.2.2.2.1, .int .i64 segTy.zero.2.2.2.2.2.2.2.2.1, .int .u32 segTy.zero.2.2.2.2.2.2.2.2.2]])], nx := 3 } else none else K (.exit 0) { slots := [(0, .ptr 0 (.tl 0) 0), (1, .int .i64 o), (4, .ptr 2 (.tl 0) 0), (5, .bool q), (6, .int .i64 i)], objs := [(0, .arr 1 .bool [] [[.hw 1]]), (1, .arr 10 segTy f []), (2, .arr 10 .bool [] [[.int .i64 segTy.zero.1, .int .i64 segTy.zero.2.1, .int .i64 segTy.zero.2.2.1, .int .i64 segTy.zero.2.2.2.1, .vl recTy segTy.zero.2.2.2.2.1, .bool segTy.zero.2.2.2.2.2.1, .bool segTy.zero.2.2.2.2.2.2.1, .bool segTy.zero.2.2.2.2.2.2.2.1, .int .i64 segTy.zero.2.2.2.2.2.2.2.2.1, .int .u32 segTy.zero.2.2.2.2.2.2.2.2.2]])], nx := 3 } := by kernel_rfl
theorem segsL_getLast (M : LogS) : (segsL M).getD ((segsL M).length - 1) segTy.zero = actS M := by
  rw [segsL_len]
  exact segsL_last M
theorem segsL_set (M : LogS) (g : Seg) : (segsL M).set M.1.length g = M.1 ++ [g] := by
  unfold segsL
  rw [List.set_append_right _ _ (Nat.le_refl _), Nat.sub_self]
  rfl
theorem rseal_segs (M : LogS) : rsealP (segsL M) = segsL (sealP M) := by
  unfold rsealP lastS
  rw [segsL_getLast]
  unfold sealP
  show (bif M.2.1 == M.2.2.1 then _ else _) = _
  cases M.2.1 == M.2.2.1 with
  | true => rfl
  | false =>
    rw [cond_false, cond_false, segsL_len, Nat.add_sub_cancel, segsL_set]
    rfl
def sizeB (M : LogS) : Bool := decide (M.2.2.2.1 = ((bytS M.2.2.2.2).length : Int))
theorem pushP_size {M : LogS} (r : Rec) (h : sizeB M = true) : sizeB (pushP M r) = true := by
  have h := of_decide_eq_true h
  unfold sizeB pushP
  refine decide_eq_true ?_
  show M.2.2.2.1 + _ = _
  rw [h, bytS_snoc, List.length_append]
  have : bytS [(M.2.2.1, r.2)] = frm (M.2.2.1, r.2) := by unfold bytS; simp
  rw [this]
  omega
theorem sealP_size {M : LogS} (h : sizeB M = true) : sizeB (sealP M) = true := by
  unfold sealP
  cases M.2.1 == M.2.2.1 with
  | true => exact h
  | false => rfl
theorem apR_size {M : LogS} (most : Int) (r : Rec) (h : sizeB M = true) : sizeB (apR most M r) = true := by
  unfold apR
  cases recR (0, r.2) with
  | false => exact h
  | true =>
    cases decide (M.2.2.1 + 1 - M.2.1 ≥ mxI most) with
    | true => exact sealP_size (pushP_size r h)
    | false => exact pushP_size r h
theorem apL_size {M : LogS} (most : Int) (l : List Rec) (h : sizeB M = true) : ∀ i, sizeB (apL most l M i) = true
  | 0 => h
  | i + 1 => apR_size most _ (apL_size most l h i)
theorem docB_segs {c : Nat} {M : LogS} (h : okB c M = true) (hc : c < 1000000000) : docB (segsL M) = true := by
  obtain ⟨h1, h2, h3, h4, h5, h6, h7, h9⟩ := okB_iff.1 h
  unfold docB
  rw [segsL_len]
  simp
  omega
def raSt (most fi : Int) (l : List Rec) (i : Nat) (M : LogS) : St := ⟨[(0, .ptr 0 (.tl 0) 0), (1, .vl recT l), (2, .int .i64 most), (7, .int .i64 fi), (8, .int .i64 i)], [(0, .arr 1 .bool [] [[.hw 1]]), (1, .arr 10 segT (segsL M) [])], 2⟩
theorem ra_round {R : Type} (most fi : Int) (l : List Rec) (hl : l.length ≤ 400000000) (i : Nat) (hi : i < l.length) (M : LogS) {c : Nat} (h : okB c M = true) (hz : sizeB M = true) (hc : c ≤ 900000000) (K : Ex → St → Option R) :
    roundK (env consW2) H.rapp2 1 (LPof []) V.f12_5 L.f12_5 (raSt (mxI most) fi l i M) K = K .normal (raSt (mxI most) fi l (i + 1) (apR most M (l.getD i recTy.zero))) := by
  obtain ⟨h1, h2, h3, h4, h5, h6, h7, h9⟩ := okB_iff.1 h
  have hd := docB_segs h (by omega)
  have hz' := pushP_size (l.getD i recTy.zero) hz
  refine (rapp_rd _ _ _ _ _ _).trans ?_
  have e3 : IntKind.i64.wrap ((i : Int) + 1) = ((i + 1 : Nat) : Int) := by rw [wrap64 (by omega) (by omega)]; omega
  have hlen : (segsL M).length - 1 = M.1.length := by rw [segsL_len]; rfl
  have hla : (segsL M).getD M.1.length segTy.zero = actS M := segsL_last M
  have hdd := docB_at hd
  rw [cond_pos (by omega), lastI hd, cond_pos2 (by omega) (by omega), cond_pos2 (by omega) (by omega), Int.toNat_natCast, Int.toNat_natCast, e3, hlen, hla]
  show (bif !recR (0, (l.getD i recTy.zero).2) then _ else _) = _
  unfold apR
  cases hr : recR (0, (l.getD i recTy.zero).2) with
  | false => rfl
  | true =>
    have a1 : (actS M).2.2.2.2.1 = M.2.2.2.2 := rfl
    have a2 : (actS M).2.1 = M.2.2.1 := rfl
    have a3 : (actS M).1 = M.2.1 := rfl
    have e4 : IntKind.i64.wrap (M.2.2.1 + 1) = M.2.2.1 + 1 := wrap64 (by omega) (by omega)
    have e5 : IntKind.i64.wrap (M.2.2.1 + 1 - M.2.1) = M.2.2.1 + 1 - M.2.1 := wrap64 (by omega) (by omega)
    rw [Bool.not_true, cond_false, a1, a2, a3, cond_pos (by omega), cond_pos (by simp; omega), cond_pos (by simp; omega), cond_pos2 (by omega) (by omega), ble_selfL, cond_true, Option.bind_some, e4, e5, segsL_set, cond_true]
    have hpush : M.1 ++ [(M.2.1, M.2.2.1 + 1, (actS M).2.2.1, (actS M).2.2.2.1, M.2.2.2.2 ++ [(M.2.2.1, (l.getD i recTy.zero).2)], (actS M).2.2.2.2.2.1, (actS M).2.2.2.2.2.2.1, (actS M).2.2.2.2.2.2.2.1, ((bytS (M.2.2.2.2 ++ [(M.2.2.1, (l.getD i recTy.zero).2)])).length : Int), (actS M).2.2.2.2.2.2.2.2.2)] = segsL (pushP M (l.getD i recTy.zero)) := by
      have := of_decide_eq_true hz'
      show _ = M.1 ++ [actS (pushP M (l.getD i recTy.zero))]
      congr 2
      unfold actS
      rw [this]
      rfl
    rw [hpush]
    have hd2 := docB_segs (pushP_ok (l.getD i recTy.zero) h) (by omega)
    rw [hd2, rseal_segs]
    cases decide (M.2.2.1 + 1 - M.2.1 ≥ mxI most) with
    | true => rfl
    | false => rfl
theorem ra_rounds {R : Type} (most fi : Int) (l : List Rec) (hl : l.length ≤ 200000000) (M : LogS) (h : okB 400000000 M = true) (hz : sizeB M = true) (K : Ex → St → Option R) : ∀ (m i : Nat), i + m = l.length →
    rounds (env consW2) H.rapp2 1 (LPof []) V.f12_5 L.f12_5 (m + 1) (raSt (mxI most) fi l i (apL most l M i)) K = K (.exit 0) (raSt (mxI most) fi l l.length (apL most l M l.length))
  | 0, i, hi => by
    obtain rfl : i = l.length := by omega
    rw [rounds_succ']
    refine (rapp_rd _ _ _ _ _ _).trans ?_
    rw [cond_neg (by omega)]
    rfl
  | m + 1, i, hi => by
    have ih := ra_rounds most fi l hl M h hz K m (i + 1) (by omega)
    have hok := apL_ok most l h i (by omega)
    rw [rounds_succ']
    refine (ra_round most fi l (by omega) i (by omega) _ hok (apL_size most l hz i) (by omega) _).trans ?_
    exact ih
def unL (l : List Seg) : LogS := (l.dropLast, (lastS l).1, (lastS l).2.1, (lastS l).2.2.2.2.2.2.2.2.1, (lastS l).2.2.2.2.1)
def isL (l : List Seg) : Bool := decide (segsL (unL l) = l)
theorem unL_segs (M : LogS) : unL (segsL M) = M := by
  unfold unL lastS
  rw [segsL_getLast]
  unfold segsL
  rw [List.dropLast_concat]
  rfl
theorem isL_at {l : List Seg} (h : isL l = true) : ∃ M, l = segsL M := ⟨unL l, (of_decide_eq_true h).symm⟩
theorem isL_segs (M : LogS) : isL (segsL M) = true := by unfold isL; rw [unL_segs]; exact decide_eq_true rfl
def appB (f : List Seg) : Bool := isL f && okB 400000000 (unL f) && sizeB (unL f)
abbrev raLC : LoopC := LoopC.of ⟨[(0, .lit (.ptr 0 (.tl 0) 0)), (1, .vl recT), (2, .int .i64), (7, .int .i64), (8, .int .i64)], docP⟩
  (fun ⟨⟨_, l, most, fi, i, _⟩, ⟨_, ⟨f, _⟩, _⟩⟩ => decide (i = (0 : Int)) && decide (1 ≤ most) && decide (List.length l ≤ 200000000) && appB f)
  fun ⟨⟨_, l, most, fi, i, _⟩, ⟨_, ⟨f, _⟩, _⟩⟩ => [(true, .exit 0, raSt most fi l (List.length l) (apL most l (unL f) (List.length l)))]
theorem mxI_pos {m : Int} (h : 1 ≤ m) : mxI m = m := by
  unfold mxI
  by_cases h1 : m > 1
  · rw [cond_pos h1]
  · rw [cond_neg h1]; omega
theorem mxI_low {m : Int} (h : m < 1) : mxI m = 1 := by
  unfold mxI
  rw [cond_neg (by omega)]
theorem apL_mx (most : Int) (l : List Rec) (M : LogS) : ∀ i, apL (mxI most) l M i = apL most l M i
  | 0 => rfl
  | i + 1 => by
    show apR (mxI most) (apL (mxI most) l M i) _ = apR most (apL most l M i) _
    rw [apL_mx most l M i]
    unfold apR
    have : mxI (mxI most) = mxI most := by
      by_cases h : most < 1
      · rw [mxI_low h]; rfl
      · rw [mxI_pos (show 1 ≤ mxI most by rw [mxI_pos (by omega)]; omega)]
    rw [this]
theorem ra_go (l : List Rec) (most fi : Int) (f : List Seg) (h2 : 1 ≤ most) (h3 : l.length ≤ 200000000) (h4 : appB f = true) :
    ∃ n, rounds (env consW2) H.rapp2 1 (LPof []) V.f12_5 L.f12_5 n ⟨[(0, .ptr 0 (.tl 0) 0), (1, .vl recT l), (2, .int .i64 most), (7, .int .i64 fi), (8, .int .i64 0)], [(0, .arr 1 .bool [] [[.hw 1]]), (1, .arr 10 segT f [])], 2⟩ (fun e s => some (e, s)) = some (.exit 0, raSt most fi l l.length (apL most l (unL f) l.length)) := by
  unfold appB at h4
  simp only [Bool.and_eq_true] at h4
  obtain ⟨⟨h4, h5⟩, h6⟩ := h4
  obtain ⟨M, rfl⟩ := isL_at h4
  rw [unL_segs] at h5 h6 ⊢
  refine ⟨l.length + 1, ?_⟩
  have := ra_rounds most fi l h3 M h5 h6 (fun e s => some (e, s)) l.length 0 (Nat.zero_add _)
  rw [mxI_pos h2] at this
  exact this
theorem ra_lok : LoopOK P0 H.rapp2 1 L.f12_5 raLC :=
  loop_ok_of (env_ok consW2_ok) glob0 mixed0 noLoops V.f12_5 (by decide) fun ⟨⟨_, l, most, fi, i, _⟩, ⟨_, ⟨f, _⟩, _⟩⟩ h hw => by
    simp only [Bool.and_eq_true, decide_eq_true_eq] at h
    obtain ⟨⟨⟨rfl, h2⟩, h3⟩, h4⟩ := h
    exact ra_go l most fi f h2 h3 h4
theorem rapp_ev (l : List Rec) (most : Int) (f : List Seg) : evFnM 1 (env consW2) H.rapp2 (LPof [(5, raLC)]) F.f12 [.ptr 0 (.tl 0) 0, .vl recT l, .int .i64 most] [.arr 1 .bool [] [[.hw 1]], .arr 10 segT f []] (finVM (.int .i64) docQ 1 2) = bif decide (most < (1 : Int)) then bif docB f then bif decide (l.length ≤ 200000000) && appB f && true then some (rhighP f, (((), ()), ()), (), (segsL (apL (1 : Int) l (unL f) l.length), ()), ()) else none else none else bif docB f then bif decide ((1 : (Pat.int IntKind.i64).den) ≤ most) && decide (l.length ≤ 200000000) && appB f && true then some (rhighP f, (((), ()), ()), (), (segsL (apL most l (unL f) l.length), ()), ()) else none else none := by kernel_rfl
theorem lastS_segs (M : LogS) : lastS (segsL M) = actS M := segsL_getLast M
theorem rhigh_segs (M : LogS) : rhighP (segsL M) = M.2.2.1 := by unfold rhighP; rw [lastS_segs]; rfl
theorem rlow_segs (M : LogS) : rlowP (segsL M) = lowP M := by
  unfold rlowP lowP
  by_cases h : 0 < M.1.length
  · rw [cond_pos h, segsL_lt h]
  · rw [cond_neg h]
    have e : (segsL M).getD 0 segTy.zero = actS M := by
      have := segsL_last M
      rw [show M.1.length = 0 by omega] at this
      exact this
    rw [e]
    rfl
theorem appB_docB {f : List Seg} (h : appB f = true) : docB f = true := by
  unfold appB at h
  simp only [Bool.and_eq_true] at h
  obtain ⟨M, rfl⟩ := isL_at h.1.1
  have h2 := h.1.2
  rw [unL_segs] at h2
  exact docB_segs h2 (by omega)
def caseRapp : VCase := ⟨[.lit (.ptr 0 (.tl 0) 0), .vl recT, .int .i64], docP, .int .i64, docQ, fun ⟨_, l, most, _⟩ ⟨_, ⟨f, _⟩, _⟩ => [(decide (List.length l ≤ 200000000) && appB f, (rhighP f, ((((), ()), ()), (), (segsL (apL most l (unL f) (List.length l)), ()), ())))]⟩
theorem rapp_val (l : List Rec) (most : Int) (f : List Seg) (h1 : l.length ≤ 200000000) (h2 : appB f = true) : evFnM 1 (env consW2) H.rapp2 (LPof [(5, raLC)]) F.f12 [.ptr 0 (.tl 0) 0, .vl recT l, .int .i64 most] [.arr 1 .bool [] [[.hw 1]], .arr 10 segT f []] (finVM (.int .i64) docQ 1 2) =
    some (rhighP f, ((((), ()), ()), (), (segsL (apL most l (unL f) (List.length l)), ()), ())) := by
  rw [rapp_ev, appB_docB h2, h2, decide_eq_true h1]
  by_cases h : most < 1
  · rw [cond_pos h, ← apL_mx most, mxI_low h]
    rfl
  · have e : decide ((1 : (Pat.int IntKind.i64).den) ≤ most) = true := decide_eq_true (show (1 : Int) ≤ most by omega)
    rw [cond_neg h, e]
    rfl
theorem rapp_ok : caseRapp.e.ok P0 I.f12 := vcase_okM (c := caseRapp) (H := H.rapp2) (E := env consW2) (env_ok consW2_ok) glob0 mixed0 G.f12 Bd.f12 1 rfl (by kernel_rfl) (loops_good (tab := [(5, raLC)]) (by kernel_rfl) (fun x hx => by simp at hx; subst hx; exact ra_lok)) fun ⟨_, l, most, _⟩ ⟨_, ⟨f, _⟩, _⟩ r h hw1 hw2 => by
  obtain ⟨hc, rfl⟩ := pick_pre h
  have hc : (decide (List.length l ≤ 200000000) && appB f) = true := hc
  simp only [Bool.and_eq_true, decide_eq_true_eq] at hc
  exact rapp_val l most f hc.1 hc.2
def nextL (off : Int) (f : List Seg) (i : Nat) : Bool := decide ((f.getD i segTy.zero).2.1 > off)
def rfSt (off : Int) (q : Bool) (f : List Seg) (g : Seg) (i : Nat) : St := ⟨[(0, .ptr 0 (.tl 0) 0), (1, .int .i64 off), (4, .ptr 2 (.tl 0) 0), (5, .bool q), (6, .int .i64 i)], [(0, .arr 1 .bool [] [[.hw 1]]), (1, .arr 10 segT f []), (2, .arr 10 .bool [] [enc segT g])], 3⟩
theorem rf_step {R : Type} (off : Int) (q : Bool) (f : List Seg) (hf : docB f = true) (ho : ¬ off < rlowP f) (i : Nat) (hi : i < f.length) (K : Ex → St → Option R) :
    roundK (env consW2) H.rfind2 2 (LPof []) V.f14_2 L.f14_2 (rfSt off q f segTy.zero i) K = bif nextL off f i then K .ret (rfSt off true f (f.getD i segTy.zero) i) else K .normal (rfSt off q f segTy.zero (i + 1)) := by
  refine (rfind_rd off i q f K).trans ?_
  have hd := docB_at hf
  have e1 : IntKind.i64.wrap ((i : Int) + 1) = ((i + 1 : Nat) : Int) := by rw [wrap64 (by omega) (by omega)]; omega
  rw [cond_pos (by omega), hf, cond_true, cond_pos (show off ≥ rlowP f by omega), cond_pos2 (by omega) (by omega), cond_pos2 (by omega) (by omega), Int.toNat_natCast, e1]
  rfl
abbrev rfLC : LoopC := LoopC.of ⟨[(0, .lit (.ptr 0 (.tl 0) 0)), (1, .int .i64), (4, .lit (.ptr 2 (.tl 0) 0)), (5, .bool), (6, .int .i64)], [.box 1 [[.lit (.hw 1)]], .arr 10 segT [], .box 10 [segP]]⟩
  (fun ⟨⟨_, off, _, q, i, _⟩, ⟨_, ⟨f, _⟩, ⟨⟨g1, g2, g3, g4, g5, g6, g7, g8, g9, g10, _⟩, _⟩, _⟩⟩ => decide (i = (0 : Int)) && docB f && decide ((g1, g2, g3, g4, g5, g6, g7, g8, g9, g10) = segTy.zero))
  fun ⟨⟨_, off, _, q, i, _⟩, ⟨_, ⟨f, _⟩, ⟨⟨g1, g2, g3, g4, g5, g6, g7, g8, g9, g10, _⟩, _⟩, _⟩⟩ => [(decide (off < rlowP f), .exit 0, rfSt off q f segTy.zero 0), ((firstFrom (nextL off f) 0 (List.length f)).isSome, .ret, rfSt off true f (f.getD ((firstFrom (nextL off f) 0 (List.length f)).getD 0) segTy.zero) ((firstFrom (nextL off f) 0 (List.length f)).getD 0)), (true, .exit 0, rfSt off q f segTy.zero (List.length f))]
theorem rf_go (off : Int) (q : Bool) (f : List Seg) (hf : docB f = true) : ∃ n, rounds (env consW2) H.rfind2 2 (LPof []) V.f14_2 L.f14_2 n (rfSt off q f segTy.zero 0) (fun e s => some (e, s)) =
    pick [(decide (off < rlowP f), .exit 0, rfSt off q f segTy.zero 0), ((firstFrom (nextL off f) 0 (List.length f)).isSome, .ret, rfSt off true f (f.getD ((firstFrom (nextL off f) 0 (List.length f)).getD 0) segTy.zero) ((firstFrom (nextL off f) 0 (List.length f)).getD 0)), (true, .exit 0, rfSt off q f segTy.zero (List.length f))] := by
  have hd := docB_at hf
  by_cases h : off < rlowP f
  · refine ⟨1, ?_⟩
    rw [rounds_succ']
    refine (rfind_rd off 0 q f _).trans ?_
    rw [cond_pos (by omega), hf, cond_true, cond_neg (by omega), decide_eq_true h]
    rfl
  · rw [decide_eq_false h]
    exact ⟨_, Eq.trans (search_rounds (S := rfSt off q f segTy.zero) (T := fun i => rfSt off true f (f.getD i segTy.zero) i) (p := nextL off f) (n := List.length f) (e1 := .ret) (e2 := .exit 0) (by simp) (by simp) (fun i hi K => rf_step off q f hf h i hi K) (fun K => (rfind_rd off _ q f K).trans (by rw [cond_neg (by omega)]; rfl)) _ (List.length f) 0 (by omega)) search_pick⟩
theorem rf_go2 (off : Int) (q : Bool) (f : List Seg) (g : Seg) (hf : docB f = true) (hg : g = segTy.zero) : ∃ n, rounds (env consW2) H.rfind2 2 (LPof []) V.f14_2 L.f14_2 n (rfSt off q f g 0) (fun e s => some (e, s)) =
    pick [(decide (off < rlowP f), .exit 0, rfSt off q f segTy.zero 0), ((firstFrom (nextL off f) 0 (List.length f)).isSome, .ret, rfSt off true f (f.getD ((firstFrom (nextL off f) 0 (List.length f)).getD 0) segTy.zero) ((firstFrom (nextL off f) 0 (List.length f)).getD 0)), (true, .exit 0, rfSt off q f segTy.zero (List.length f))] := by
  subst hg
  exact rf_go off q f hf
theorem rf_lok : LoopOK P0 H.rfind2 2 L.f14_2 rfLC :=
  loop_ok_of (env_ok consW2_ok) glob0 mixed0 noLoops V.f14_2 (by decide) fun ⟨⟨_, off, _, q, i, _⟩, ⟨_, ⟨f, _⟩, ⟨⟨g1, g2, g3, g4, g5, g6, g7, g8, g9, g10, _⟩, _⟩, _⟩⟩ h hw => by
    simp only [Bool.and_eq_true, decide_eq_true_eq] at h
    obtain ⟨⟨rfl, h2⟩, h3⟩ := h
    exact rf_go2 off q f (g1, g2, g3, g4, g5, g6, g7, g8, g9, g10) h2 h3
theorem rfind_ev (off : Int) (f : List Seg) : evFn (env consW2) H.rfind2 (LPof [(2, rfLC)]) F.f14 [.ptr 0 (.tl 0) 0, .int .i64 off] [.arr 1 .bool [] [[.hw 1]], .arr 10 segT f []] (finV (.tup [segV, .bool]) docP 2) = bif docB f && true && decide (off < rlowP f) then some ((((0 : Int), (0 : Int), (0 : Int), (0 : Int), [], false, false, false, (0 : Int), (0 : Int), ()), false, ()), (((), ()), ()), (f, ()), ()) else bif docB f && true && (firstFrom (nextL off f) 0 f.length).isSome then some ((((f.getD ((firstFrom (nextL off f) 0 f.length).getD 0) segTy.zero).1, (f.getD ((firstFrom (nextL off f) 0 f.length).getD 0) segTy.zero).2.1, (f.getD ((firstFrom (nextL off f) 0 f.length).getD 0) segTy.zero).2.2.1, (f.getD ((firstFrom (nextL off f) 0 f.length).getD 0) segTy.zero).2.2.2.1, (f.getD ((firstFrom (nextL off f) 0 f.length).getD 0) segTy.zero).2.2.2.2.1, (f.getD ((firstFrom (nextL off f) 0 f.length).getD 0) segTy.zero).2.2.2.2.2.1, (f.getD ((firstFrom (nextL off f) 0 f.length).getD 0) segTy.zero).2.2.2.2.2.2.1, (f.getD ((firstFrom (nextL off f) 0 f.length).getD 0) segTy.zero).2.2.2.2.2.2.2.1, (f.getD ((firstFrom (nextL off f) 0 f.length).getD 0) segTy.zero).2.2.2.2.2.2.2.2.1, (f.getD ((firstFrom (nextL off f) 0 f.length).getD 0) segTy.zero).2.2.2.2.2.2.2.2.2, ()), true, ()), (((), ()), ()), (f, ()), ()) else bif docB f && true && true then some ((((0 : Int), (0 : Int), (0 : Int), (0 : Int), [], false, false, false, (0 : Int), (0 : Int), ()), false, ()), (((), ()), ()), (f, ()), ()) else none := by kernel_rfl
def rfndP (off : Int) (f : List Seg) : Seg × Bool := bif decide (off < rlowP f) then (segTy.zero, false) else match f.find? (nextG off) with
  | some g => (g, true)
  | none => (segTy.zero, false)
theorem rfnd_segs (off : Int) (M : LogS) : rfndP off (segsL M) = fndP off M := by unfold rfndP fndP; rw [rlow_segs] <;> rfl
def caseRfind : VCase := ⟨[.lit (.ptr 0 (.tl 0) 0), .int .i64], docP, .tup [segV, .bool], docP, fun ⟨_, off, _⟩ ⟨_, ⟨f, _⟩, _⟩ => [(docB f, ((segD (rfndP off f).1, (rfndP off f).2, ()), ((((), ()), ()), (f, ()), ())))]⟩
theorem rfind_val (off : Int) (f : List Seg) (hf : docB f = true) : evFn (env consW2) H.rfind2 (LPof [(2, rfLC)]) F.f14 [.ptr 0 (.tl 0) 0, .int .i64 off] [.arr 1 .bool [] [[.hw 1]], .arr 10 segT f []] (finV (.tup [segV, .bool]) docP 2) =
    some ((segD (rfndP off f).1, (rfndP off f).2, ()), ((((), ()), ()), (f, ()), ())) := by
  rw [rfind_ev, hf]
  unfold rfndP
  cases decide (off < rlowP f) with
  | true => rfl
  | false =>
    have h := first_findP (nextG off) f _ 0 (Nat.zero_add _)
    rw [List.drop_zero] at h
    rw [← h]
    have e : firstFrom (fun k => nextG off (f.getD k segTy.zero)) 0 f.length = firstFrom (nextL off f) 0 f.length := rfl
    rw [e]
    cases firstFrom (nextL off f) 0 f.length with
    | none => rfl
    | some k => rfl
theorem rfind_ok : caseRfind.e.ok P0 I.f14 := vcase_ok (c := caseRfind) (H := H.rfind2) (E := env consW2) (env_ok consW2_ok) glob0 mixed0 G.f14 Bd.f14 (by kernel_rfl) (loops_good (tab := [(2, rfLC)]) (by kernel_rfl) (fun x hx => by simp at hx; subst hx; exact rf_lok)) fun ⟨_, off, _⟩ ⟨_, ⟨f, _⟩, _⟩ r h hw1 hw2 => by
  obtain ⟨hc, rfl⟩ := pick_pre h
  exact rfind_val off f hc
end Go.Sim
namespace Go.Sim
def isOld (g : Seg) (c : Cnf) (now : Int) : Bool := decide (c.2.2.1 > 0) && decide (now - g.2.2.1 > c.2.2.1)
def posum : List Seg → Int
  | [] => 0
  | g :: r => max 0 g.2.2.2.2.2.2.2.2.1 + posum r
theorem posum_nonneg : ∀ l, 0 ≤ posum l
  | [] => Int.le_refl _
  | g :: r => by have := posum_nonneg r; simp only [posum]; omega
def isMuch (l : List Seg) (c : Cnf) : Bool := decide (c.2.1 > 0) && decide (posum l > c.2.1)
def goes (g : Seg) (r : List Seg) (c : Cnf) (now : Int) : Bool := g.2.2.2.2.2.1 && (isOld g c now || isMuch (g :: r) c)
def dropN (c : Cnf) (now : Int) : List Seg → Nat
  | [] => 0
  | g :: r => cond (goes g r c now) (dropN c now r + 1) 0
theorem dropN_le (c : Cnf) (now : Int) : ∀ l, dropN c now l ≤ l.length
  | [] => Nat.le_refl _
  | g :: r => by have := dropN_le c now r; simp only [dropN]; cases goes g r c now <;> simp <;> omega
def sat (n : Int) : Int := min n 9223372036854775808
def sizesL : List Seg → List Int
  | [] => []
  | g :: r => sat (posum (g :: r)) :: sizesL r
theorem sizesL_length : ∀ l, (sizesL l).length = l.length
  | [] => rfl
  | g :: r => by simp [sizesL, sizesL_length r]
theorem sizesL_get : ∀ (l : List Seg) (n : Nat), n < l.length → (sizesL l).getD n 0 = sat (posum (l.drop n))
  | [], n, h => by simp at h
  | g :: r, 0, _ => rfl
  | g :: r, n + 1, h => by simpa [sizesL] using sizesL_get r n (by simpa using h)
theorem getD_drop {α : Type} (l : List α) (n : Nat) (d : α) (h : n < l.length) : l.drop n = l.getD n d :: l.drop (n + 1) := by
  rw [List.getD_eq_getElem?_getD, List.getElem?_eq_getElem h]
  simp
end Go.Sim
namespace Go.Sim
set_option linter.unusedSimpArgs false
set_option linter.unusedVariables false
set_option maxRecDepth 10000
theorem old_ev (g : Seg) (c : Cnf) (now : Int) : evFn (env []) H.f45 (LPof []) F.f45 [valOf segTy g, valOf confTy c, .int .i64 now] [] (finK 0) = Option.bind (bif decide (c.2.2.1 > (0 : Int)) then bif decide (now > g.2.2.1) then some (decide (IntKind.u64.wrap (IntKind.u64.wrap now - IntKind.u64.wrap g.2.2.1) > IntKind.u64.wrap c.2.2.1)) else some false else some false) fun v => some (.bool v, []) := by kernel_rfl
def caseOld : PCase := ⟨[.ty segTy, .ty confTy, .ty (.int .i64)], [.bool], fun x => [(true, (isOld x.1 x.2.1 x.2.2.1, ()))]⟩
theorem env_nilR : ∀ x ∈ ([] : List (FuncId × Con)), HoldsC P0 x.1 x.2 := fun x h => by cases h
theorem u64_diff {a b : Int} (ha : In .i64 a) (hb : In .i64 b) (h : a > b) : IntKind.u64.wrap (IntKind.u64.wrap a - IntKind.u64.wrap b) = a - b := by
  rw [In.i64] at ha hb
  simp only [wrapu64_mod]
  omega
theorem u64_pos {a : Int} (ha : In .i64 a) (h : 0 ≤ a) : IntKind.u64.wrap a = a := by
  rw [In.i64] at ha
  exact wrapu64 h (by omega)
theorem old_val (g : Seg) (c : Cnf) (now : Int) (hg : In .i64 g.2.2.1) (hc : In .i64 c.2.2.1) (hn : In .i64 now) : evFn (env []) H.f45 (LPof []) F.f45 [valOf segTy g, valOf confTy c, .int .i64 now] [] (finK 0) = some (.bool (isOld g c now), []) := by
  rw [old_ev]
  unfold isOld
  by_cases h1 : c.2.2.1 > 0
  · by_cases h2 : now > g.2.2.1
    · rw [cond_pos h1, cond_pos h2, u64_diff hn hg h2, u64_pos hc (by omega)]
      simp [h1]
    · rw [cond_pos h1, cond_neg h2]
      have : ¬ (now - g.2.2.1 > c.2.2.1) := by omega
      simp [h1, this]
  · rw [cond_neg h1]
    simp [h1]
theorem old_ok : caseOld.ok P0 I.f45 := case_ok (H := H.f45) (E := env []) (env_ok env_nilR) glob0 mixed0 G.f45 Bd.f45 (by kernel_rfl) noLoops fun ⟨g, c, now, ()⟩ y h ⟨hg, hc, hn, _⟩ => by
  obtain rfl := pick_one h
  exact ⟨[], old_val g c now hg.2.2.1 hc.2.2.1 hn⟩
theorem sizes_rd {R : Type} (l : List Seg) (out : List Int) (all i : Int) (K : Ex → St → Option R) : roundK (env []) H.f46 0 (LPof []) V.f46_4 L.f46_4 ⟨[(0, .vl segTy l), (3, .hw 0), (4, .int .u64 all), (5, .int .i64 i)], [(0, .arr 1 (.int .u64) out [])], 1⟩ K = bif decide (i ≥ (0 : Int)) then bif decide ((0 : Int) ≤ i) && decide (i < (↑l.length : Int)) then bif decide ((0 : Int) ≤ i) && decide (i < (↑out.length : Int)) then Option.bind (bif out.length.ble out.length then some (out.set i.toNat (bif decide ((9223372036854775808 : Int) < IntKind.u64.wrap (all + IntKind.u64.wrap (bif decide ((l.getD i.toNat segTy.zero).2.2.2.2.2.2.2.2.1 > (0 : Int)) then (l.getD i.toNat segTy.zero).2.2.2.2.2.2.2.2.1 else (0 : Int)))) then (9223372036854775808 : Int) else IntKind.u64.wrap (all + IntKind.u64.wrap (bif decide ((l.getD i.toNat segTy.zero).2.2.2.2.2.2.2.2.1 > (0 : Int)) then (l.getD i.toNat segTy.zero).2.2.2.2.2.2.2.2.1 else (0 : Int))))) else none) fun v => K .normal { slots := [(0, .vl segTy l), (3, .hw 0), (4, .int IntKind.u64 (bif decide ((9223372036854775808 : Int) < IntKind.u64.wrap (all + IntKind.u64.wrap (bif decide ((l.getD i.toNat segTy.zero).2.2.2.2.2.2.2.2.1 > (0 : Int)) then (l.getD i.toNat segTy.zero).2.2.2.2.2.2.2.2.1 else (0 : Int)))) then (9223372036854775808 : Int) else IntKind.u64.wrap (all + IntKind.u64.wrap (bif decide ((l.getD i.toNat segTy.zero).2.2.2.2.2.2.2.2.1 > (0 : Int)) then (l.getD i.toNat segTy.zero).2.2.2.2.2.2.2.2.1 else (0 : Int))))), (5, .int .i64 (IntKind.i64.wrap (i - (1 : Int))))], objs := [(0, .arr 1 (Ty.int IntKind.u64) v [])], nx := 1 } else none else none else K (.exit 0) { slots := [(0, .vl segTy l), (3, .hw 0), (4, .int IntKind.u64 all), (5, .int .i64 i)], objs := [(0, .arr 1 (Ty.int IntKind.u64) out [])], nx := 1 } := by kernel_rfl
theorem sat_step (S x : Int) (hS : 0 ≤ S) (hx : In .i64 x) :
    (bif decide (9223372036854775808 < IntKind.u64.wrap (sat S + IntKind.u64.wrap (bif decide (x > 0) then x else 0))) then 9223372036854775808 else IntKind.u64.wrap (sat S + IntKind.u64.wrap (bif decide (x > 0) then x else 0))) = sat (max 0 x + S) := by
  rw [In.i64] at hx
  have e1 : IntKind.u64.wrap (sat S + IntKind.u64.wrap (bif decide (x > 0) then x else 0)) = sat S + max 0 x := by
    rw [cond_ite]
    unfold sat
    simp only [wrapu64_mod]
    split <;> omega
  rw [e1, cond_ite]
  unfold sat
  split <;> omega
theorem sizes_loop (l : List Seg) (hl : l.length ≤ maxL) (hwf : ∀ x ∈ l, wfT segTy x) {R : Type} (K : Ex → St → Option R) : ∀ (k : Nat), k ≤ l.length →
    rounds (env []) H.f46 0 (LPof []) V.f46_4 L.f46_4 (k + 1) ⟨[(0, .vl segTy l), (3, .hw 0), (4, .int .u64 (sat (posum (l.drop k)))), (5, .int .i64 ((k : Int) - 1))], [(0, .arr 1 (.int .u64) (List.replicate k (0 : Int) ++ sizesL (l.drop k)) [])], 1⟩ K =
      K (.exit 0) ⟨[(0, .vl segTy l), (3, .hw 0), (4, .int .u64 (sat (posum l))), (5, .int .i64 (-1))], [(0, .arr 1 (.int .u64) (sizesL l) [])], 1⟩
  | 0, _ => by
    rw [rounds_succ', sizes_rd]
    simp
  | k + 1, h => by
    have hi : ((k + 1 : Nat) : Int) - 1 = (k : Int) := by omega
    unfold maxL at hl
    have hd := getD_drop l k segTy.zero (by omega)
    have hin : In .i64 (l.getD k segTy.zero).2.2.2.2.2.2.2.2.1 := by
      have : l.getD k segTy.zero ∈ l := by
        rw [List.getD_eq_getElem?_getD, List.getElem?_eq_getElem (by omega)]
        simp
      exact (hwf _ this).2.2.2.2.2.2.2.2.1
    have hn := posum_nonneg (l.drop (k + 1))
    rw [rounds_succ', sizes_rd, hi, cond_pos (by omega), cond_pos2 (by omega) (by omega), cond_pos2 (by omega) (by simp [sizesL_length]; omega)]
    simp only [Int.toNat_natCast]
    rw [sat_step _ _ hn hin, wrap64 (by omega) (by omega)]
    have e2 : sat (max 0 (l.getD k segTy.zero).2.2.2.2.2.2.2.2.1 + posum (l.drop (k + 1))) = sat (posum (l.drop k)) := by rw [hd]; rfl
    have e3 : (List.replicate (k + 1) (0 : Int) ++ sizesL (l.drop (k + 1))).set k (sat (posum (l.drop k))) = List.replicate k (0 : Int) ++ sizesL (l.drop k) := by
      rw [List.replicate_succ', List.append_assoc, List.set_append_right _ _ (by simp), hd]
      simp [sizesL]
    rw [e2, e3]
    refine (congrArg (fun c => Option.bind (cond c _ none) _) (Nat.ble_eq_true_of_le (Nat.le_refl _))).trans ?_
    rw [cond_true, Option.bind_some]
    exact sizes_loop l hl hwf K k (by omega)
def sizesPat : SPat := ⟨[(0, .vl segTy), (3, .lit (.hw 0)), (4, .int .u64), (5, .int .i64)], [.arr 1 (.int .u64) []]⟩
def sizesLC : LoopC := ⟨sizesPat, fun x => [(decide (x.1.2.2.1 = (0 : Int)) && decide (x.1.2.2.2.1 = ((List.length x.1.1 : Nat) : Int) - 1) && decide (x.2.1.1 = List.replicate (List.length x.1.1) (0 : Int)),
  .exit 0, ⟨[(0, .vl segTy x.1.1), (3, .hw 0), (4, .int .u64 (sat (posum x.1.1))), (5, .int .i64 (-1))], [(0, .arr 1 (.int .u64) (sizesL x.1.1) [])], 1⟩)]⟩
theorem sizes_lok : LoopOK P0 H.f46 0 L.f46_4 sizesLC := loop_ok (env_ok env_nilR) glob0 mixed0 noLoops V.f46_4 (by decide) fun ⟨⟨l, _, all, i, _⟩, ⟨out, _⟩, _⟩ e s' h hw => by
  obtain ⟨hc, hy⟩ := pick_pre h
  cases hy
  simp only [Bool.and_eq_true, decide_eq_true_eq] at hc
  obtain ⟨⟨h1, h2⟩, h3⟩ := hc
  subst h1; subst h2; subst h3
  have hwl := hw.1.1
  refine ⟨List.length l + 1, ?_⟩
  have := sizes_loop l hwl.1 hwl.2 (fun e s => some (e, s)) (List.length l) (Nat.le_refl _)
  simp only [List.drop_length, sizesL, posum, List.append_nil] at this
  exact this
theorem sizes_ev (l : List Seg) : evFn (env []) H.f46 (LPof [(4, sizesLC)]) F.f46 [.vl segTy l] [] (finK 0) = bif decide ((0 : Int) ≤ (↑l.length : Int)) && decide ((↑l.length : Int) = (↑l.length : Int)) && decide (l.length * 8 ≤ 140737488355328) && decide ((↑l.length : Int) ≤ (9223372036854775807 : Int)) then bif decide (IntKind.i64.wrap ((↑l.length : Int) - (1 : Int)) = (↑l.length : Int) - (1 : (Pat.int IntKind.i64).den)) && decide (List.replicate l.length (0 : Int) = List.replicate l.length (0 : Int)) then some (.vl (Ty.int IntKind.u64) (sizesL l), []) else none else none := by kernel_rfl
def caseSizes : PCase := ⟨[.ty (.sl segTy)], [.sl (.int .u64)], fun x => [(decide ((List.length x.1) * 8 ≤ 140737488355328), (sizesL x.1, ()))]⟩
theorem sizes_val (l : List Seg) (h : l.length * 8 ≤ 140737488355328) : evFn (env []) H.f46 (LPof [(4, sizesLC)]) F.f46 [.vl segTy l] [] (finK 0) = some (.vl (.int .u64) (sizesL l), []) := by
  rw [sizes_ev, wrap64 (by omega) (by omega)]
  have h1 : (0 : Int) ≤ (l.length : Int) := by omega
  have h2 : (l.length : Int) ≤ 9223372036854775807 := by omega
  simp [h, h2]
theorem sizes_ok : caseSizes.ok P0 I.f46 := case_ok (H := H.f46) (E := env []) (env_ok env_nilR) glob0 mixed0 G.f46 Bd.f46 (by kernel_rfl) (loops_good (tab := [(4, sizesLC)]) (by kernel_rfl) (fun x hx => by simp at hx; subst hx; exact sizes_lok)) fun ⟨l, ()⟩ y h hw => by
  obtain ⟨hc, rfl⟩ := pick_pre h
  exact ⟨[], sizes_val l (of_decide_eq_true hc)⟩
noncomputable abbrev consAR : List (FuncId × Con) := [(I.f45, .pure (pureOf [caseOld])), (I.f46, .pure (pureOf [caseSizes]))]
theorem consAR_ok : ∀ x ∈ consAR, HoldsC P0 x.1 x.2 := by
  intro x hx
  simp at hx
  rcases hx with rfl | rfl
  · exact ⟨pureOf_holds (by simp; exact old_ok), C.f45⟩
  · exact ⟨pureOf_holds (by simp; exact sizes_ok), C.f46⟩
theorem drop_rd {R : Type} (l : List Seg) (c : Cnf) (all : List Int) (now n : Int) (K : Ex → St → Option R) : roundK (env consAR) H.f44 0 (LPof []) V.f44_3 L.f44_3 ⟨[(0, .vl segTy l), (2, .int .i64 now), (4, .ptr 0 (.tl 0) 0), (7, .vl (.int .u64) all), (8, .int .i64 n)], [(0, .arr 4 .bool [] [enc confTy c])], 1⟩ K = Option.bind (bif decide (n < (↑l.length : Int)) then bif decide ((0 : Int) ≤ n) && decide (n < (↑l.length : Int)) then bif (l.getD n.toNat segTy.zero).2.2.2.2.2.1 then bif decide ((0 : Int) ≤ n) && decide (n < (↑l.length : Int)) then bif isOld (l.getD n.toNat segTy.zero) c now then some true else bif decide (c.2.1 > (0 : Int)) then bif decide ((0 : Int) ≤ n) && decide (n < (↑all.length : Int)) then some (decide (all.getD n.toNat (0 : Int) > IntKind.u64.wrap c.2.1)) else none else some false else none else some false else none else some false) fun v => bif v then K .normal { slots := [(0, .vl segTy l), (2, .int .i64 now), (4, .ptr 0 (.tl 0) 0), (7, .vl (Ty.int IntKind.u64) all), (8, .int .i64 (IntKind.i64.wrap (n + (1 : Int))))], objs := [(0, .arr 4 .bool [] [[.int .i64 c.1, .int .i64 c.2.1, .int .i64 c.2.2.1, .int .i64 c.2.2.2]])], nx := 1 } else K (.exit 0) { slots := [(0, .vl segTy l), (2, .int .i64 now), (4, .ptr 0 (.tl 0) 0), (7, .vl (Ty.int IntKind.u64) all), (8, .int .i64 n)], objs := [(0, .arr 4 .bool [] [[.int .i64 c.1, .int .i64 c.2.1, .int .i64 c.2.2.1, .int .i64 c.2.2.2]])], nx := 1 } := by kernel_rfl
def dropSt (l : List Seg) (c : Cnf) (now n : Int) : St := ⟨[(0, .vl segTy l), (2, .int .i64 now), (4, .ptr 0 (.tl 0) 0), (7, .vl (.int .u64) (sizesL l)), (8, .int .i64 n)], [(0, .arr 4 .bool [] [enc confTy c])], 1⟩
theorem drop_step (l : List Seg) (c : Cnf) (now : Int) (hl : l.length ≤ maxL) (hc : In .i64 c.2.1) {R : Type} (K : Ex → St → Option R) (n : Nat) (h : n < l.length) :
    roundK (env consAR) H.f44 0 (LPof []) V.f44_3 L.f44_3 (dropSt l c now n) K =
      cond (goes (l.getD n segTy.zero) (l.drop (n + 1)) c now) (K .normal (dropSt l c now ((n : Int) + 1))) (K (.exit 0) (dropSt l c now n)) := by
  unfold maxL at hl
  unfold dropSt
  rw [drop_rd, cond_pos (by omega), cond_pos2 (by omega) (by omega), cond_pos2 (by omega) (by omega), cond_pos2 (by omega) (by rw [sizesL_length]; omega), wrap64 (by omega) (by omega)]
  simp only [Int.toNat_natCast]
  simp only [sizesL_get l n h]
  rw [getD_drop l n segTy.zero h]
  unfold goes isMuch
  generalize (l.getD n segTy.zero) = g
  rw [In.i64] at hc
  have hp := posum_nonneg (g :: l.drop (n + 1))
  cases h1 : g.2.2.2.2.2.1
  · simp; rfl
  · cases h2 : isOld g c now
    · by_cases h3 : c.2.1 > 0
      · rw [cond_pos h3, wrapu64 (by omega) (by omega)]
        have e : (sat (posum (g :: l.drop (n + 1))) > c.2.1) ↔ (posum (g :: l.drop (n + 1)) > c.2.1) := by unfold sat; omega
        simp [h3, e]; rfl
      · rw [cond_neg h3]
        simp [h3]; rfl
    · simp; rfl
theorem drop_loop (l : List Seg) (c : Cnf) (now : Int) (hl : l.length ≤ maxL) (hc : In .i64 c.2.1) {R : Type} (K : Ex → St → Option R) : ∀ (m n : Nat), n + m = l.length →
    rounds (env consAR) H.f44 0 (LPof []) V.f44_3 L.f44_3 (m + 1) (dropSt l c now n) K = K (.exit 0) (dropSt l c now ((n + dropN c now (l.drop n) : Nat) : Int))
  | 0, n, h => by
    have : n = l.length := by omega
    subst this
    rw [rounds_succ']
    unfold dropSt
    rw [drop_rd, cond_neg (by omega)]
    simp [dropN]
    rfl
  | m + 1, n, h => by
    rw [rounds_succ', drop_step l c now hl hc _ n (by omega), getD_drop l n segTy.zero (by omega)]
    simp only [dropN]
    cases goes (l.getD n segTy.zero) (l.drop (n + 1)) c now
    · simp
    · simp only [cond_true]
      have := drop_loop l c now hl hc K m (n + 1) (by omega)
      rw [show ((n + 1 : Nat) : Int) = (n : Int) + 1 by omega] at this
      rw [this]
      congr 3
      omega
def dropPat : SPat := ⟨[(0, .vl segTy), (2, .int .i64), (4, .lit (.ptr 0 (.tl 0) 0)), (7, .vl (.int .u64)), (8, .int .i64)], [.box 4 [[.int .i64, .int .i64, .int .i64, .int .i64]]]⟩
def dropLC : LoopC := ⟨dropPat, fun x => [(decide (x.1.2.2.2.1 = sizesL x.1.1) && decide (x.1.2.2.2.2.1 = (0 : Int)), .exit 0,
  dropSt x.1.1 (x.2.1.1.1, x.2.1.1.2.1, x.2.1.1.2.2.1, x.2.1.1.2.2.2.1) x.1.2.1 (dropN (x.2.1.1.1, x.2.1.1.2.1, x.2.1.1.2.2.1, x.2.1.1.2.2.2.1) x.1.2.1 x.1.1))]⟩
theorem drop_lok : LoopOK P0 H.f44 0 L.f44_3 dropLC := loop_ok (env_ok consAR_ok) glob0 mixed0 noLoops V.f44_3 (by decide) fun ⟨⟨l, now, _, all, n, _⟩, ⟨⟨a, b, c, d, _⟩, _⟩, _⟩ e s' h hw => by
  obtain ⟨hc, hy⟩ := pick_pre h
  cases hy
  simp only [Bool.and_eq_true, decide_eq_true_eq] at hc
  obtain ⟨h1, h2⟩ := hc
  subst h1; subst h2
  have := drop_loop l (a, b, c, d) now hw.1.1.1 hw.2.1.1.2.1 (fun e s => some (e, s)) (List.length l) 0 (by omega)
  rw [Nat.zero_add, List.drop_zero] at this
  exact ⟨_, this⟩
theorem drop_ev (l : List Seg) (c : Cnf) (now : Int) : evFn (env consAR) H.f44 (LPof [(3, dropLC)]) F.f44 [.vl segTy l, valOf confTy c, .int .i64 now] [] (finK 0) = bif decide (l.length * 8 ≤ 140737488355328) then bif decide (sizesL l = sizesL l) && true then some (.int .i64 (↑(dropN c now l) : Int), []) else none else none := by kernel_rfl
def caseDrop : PCase := ⟨[.ty (.sl segTy), .ty confTy, .ty (.int .i64)], [.int .i64], fun x => [(decide ((List.length x.1) * 8 ≤ 140737488355328), (((dropN x.2.1 x.2.2.1 x.1 : Nat) : Int), ()))]⟩
theorem drop_val (l : List Seg) (c : Cnf) (now : Int) (h : l.length * 8 ≤ 140737488355328) : evFn (env consAR) H.f44 (LPof [(3, dropLC)]) F.f44 [.vl segTy l, valOf confTy c, .int .i64 now] [] (finK 0) = some (.int .i64 (dropN c now l), []) := by
  rw [drop_ev]
  simp [h]
theorem drop_ok : caseDrop.ok P0 I.f44 := case_ok (H := H.f44) (E := env consAR) (env_ok consAR_ok) glob0 mixed0 G.f44 Bd.f44 (by kernel_rfl) (loops_good (tab := [(3, dropLC)]) (by kernel_rfl) (fun x hx => by simp at hx; subst hx; exact drop_lok)) fun ⟨l, c, now, ()⟩ y h hw => by
  obtain ⟨hc, rfl⟩ := pick_pre h
  exact ⟨[], drop_val l c now (of_decide_eq_true hc)⟩
theorem older_ev (a b c : Int) : evFn (env []) H.f27 (LPof []) F.f27 [.int .i64 a, .int .i64 b, .int .i64 c] [] (finK 0) = bif decide (c < (0 : Int)) then bif decide (b ≥ a) then some (.bool true, []) else some (.bool (decide (IntKind.u64.wrap (IntKind.u64.wrap a - IntKind.u64.wrap b) < IntKind.u64.wrap (IntKind.u64.wrap (IntKind.i64.wrap ((0 : Int) - IntKind.i64.wrap (c + (1 : Int)))) + (1 : Int)))), []) else bif decide (b ≤ a) then some (.bool false, []) else some (.bool (decide (IntKind.u64.wrap (IntKind.u64.wrap b - IntKind.u64.wrap a) > IntKind.u64.wrap c)), []) := by kernel_rfl
theorem above_rd {R : Type} (l : List Seg) (f : Bool) (left i : Int) (K : Ex → St → Option R) : roundK (env []) H.f25 0 (LPof []) V.f25_3 L.f25_3 ⟨[(0, .vl segTy l), (4, .bool f), (5, .int .i64 left), (6, .int .i64 i)], [], 0⟩ K = bif decide (i < (↑l.length : Int)) then bif decide ((0 : Int) ≤ i) && decide (i < (↑l.length : Int)) then bif decide ((l.getD i.toNat segTy.zero).2.2.2.2.2.2.2.2.1 > left) then K .ret { slots := [(0, .vl segTy l), (4, .bool true), (5, .int .i64 left), (6, .int .i64 i)], objs := [], nx := 0 } else bif decide ((0 : Int) ≤ i) && decide (i < (↑l.length : Int)) then bif decide ((l.getD i.toNat segTy.zero).2.2.2.2.2.2.2.2.1 > (0 : Int)) then bif decide ((0 : Int) ≤ i) && decide (i < (↑l.length : Int)) then K .normal { slots := [(0, .vl segTy l), (4, .bool f), (5, .int .i64 (IntKind.i64.wrap (left - (l.getD i.toNat segTy.zero).2.2.2.2.2.2.2.2.1))), (6, .int .i64 (IntKind.i64.wrap (i + (1 : Int))))], objs := [], nx := 0 } else none else K .normal { slots := [(0, .vl segTy l), (4, .bool f), (5, .int .i64 left), (6, .int .i64 (IntKind.i64.wrap (i + (1 : Int))))], objs := [], nx := 0 } else none else none else K (.exit 0) { slots := [(0, .vl segTy l), (4, .bool f), (5, .int .i64 left), (6, .int .i64 i)], objs := [], nx := 0 } := by kernel_rfl
def caseOlder : PCase := ⟨[.ty (.int .i64), .ty (.int .i64), .ty (.int .i64)], [.bool], fun x => [(true, (decide (x.2.1 - x.1 > x.2.2.1), ()))]⟩
theorem older_val (a b c : Int) (ha : In .i64 a) (hb : In .i64 b) (hc : In .i64 c) : evFn (env []) H.f27 (LPof []) F.f27 [.int .i64 a, .int .i64 b, .int .i64 c] [] (finK 0) = some (.bool (decide (b - a > c)), []) := by
  rw [older_ev]
  have ha' := ha
  have hb' := hb
  rw [In.i64] at ha hb hc
  by_cases h1 : c < 0
  · rw [cond_pos h1]
    by_cases h2 : b ≥ a
    · rw [cond_pos h2]
      have : b - a > c := by omega
      simp [this]
    · rw [cond_neg h2, u64_diff ha' hb' (by omega)]
      have e : IntKind.u64.wrap (IntKind.u64.wrap (IntKind.i64.wrap ((0 : Int) - IntKind.i64.wrap (c + (1 : Int)))) + (1 : Int)) = -c := by
        have e1 : IntKind.i64.wrap (c + (1 : Int)) = c + 1 := wrap64 (by omega) (by omega)
        have e2 : IntKind.i64.wrap ((0 : Int) - (c + 1)) = -c - 1 := by rw [wrap64 (by omega) (by omega)]; omega
        have e3 : IntKind.u64.wrap (-c - 1) = -c - 1 := wrapu64 (by omega) (by omega)
        rw [e1, e2, e3, wrapu64 (by omega) (by omega)]
        omega
      rw [e]
      have : (a - b < -c) ↔ (b - a > c) := by omega
      simp [this]
  · rw [cond_neg h1]
    by_cases h2 : b ≤ a
    · rw [cond_pos h2]
      have : ¬ (b - a > c) := by omega
      simp [this]
    · rw [cond_neg h2, u64_diff hb' ha' (by omega), u64_pos (a := c) (by rw [In.i64]; omega) (by omega)]
theorem older_ok : caseOlder.ok P0 I.f27 := case_ok (H := H.f27) (E := env []) (env_ok env_nilR) glob0 mixed0 G.f27 Bd.f27 (by kernel_rfl) noLoops fun ⟨a, b, c, ()⟩ y h hw => by
  obtain rfl := pick_one h
  exact ⟨[], older_val a b c hw.1 hw.2.1 hw.2.2.1⟩
def aboveSt (l : List Seg) (f : Bool) (left i : Int) : St := ⟨[(0, .vl segTy l), (4, .bool f), (5, .int .i64 left), (6, .int .i64 i)], [], 0⟩
def aboveF : List Seg → Int → Nat → Option (Int × Nat)
  | [], _, _ => none
  | g :: r, left, i => if g.2.2.2.2.2.2.2.2.1 > left then some (left, i) else aboveF r (left - max 0 g.2.2.2.2.2.2.2.2.1) (i + 1)
theorem above_loop (l : List Seg) (hl : l.length ≤ maxL) (hwf : ∀ x ∈ l, wfT segTy x) {R : Type} (K : Ex → St → Option R) : ∀ (m n : Nat) (left : Int), n + m = l.length → 0 ≤ left → left ≤ 9223372036854775807 →
    rounds (env []) H.f25 0 (LPof []) V.f25_3 L.f25_3 (m + 1) (aboveSt l false left n) K =
      match aboveF (l.drop n) left n with
      | some (left, i) => K .ret (aboveSt l true left i)
      | none => K (.exit 0) (aboveSt l false (left - posum (l.drop n)) l.length)
  | 0, n, left, h, h0, h1 => by
    have : n = l.length := by omega
    subst this
    rw [rounds_succ']
    unfold aboveSt
    rw [above_rd, cond_neg (by omega)]
    simp [aboveF, posum]
  | m + 1, n, left, h, h0, h1 => by
    unfold maxL at hl
    have hlen : n < l.length := by omega
    have hin : In .i64 (l.getD n segTy.zero).2.2.2.2.2.2.2.2.1 := by
      have : l.getD n segTy.zero ∈ l := by
        rw [List.getD_eq_getElem?_getD, List.getElem?_eq_getElem hlen]
        simp
      exact (hwf _ this).2.2.2.2.2.2.2.2.1
    rw [getD_drop l n segTy.zero hlen, rounds_succ']
    unfold aboveSt
    rw [above_rd, cond_pos (by omega), cond_pos2 (by omega) (by omega)]
    simp only [Int.toNat_natCast, aboveF]
    rw [In.i64] at hin
    by_cases h2 : (l.getD n segTy.zero).2.2.2.2.2.2.2.2.1 > left
    · rw [cond_pos h2, if_pos h2]
    · rw [cond_neg h2, if_neg h2, cond_pos2 (by omega) (by omega)]
      have ih := above_loop l hl hwf K m (n + 1) (left - max 0 (l.getD n segTy.zero).2.2.2.2.2.2.2.2.1) (by omega) (by omega) (by omega)
      have e : left - max 0 (l.getD n segTy.zero).2.2.2.2.2.2.2.2.1 - posum (l.drop (n + 1)) = left - posum (l.getD n segTy.zero :: l.drop (n + 1)) := by simp only [posum]; omega
      rw [e] at ih
      unfold aboveSt at ih
      rw [← ih, show ((n + 1 : Nat) : Int) = (n : Int) + 1 by omega]
      by_cases h3 : (l.getD n segTy.zero).2.2.2.2.2.2.2.2.1 > 0
      · rw [cond_pos h3, cond_pos2 (by omega) (by omega), wrap64 (by omega) (by omega), wrap64 (by omega) (by omega), Int.max_eq_right (by omega)]
      · rw [cond_neg h3, wrap64 (by omega) (by omega), Int.max_eq_left (by omega), Int.sub_zero]
theorem aboveF_some : ∀ (l : List Seg) (left : Int) (n : Nat), 0 ≤ left → ((aboveF l left n).isSome = decide (posum l > left))
  | [], left, n, h => by simp [aboveF, posum]; omega
  | g :: r, left, n, h => by
    simp only [aboveF, posum]
    have := posum_nonneg r
    split
    · simp; omega
    · rw [aboveF_some r _ _ (by omega)]
      exact decide_eq_decide.2 (by omega)
def abovePat : SPat := ⟨[(0, .vl segTy), (4, .bool), (5, .int .i64), (6, .int .i64)], []⟩
def aboveLC : LoopC := ⟨abovePat, fun x =>
  [(decide (x.1.2.1 = false) && decide (0 ≤ x.1.2.2.1) && decide (x.1.2.2.2.1 = (0 : Int)) && (aboveF x.1.1 x.1.2.2.1 0).isSome, .ret, aboveSt x.1.1 true ((aboveF x.1.1 x.1.2.2.1 0).getD (0, 0)).1 ((aboveF x.1.1 x.1.2.2.1 0).getD (0, 0)).2),
   (decide (x.1.2.1 = false) && decide (0 ≤ x.1.2.2.1) && decide (x.1.2.2.2.1 = (0 : Int)) && !(aboveF x.1.1 x.1.2.2.1 0).isSome, .exit 0, aboveSt x.1.1 false (x.1.2.2.1 - posum x.1.1) (List.length x.1.1))]⟩
theorem above_lok : LoopOK P0 H.f25 0 L.f25_3 aboveLC := loop_ok (env_ok env_nilR) glob0 mixed0 noLoops V.f25_3 (by decide) fun ⟨⟨l, f, left, i, _⟩, _⟩ e s' h hw => by
  have hwl := hw.1.1
  have hle : left ≤ 9223372036854775807 := by
    have : In .i64 left := hw.1.2.2.1
    rw [In.i64] at this
    exact this.2
  have key : f = false → 0 ≤ left → i = (0 : Int) → ∃ k, rounds (env []) H.f25 0 (LPof []) V.f25_3 L.f25_3 k (aboveSt l f left i) (fun e s => some (e, s)) = match aboveF l left 0 with
      | some (left, i) => some (.ret, (aboveSt l true left i))
      | none => some (.exit 0, (aboveSt l false (left - posum l) (List.length l))) := by
    intro h1 h2 h3
    subst h1; subst h3
    have := above_loop l hwl.1 hwl.2 (fun e s => some (e, s)) (List.length l) 0 left (by omega) h2 hle
    rw [List.drop_zero] at this
    exact ⟨_, this⟩
  have h' : pick [(decide (f = false) && decide ((0 : Int) ≤ left) && decide (i = (0 : Int)) && (aboveF l left 0).isSome, Ex.ret, aboveSt l true ((aboveF l left 0).getD (0, 0)).1 ((aboveF l left 0).getD (0, 0)).2),
   (decide (f = false) && decide ((0 : Int) ≤ left) && decide (i = (0 : Int)) && !(aboveF l left 0).isSome, .exit 0, aboveSt l false (left - posum l) (List.length l))] = some (e, s') := h
  revert h' key
  generalize hp : aboveF l left 0 = p
  intro key h'
  cases hc : (decide (f = false) && decide ((0 : Int) ≤ left) && decide (i = (0 : Int))) with
  | false => rw [hc] at h'; simp [pick] at h'
  | true =>
    rw [hc] at h'
    simp only [Bool.and_eq_true, decide_eq_true_eq] at hc
    obtain ⟨k, hk⟩ := key hc.1.1 hc.1.2 hc.2
    refine ⟨k, Eq.trans hk ?_⟩
    cases p <;> simpa [pick] using h'
theorem above_ev (l : List Seg) (keep : Int) : evFn (env []) H.f25 (LPof [(3, aboveLC)]) F.f25 [.vl segTy l, .int .i64 keep] [] (finK 0) = bif decide ((0 : (Pat.int IntKind.i64).den) ≤ keep) && true && (aboveF l keep 0).isSome then some (.bool true, []) else bif decide ((0 : (Pat.int IntKind.i64).den) ≤ keep) && true && !(aboveF l keep 0).isSome then some (.bool false, []) else none := by kernel_rfl
def caseAbove : PCase := ⟨[.ty (.sl segTy), .ty (.int .i64)], [.bool], fun x => [(decide (x.2.1 ≥ 0), (decide (posum x.1 > x.2.1), ()))]⟩
theorem above_val (l : List Seg) (keep : Int) (h : keep ≥ 0) : evFn (env []) H.f25 (LPof [(3, aboveLC)]) F.f25 [.vl segTy l, .int .i64 keep] [] (finK 0) = some (.bool (decide (posum l > keep)), []) := by
  rw [above_ev, aboveF_some l keep 0 h]
  have : (decide ((0 : Int) ≤ keep)) = true := decide_eq_true h
  cases h2 : decide (posum l > keep) <;> simp [this]
theorem above_ok : caseAbove.ok P0 I.f25 := case_ok (H := H.f25) (E := env []) (env_ok env_nilR) glob0 mixed0 G.f25 Bd.f25 (by kernel_rfl) (loops_good (tab := [(3, aboveLC)]) (by kernel_rfl) (fun x hx => by simp at hx; subst hx; exact above_lok)) fun ⟨l, keep, ()⟩ y h hw => by
  obtain ⟨hc, rfl⟩ := pick_pre h
  exact ⟨[], above_val l keep (of_decide_eq_true hc)⟩
noncomputable abbrev consBR : List (FuncId × Con) := [(I.f27, .pure (pureOf [caseOlder])), (I.f25, .pure (pureOf [caseAbove]))]
theorem consBR_ok : ∀ x ∈ consBR, HoldsC P0 x.1 x.2 := by
  intro x hx
  simp at hx
  rcases hx with rfl | rfl
  · exact ⟨pureOf_holds (by simp; exact older_ok), C.f27⟩
  · exact ⟨pureOf_holds (by simp; exact above_ok), C.f25⟩
theorem rdrop_rd {R : Type} (l : List Seg) (c : Cnf) (now n : Int) (K : Ex → St → Option R) : roundK (env consBR) H.f10 0 (LPof []) V.f10_2 L.f10_2 ⟨[(0, .vl segTy l), (2, .int .i64 now), (4, .ptr 0 (.tl 0) 0), (6, .int .i64 0), (7, .int .i64 n)], [(0, .arr 4 .bool [] [enc confTy c])], 1⟩ K = Option.bind (bif decide (n < (↑l.length : Int)) then bif decide ((0 : Int) ≤ n) && decide (n < (↑l.length : Int)) then some (l.getD n.toNat segTy.zero).2.2.2.2.2.1 else none else some false) fun v => bif v then Option.bind (bif decide (c.2.2.1 > (0 : Int)) then bif decide ((0 : Int) ≤ n) && decide (n < (↑l.length : Int)) then some (decide (now - (l.getD n.toNat segTy.zero).2.2.1 > c.2.2.1)) else none else some false) fun v => Option.bind (bif decide (c.2.1 > (0 : Int)) then bif decide ((0 : Int) ≤ n) && decide (n ≤ (↑l.length : Int)) then bif decide (c.2.1 ≥ (0 : (InP.ty (Ty.int IntKind.i64)).den)) then some (decide (posum (List.drop n.toNat l) > c.2.1)) else none else none else some false) fun v_1 => Option.bind (bif !v then some !v_1 else some false) fun v => bif v then K .ret { slots := [(0, .vl segTy l), (2, .int .i64 now), (4, .ptr 0 (.tl 0) 0), (6, .int .i64 n), (7, .int .i64 n)], objs := [(0, .arr 4 .bool [] [[.int .i64 c.1, .int .i64 c.2.1, .int .i64 c.2.2.1, .int .i64 c.2.2.2]])], nx := 1 } else K .normal { slots := [(0, .vl segTy l), (2, .int .i64 now), (4, .ptr 0 (.tl 0) 0), (6, .int .i64 (0 : Int)), (7, .int .i64 (IntKind.i64.wrap (n + (1 : Int))))], objs := [(0, .arr 4 .bool [] [[.int .i64 c.1, .int .i64 c.2.1, .int .i64 c.2.2.1, .int .i64 c.2.2.2]])], nx := 1 } else K (.exit 0) { slots := [(0, .vl segTy l), (2, .int .i64 now), (4, .ptr 0 (.tl 0) 0), (6, .int .i64 (0 : Int)), (7, .int .i64 n)], objs := [(0, .arr 4 .bool [] [[.int .i64 c.1, .int .i64 c.2.1, .int .i64 c.2.2.1, .int .i64 c.2.2.2]])], nx := 1 } := by kernel_rfl
def rdropSt (l : List Seg) (c : Cnf) (now r n : Int) : St := ⟨[(0, .vl segTy l), (2, .int .i64 now), (4, .ptr 0 (.tl 0) 0), (6, .int .i64 r), (7, .int .i64 n)], [(0, .arr 4 .bool [] [enc confTy c])], 1⟩
theorem rdrop_step (l : List Seg) (c : Cnf) (now : Int) (hl : l.length ≤ maxL) {R : Type} (K : Ex → St → Option R) (n : Nat) (h : n < l.length) :
    roundK (env consBR) H.f10 0 (LPof []) V.f10_2 L.f10_2 (rdropSt l c now 0 n) K =
      cond (l.getD n segTy.zero).2.2.2.2.2.1 (cond (isOld (l.getD n segTy.zero) c now || isMuch (l.drop n) c) (K .normal (rdropSt l c now 0 ((n : Int) + 1))) (K .ret (rdropSt l c now n n))) (K (.exit 0) (rdropSt l c now 0 n)) := by
  unfold maxL at hl
  unfold rdropSt
  rw [rdrop_rd, cond_pos (by omega), cond_pos2 (by omega) (by omega), cond_pos2 (by omega) (by omega), wrap64 (by omega) (by omega)]
  simp only [Int.toNat_natCast]
  unfold isOld isMuch
  cases h1 : (l.getD n segTy.zero).2.2.2.2.2.1
  · simp; rfl
  · by_cases h2 : c.2.2.1 > 0
    · by_cases h3 : c.2.1 > 0
      · have h4 : c.2.1 ≥ 0 := by omega
        have h5 : (n : Int) ≤ (l.length : Int) := by omega
        cases h6 : decide (now - (l.getD n segTy.zero).2.2.1 > c.2.2.1) <;> cases h7 : decide (posum (l.drop n) > c.2.1) <;> simp only [h2, h3, h4, h5, h6, h7, Int.natCast_nonneg, ge_iff_le, gt_iff_lt, decide_true, decide_false, Bool.and_true, cond_true, cond_false, Option.bind_some, Bool.not_true, Bool.not_false, Bool.or_true, Bool.or_false, Bool.true_or, Bool.true_and] <;> rfl
      · have h4 : decide (c.2.1 > 0) = false := decide_eq_false h3
        cases h6 : decide (now - (l.getD n segTy.zero).2.2.1 > c.2.2.1) <;> simp only [h2, h4, h6, ge_iff_le, gt_iff_lt, decide_true, decide_false, Bool.and_true, cond_true, cond_false, Option.bind_some, Bool.not_true, Bool.not_false, Bool.or_true, Bool.or_false, Bool.true_or, Bool.true_and, Bool.false_and] <;> rfl
    · have h2' : decide (c.2.2.1 > 0) = false := decide_eq_false h2
      by_cases h3 : c.2.1 > 0
      · have h4 : c.2.1 ≥ 0 := by omega
        have h5 : (n : Int) ≤ (l.length : Int) := by omega
        cases h7 : decide (posum (l.drop n) > c.2.1) <;> simp only [h2', h3, h4, h5, h7, Int.natCast_nonneg, ge_iff_le, gt_iff_lt, decide_true, decide_false, Bool.and_true, cond_true, cond_false, Option.bind_some, Bool.not_true, Bool.not_false, Bool.or_true, Bool.or_false, Bool.true_or, Bool.true_and, Bool.false_and] <;> rfl
      · have h4 : decide (c.2.1 > 0) = false := decide_eq_false h3
        simp only [h2', h4, ge_iff_le, gt_iff_lt, decide_true, decide_false, Bool.and_true, cond_true, cond_false, Option.bind_some, Bool.not_true, Bool.not_false, Bool.or_true, Bool.or_false, Bool.true_or, Bool.true_and, Bool.false_and] <;> rfl
def stopB (l : List Seg) (n : Nat) : Bool := decide (n < l.length) && (l.getD n segTy.zero).2.2.2.2.2.1
def rdropEnd (l : List Seg) (c : Cnf) (now : Int) (N : Nat) {R : Type} (K : Ex → St → Option R) : Option R := cond (stopB l N) (K .ret (rdropSt l c now N N)) (K (.exit 0) (rdropSt l c now 0 N))
theorem rdrop_loop (l : List Seg) (c : Cnf) (now : Int) (hl : l.length ≤ maxL) {R : Type} (K : Ex → St → Option R) : ∀ (m n : Nat), n + m = l.length →
    rounds (env consBR) H.f10 0 (LPof []) V.f10_2 L.f10_2 (m + 1) (rdropSt l c now 0 n) K = rdropEnd l c now (n + dropN c now (l.drop n)) K
  | 0, n, h => by
    have : n = l.length := by omega
    subst this
    rw [rounds_succ']
    unfold rdropSt
    rw [rdrop_rd, cond_neg (by omega)]
    simp [dropN, rdropEnd, stopB]
    rfl
  | m + 1, n, h => by
    rw [rounds_succ', rdrop_step l c now hl _ n (by omega), getD_drop l n segTy.zero (by omega)]
    simp only [dropN, goes]
    have hn : decide (n < l.length) = true := decide_eq_true (by omega)
    cases h1 : (l.getD n segTy.zero).2.2.2.2.2.1
    · simp only [rdropEnd, stopB, Bool.false_and, cond_false, Nat.add_zero, h1, Bool.and_false]
    · cases h2 : (isOld (l.getD n segTy.zero) c now || isMuch (l.getD n segTy.zero :: l.drop (n + 1)) c)
      · simp only [rdropEnd, stopB, hn, h1, Bool.and_self, Bool.and_false, Bool.true_and, cond_false, cond_true, Nat.add_zero]
      · simp only [cond_true, Bool.true_and]
        have := rdrop_loop l c now hl K m (n + 1) (by omega)
        rw [show ((n + 1 : Nat) : Int) = (n : Int) + 1 by omega] at this
        rw [this]
        congr 1
        omega
def rdropPat : SPat := ⟨[(0, .vl segTy), (2, .int .i64), (4, .lit (.ptr 0 (.tl 0) 0)), (6, .int .i64), (7, .int .i64)], [.box 4 [[.int .i64, .int .i64, .int .i64, .int .i64]]]⟩
def rdropLC : LoopC := ⟨rdropPat, fun x => (fun c =>
  [(decide (x.1.2.2.2.1 = (0 : Int)) && decide (x.1.2.2.2.2.1 = (0 : Int)) && stopB x.1.1 (dropN c x.1.2.1 x.1.1), .ret, rdropSt x.1.1 c x.1.2.1 (dropN c x.1.2.1 x.1.1) (dropN c x.1.2.1 x.1.1)),
   (decide (x.1.2.2.2.1 = (0 : Int)) && decide (x.1.2.2.2.2.1 = (0 : Int)) && !stopB x.1.1 (dropN c x.1.2.1 x.1.1), .exit 0, rdropSt x.1.1 c x.1.2.1 0 (dropN c x.1.2.1 x.1.1))]) (x.2.1.1.1, x.2.1.1.2.1, x.2.1.1.2.2.1, x.2.1.1.2.2.2.1)⟩
theorem rdrop_lok : LoopOK P0 H.f10 0 L.f10_2 rdropLC := loop_ok (env_ok consBR_ok) glob0 mixed0 noLoops V.f10_2 (by decide) fun ⟨⟨l, now, _, r, n, _⟩, ⟨⟨a, b, c, d, _⟩, _⟩, _⟩ e s' h hw => by
  have key : r = (0 : Int) → n = (0 : Int) → ∃ k, rounds (env consBR) H.f10 0 (LPof []) V.f10_2 L.f10_2 k (rdropSt l (a, b, c, d) now r n) (fun e s => some (e, s)) = rdropEnd l (a, b, c, d) now (dropN (a, b, c, d) now l) (fun e s => some (e, s)) := by
    intro h1 h2
    subst h1; subst h2
    have := rdrop_loop l (a, b, c, d) now hw.1.1.1 (fun e s => some (e, s)) (List.length l) 0 (by omega)
    rw [List.drop_zero, Nat.zero_add] at this
    exact ⟨_, this⟩
  have h' : pick [(decide (r = (0 : Int)) && decide (n = (0 : Int)) && stopB l (dropN (a, b, c, d) now l), Ex.ret, rdropSt l (a, b, c, d) now (dropN (a, b, c, d) now l) (dropN (a, b, c, d) now l)),
   (decide (r = (0 : Int)) && decide (n = (0 : Int)) && !stopB l (dropN (a, b, c, d) now l), .exit 0, rdropSt l (a, b, c, d) now 0 (dropN (a, b, c, d) now l))] = some (e, s') := h
  revert h' key
  unfold rdropEnd
  generalize stopB l (dropN (a, b, c, d) now l) = p
  intro key h'
  cases hc : (decide (r = (0 : Int)) && decide (n = (0 : Int))) with
  | false => rw [hc] at h'; simp [pick] at h'
  | true =>
    rw [hc] at h'
    simp only [Bool.and_eq_true, decide_eq_true_eq] at hc
    obtain ⟨k, hk⟩ := key hc.1 hc.2
    refine ⟨k, Eq.trans hk ?_⟩
    cases p <;> simpa [pick] using h'
theorem rdrop_ev (l : List Seg) (c : Cnf) (now : Int) : evFn (env consBR) H.f10 (LPof [(2, rdropLC)]) F.f10 [.vl segTy l, valOf confTy c, .int .i64 now] [] (finK 0) = bif stopB l (dropN c now l) then some (.int .i64 (↑(dropN c now l) : Int), []) else bif !stopB l (dropN c now l) then some (.int .i64 (↑(dropN c now l) : Int), []) else none := by kernel_rfl
def caseRDrop : PCase := ⟨[.ty (.sl segTy), .ty confTy, .ty (.int .i64)], [.int .i64], fun x => [(true, (((dropN x.2.1 x.2.2.1 x.1 : Nat) : Int), ()))]⟩
theorem rdrop_val (l : List Seg) (c : Cnf) (now : Int) : evFn (env consBR) H.f10 (LPof [(2, rdropLC)]) F.f10 [.vl segTy l, valOf confTy c, .int .i64 now] [] (finK 0) = some (.int .i64 (dropN c now l), []) := by
  rw [rdrop_ev]
  cases h : stopB l (dropN c now l) <;> simp
theorem rdrop_ok : caseRDrop.ok P0 I.f10 := case_ok (H := H.f10) (E := env consBR) (env_ok consBR_ok) glob0 mixed0 G.f10 Bd.f10 (by kernel_rfl) (loops_good (tab := [(2, rdropLC)]) (by kernel_rfl) (fun x hx => by simp at hx; subst hx; exact rdrop_lok)) fun ⟨l, c, now, ()⟩ y h hw => by
  obtain rfl := pick_one h
  exact ⟨[], rdrop_val l c now⟩
end Go.Sim
namespace Go.Sim
def metIn (point : Int) (rest : List Rec) (k : List UInt8) : Bool := rest.any fun q => decide (q.1 < point) && (k == q.2.2.1)
def dOld (now grace : Int) (dead : Bool) (r : Rec) : Bool := r.2.2.2.2 && dead && decide (now - r.2.1 > grace)
def staysR (point now grace : Int) (dead : Bool) (r : Rec) (rest : List Rec) : Bool := decide (r.1 ≥ point) || (!metIn point rest r.2.2.1 && !dOld now grace dead r)
def keepL (point now grace : Int) (dead : Bool) : List Rec → List Rec
  | [] => []
  | r :: rest => cond (staysR point now grace dead r rest) (r :: keepL point now grace dead rest) (keepL point now grace dead rest)
theorem keepL_length (point now grace : Int) (dead : Bool) : ∀ l, (keepL point now grace dead l).length ≤ l.length
  | [] => Nat.le_refl _
  | r :: rest => by
    have := keepL_length point now grace dead rest
    simp only [keepL]
    cases staysR point now grace dead r rest <;> simp <;> omega
abbrev Met := List (List UInt8 × Bool)
def putM (k : List UInt8) (v : Bool) (m : Met) : Met := mset (kt := .str) (vt := .bool) k v m
def getM (k : List UInt8) (m : Met) : Bool := (mget (kt := .str) (vt := .bool) k m).getD false
theorem keyEq_str (a b : List UInt8) : keyEq .str a b = (a == b) := rfl
theorem getM_put (k k' : List UInt8) (v : Bool) : ∀ m : Met, getM k (putM k' v m) = cond (k == k') v (getM k m)
  | [] => by
    unfold getM putM
    simp only [mset, mget, keyEq_str]
    cases k == k' <;> rfl
  | e :: es => by
    have ih := getM_put k k' v es
    unfold getM putM at ih ⊢
    simp only [mset, mget, keyEq_str]
    cases h : k' == e.1
    · simp only [cond_false, mget, keyEq_str]
      cases h2 : k == e.1
      · simp only [cond_false]; exact ih
      · simp only [cond_true]
        have h3 : (k == k') = false := by
          simp only [beq_eq_false_iff_ne, beq_iff_eq] at h h2 ⊢
          intro e'; exact h (by rw [← e', h2])
        rw [h3]; rfl
    · simp only [cond_true, mget, keyEq_str]
      simp only [beq_iff_eq] at h
      rw [h]
      cases k == e.1 <;> rfl
theorem putM_length (k : List UInt8) (v : Bool) : ∀ m : Met, (putM k v m).length ≤ m.length + 1
  | [] => by simp [putM, mset]
  | e :: es => by
    have := putM_length k v es
    unfold putM at this ⊢
    simp only [mset]
    cases keyEq .str k e.1 <;> simp <;> omega
def metL (point : Int) : List Rec → Met
  | [] => []
  | r :: rest => cond (decide (r.1 ≥ point)) (metL point rest) (putM r.2.2.1 true (metL point rest))
theorem metL_get (point : Int) (k : List UInt8) : ∀ l, getM k (metL point l) = metIn point l k
  | [] => rfl
  | r :: rest => by
    have ih := metL_get point k rest
    simp only [metL, metIn, List.any_cons]
    by_cases h : r.1 ≥ point
    · have h2 : ¬ r.1 < point := by omega
      simp only [h, h2, decide_true, decide_false, cond_true, Bool.false_and, Bool.false_or]
      exact ih
    · have h2 : r.1 < point := by omega
      simp only [h, h2, decide_true, decide_false, cond_false, Bool.true_and]
      rw [getM_put, ih]
      cases k == r.2.2.1 <;> rfl
theorem metL_length (point : Int) : ∀ l, (metL point l).length ≤ l.length
  | [] => Nat.le_refl _
  | r :: rest => by
    have := metL_length point rest
    have h2 := putM_length r.2.2.1 true (metL point rest)
    simp only [metL]
    cases decide (r.1 ≥ point) <;> simp <;> omega
end Go.Sim
namespace Go.Sim
set_option linter.unusedSimpArgs false
set_option linter.unusedVariables false
set_option maxRecDepth 10000
noncomputable abbrev consW3 : List (FuncId × Con) := [(I.f27, .pure (pureOf [caseOlder]))]
theorem consW3_ok : ∀ x ∈ consW3, HoldsC P0 x.1 x.2 := by
  intro x hx
  simp at hx
  subst hx
  exact ⟨pureOf_holds (by simp; exact older_ok), C.f27⟩
theorem rk9_rd {R : Type} (l : List Rec) (pt nw gr : Int) (d : Bool) (o : List Rec) (i : Int) (r : Rec) (gone : Bool) (k : Int) (K : Ex → St → Option R) : roundK (env consW3) H.f11 0 (LPof []) V.f11_9 L.f11_9 ⟨[(0, .vl recT l), (1, .int .i64 pt), (2, .int .i64 nw), (3, .int .i64 gr), (4, .bool d), (11, .hw 0), (12, .int .i64 i), (13, .ptr 1 (.tl 0) 0), (14, .bool gone), (15, .int .i64 k)], [(0, .arr 5 recT o []), (1, .arr 5 .bool [] [enc recT r])], 2⟩ K = Option.bind (bif decide (k < (↑l.length : Int)) then some !gone else some false) fun v => bif v then Option.bind (bif decide ((0 : Int) ≤ k) && decide (k < (↑l.length : Int)) then bif (l.getD k.toNat recTy.zero).2.2.1 == r.2.2.1 then bif decide ((0 : Int) ≤ k) && decide (k < (↑l.length : Int)) then some (decide ((l.getD k.toNat recTy.zero).1 < pt)) else none else some false else none) fun v => K .normal { slots := [(0, .vl recTy l), (1, .int .i64 pt), (2, .int .i64 nw), (3, .int .i64 gr), (4, .bool d), (11, .hw 0), (12, .int .i64 i), (13, .ptr 1 (.tl 0) 0), (14, .bool v), (15, .int .i64 (IntKind.i64.wrap (k + (1 : Int))))], objs := [(0, .arr 5 recTy o []), (1, .arr 5 .bool [] [[.int .i64 r.1, .int .i64 r.2.1, .str r.2.2.1, .str r.2.2.2.1, .bool r.2.2.2.2]])], nx := 2 } else K (.exit 2) { slots := [(0, .vl recTy l), (1, .int .i64 pt), (2, .int .i64 nw), (3, .int .i64 gr), (4, .bool d), (11, .hw 0), (12, .int .i64 i), (13, .ptr 1 (.tl 0) 0), (14, .bool gone), (15, .int .i64 k)], objs := [(0, .arr 5 recTy o []), (1, .arr 5 .bool [] [[.int .i64 r.1, .int .i64 r.2.1, .str r.2.2.1, .str r.2.2.2.1, .bool r.2.2.2.2]])], nx := 2 } := by kernel_rfl
def goneQ (pt : Int) (r q : Rec) : Bool := (q.2.2.1 == r.2.2.1) && decide (q.1 < pt)
def goneP (l : List Rec) (pt : Int) (r : Rec) (k : Nat) : Bool := goneQ pt r (l.getD k recTy.zero)
def rk9St (l : List Rec) (pt nw gr : Int) (d : Bool) (o : List Rec) (i : Int) (r : Rec) (gone : Bool) (k : Nat) : St := ⟨[(0, .vl recT l), (1, .int .i64 pt), (2, .int .i64 nw), (3, .int .i64 gr), (4, .bool d), (11, .hw 0), (12, .int .i64 i), (13, .ptr 1 (.tl 0) 0), (14, .bool gone), (15, .int .i64 k)], [(0, .arr 5 recT o []), (1, .arr 5 .bool [] [enc recT r])], 2⟩
def endN (l : List Rec) (f : Option Nat) : Nat := match f with
  | some j => j + 1
  | none => l.length
theorem rk9_rounds {R : Type} (l : List Rec) (hl : l.length ≤ maxL) (pt nw gr : Int) (d : Bool) (o : List Rec) (i : Int) (r : Rec) (K : Ex → St → Option R) : ∀ (m k : Nat), k + m = l.length →
    rounds (env consW3) H.f11 0 (LPof []) V.f11_9 L.f11_9 (m + 2) (rk9St l pt nw gr d o i r false k) K = K (.exit 2) (rk9St l pt nw gr d o i r (firstFrom (goneP l pt r) k m).isSome (endN l (firstFrom (goneP l pt r) k m)))
  | 0, k, h => by
    obtain rfl : k = l.length := by omega
    rw [rounds_succ']
    refine (rk9_rd _ _ _ _ _ _ _ _ _ _ _).trans ?_
    rw [cond_neg (by omega)]
    rfl
  | m + 1, k, h => by
    have ih := rk9_rounds l hl pt nw gr d o i r K m (k + 1) (by omega)
    unfold maxL at hl
    have e1 : IntKind.i64.wrap ((k : Int) + 1) = ((k + 1 : Nat) : Int) := by rw [wrap64 (by omega) (by omega)]; omega
    rw [rounds_succ']
    refine (rk9_rd _ _ _ _ _ _ _ _ _ _ _).trans ?_
    rw [cond_pos (by omega), Option.bind_some, Bool.not_false, cond_true, cond_pos2 (by omega) (by omega), cond_pos2 (by omega) (by omega), Int.toNat_natCast, e1]
    have e2 : (bif (l.getD k recTy.zero).2.2.1 == r.2.2.1 then some (decide ((l.getD k recTy.zero).1 < pt)) else some false) = some (goneP l pt r k) := by
      unfold goneP goneQ
      cases (l.getD k recTy.zero).2.2.1 == r.2.2.1 <;> rfl
    rw [e2, Option.bind_some]
    rw [firstFrom]
    cases hg : goneP l pt r k with
    | false => exact ih
    | true =>
      show rounds _ _ _ _ _ _ (m + 2) (rk9St l pt nw gr d o i r true (k + 1)) K = K (.exit 2) (rk9St l pt nw gr d o i r true (k + 1))
      rw [rounds_succ']
      refine (rk9_rd _ _ _ _ _ _ _ _ _ _ _).trans ?_
      by_cases h2 : k + 1 < l.length
      · rw [cond_pos (by omega)]
        rfl
      · rw [cond_neg (by omega)]
        rfl
abbrev rk9LC : LoopC := LoopC.of ⟨[(0, .vl recT), (1, .int .i64), (2, .int .i64), (3, .int .i64), (4, .bool), (11, .lit (.hw 0)), (12, .int .i64), (13, .lit (.ptr 1 (.tl 0) 0)), (14, .bool), (15, .int .i64)], [.arr 5 recT [], .box 5 [[.int .i64, .int .i64, .str, .str, .bool]]]⟩
  (fun ⟨⟨l, pt, nw, gr, d, _, i, _, gone, k, _⟩, ⟨⟨o, _⟩, ⟨⟨r1, r2, r3, r4, r5, _⟩, _⟩, _⟩⟩ => !gone && decide ((0 : Int) ≤ k) && decide (k ≤ (List.length l : Int)))
  fun ⟨⟨l, pt, nw, gr, d, _, i, _, gone, k, _⟩, ⟨⟨o, _⟩, ⟨⟨r1, r2, r3, r4, r5, _⟩, _⟩, _⟩⟩ => [(true, .exit 2, rk9St l pt nw gr d o i (r1, r2, r3, r4, r5) (firstFrom (goneP l pt (r1, r2, r3, r4, r5)) k.toNat (List.length l - k.toNat)).isSome (endN l (firstFrom (goneP l pt (r1, r2, r3, r4, r5)) k.toNat (List.length l - k.toNat))))]
theorem rk9_go (l : List Rec) (hl : l.length ≤ maxL) (pt nw gr : Int) (d : Bool) (o : List Rec) (i : Int) (r : Rec) (gone : Bool) (k : Int) (h1 : gone = false) (h2 : 0 ≤ k) (h3 : k ≤ (l.length : Int)) :
    ∃ n, rounds (env consW3) H.f11 0 (LPof []) V.f11_9 L.f11_9 n ⟨[(0, .vl recT l), (1, .int .i64 pt), (2, .int .i64 nw), (3, .int .i64 gr), (4, .bool d), (11, .hw 0), (12, .int .i64 i), (13, .ptr 1 (.tl 0) 0), (14, .bool gone), (15, .int .i64 k)], [(0, .arr 5 recT o []), (1, .arr 5 .bool [] [enc recT r])], 2⟩ (fun e s => some (e, s)) =
      some (.exit 2, rk9St l pt nw gr d o i r (firstFrom (goneP l pt r) k.toNat (l.length - k.toNat)).isSome (endN l (firstFrom (goneP l pt r) k.toNat (l.length - k.toNat)))) := by
  subst h1
  obtain ⟨n, rfl⟩ := Int.eq_ofNat_of_zero_le h2
  simp only [Int.toNat_natCast]
  exact ⟨_, rk9_rounds l hl pt nw gr d o i r _ (l.length - n) n (by omega)⟩
theorem rk9_lok : LoopOK P0 H.f11 0 L.f11_9 rk9LC :=
  loop_ok_of (env_ok consW3_ok) glob0 mixed0 noLoops V.f11_9 (by decide) fun ⟨⟨l, pt, nw, gr, d, _, i, _, gone, k, _⟩, ⟨⟨o, _⟩, ⟨⟨r1, r2, r3, r4, r5, _⟩, _⟩, _⟩⟩ h hw => by
    simp only [Bool.and_eq_true, decide_eq_true_eq, Bool.not_eq_true'] at h
    obtain ⟨⟨h1, h2⟩, h3⟩ := h
    exact rk9_go l hw.1.1.1 pt nw gr d o i (r1, r2, r3, r4, r5) gone k h1 h2 h3
theorem rk3_rd {R : Type} (l : List Rec) (pt nw gr : Int) (d : Bool) (o : List Rec) (i : Int) (K : Ex → St → Option R) : roundK (env consW3) H.f11 0 (LPof [(9, rk9LC)]) V.f11_3 L.f11_3 ⟨[(0, .vl recT l), (1, .int .i64 pt), (2, .int .i64 nw), (3, .int .i64 gr), (4, .bool d), (11, .hw 0), (12, .int .i64 i)], [(0, .arr 5 recT o [])], 1⟩ K = bif decide (i < (↑l.length : Int)) then bif decide ((0 : Int) ≤ i) && decide (i < (↑l.length : Int)) then bif decide ((l.getD i.toNat recTy.zero).1 < pt) then bif decide ((0 : Int) ≤ IntKind.i64.wrap (i + (1 : Int))) && decide (IntKind.i64.wrap (i + (1 : Int)) ≤ (↑l.length : Int)) && true then Option.bind (bif (firstFrom (goneP l pt (l.getD i.toNat recTy.zero)) (IntKind.i64.wrap (i + (1 : Int))).toNat (l.length - (IntKind.i64.wrap (i + (1 : Int))).toNat)).isSome then some true else bif (l.getD i.toNat recTy.zero).2.2.2.2 then bif d then some (decide (nw - (l.getD i.toNat recTy.zero).2.1 > gr)) else some false else some false) fun v => bif !v then bif decide ((o ++ [l.getD i.toNat recTy.zero]).length * 56 ≤ 140737488355328) then K .normal { slots := [(0, .vl recTy l), (1, .int .i64 pt), (2, .int .i64 nw), (3, .int .i64 gr), (4, .bool d), (11, .hw 0), (12, .int .i64 (IntKind.i64.wrap (i + (1 : Int))))], objs := [(0, .arr 5 recTy (o ++ [l.getD i.toNat recTy.zero]) [])], nx := 1 } else none else K .normal { slots := [(0, .vl recTy l), (1, .int .i64 pt), (2, .int .i64 nw), (3, .int .i64 gr), (4, .bool d), (11, .hw 0), (12, .int .i64 (IntKind.i64.wrap (i + (1 : Int))))], objs := [(0, .arr 5 recTy o [])], nx := 1 } else none else bif decide ((o ++ [l.getD i.toNat recTy.zero]).length * 56 ≤ 140737488355328) then K .normal { slots := [(0, .vl recTy l), (1, .int .i64 pt), (2, .int .i64 nw), (3, .int .i64 gr), (4, .bool d), (11, .hw 0), (12, .int .i64 (IntKind.i64.wrap (i + (1 : Int))))], objs := [(0, .arr 5 recTy (o ++ [l.getD i.toNat recTy.zero]) [])], nx := 1 } else none else none else K (.exit 0) { slots := [(0, .vl recTy l), (1, .int .i64 pt), (2, .int .i64 nw), (3, .int .i64 gr), (4, .bool d), (11, .hw 0), (12, .int .i64 i)], objs := [(0, .arr 5 recTy o [])], nx := 1 } := by kernel_rfl
theorem gone_met (l : List Rec) (pt : Int) (r : Rec) (i : Nat) (hi : i ≤ l.length) : (firstFrom (goneP l pt r) i (l.length - i)).isSome = metIn pt (l.drop i) r.2.2.1 := by
  have h := firstFrom_any (q := goneQ pt r) (d := recTy.zero) (l.drop i) (l.take i)
  rw [List.take_append_drop, List.length_take, Nat.min_eq_left hi, List.length_drop] at h
  have e : (fun k => goneQ pt r (l.getD k recTy.zero)) = goneP l pt r := rfl
  rw [e] at h
  rw [h]
  unfold metIn
  congr 1
  funext q
  unfold goneQ
  rw [Bool.and_comm]
  congr 1
  rw [Bool.eq_iff_iff]
  simp only [beq_iff_eq]
  exact ⟨fun e => e.symm, fun e => e.symm⟩
def rk3St (l : List Rec) (pt nw gr : Int) (d : Bool) (o : List Rec) (i : Nat) : St := ⟨[(0, .vl recT l), (1, .int .i64 pt), (2, .int .i64 nw), (3, .int .i64 gr), (4, .bool d), (11, .hw 0), (12, .int .i64 i)], [(0, .arr 5 recT o [])], 1⟩
theorem rk3_rounds {R : Type} (l : List Rec) (hl : l.length ≤ 1000000000) (pt nw gr : Int) (d : Bool) (K : Ex → St → Option R) : ∀ (m i : Nat) (o : List Rec), i + m = l.length → o.length ≤ i →
    rounds (env consW3) H.f11 0 (LPof [(9, rk9LC)]) V.f11_3 L.f11_3 (m + 1) (rk3St l pt nw gr d o i) K = K (.exit 0) (rk3St l pt nw gr d (o ++ keepL pt nw gr d (l.drop i)) l.length)
  | 0, i, o, h, ho => by
    obtain rfl : i = l.length := by omega
    rw [rounds_succ']
    refine (rk3_rd _ _ _ _ _ _ _ _).trans ?_
    rw [cond_neg (by omega), List.drop_length, keepL, List.append_nil]
    rfl
  | m + 1, i, o, h, ho => by
    have ih := fun o => rk3_rounds l hl pt nw gr d K m (i + 1) o (by omega)
    have e1 : IntKind.i64.wrap ((i : Int) + 1) = ((i + 1 : Nat) : Int) := by rw [wrap64 (by omega) (by omega)]; omega
    rw [rounds_succ']
    refine (rk3_rd _ _ _ _ _ _ _ _).trans ?_
    rw [cond_pos (by omega), cond_pos2 (by omega) (by omega), Int.toNat_natCast, e1, Int.toNat_natCast, getD_drop l i recTy.zero (by omega), keepL]
    have hlen : (o ++ [l.getD i recTy.zero]).length * 56 ≤ 140737488355328 := by simp; omega
    unfold staysR
    by_cases h1 : (l.getD i recTy.zero).1 < pt
    · rw [cond_pos h1, decide_eq_true (show (0 : Int) ≤ ((i + 1 : Nat) : Int) by omega), decide_eq_true (show ((i + 1 : Nat) : Int) ≤ (l.length : Int) by omega), gone_met l pt _ (i + 1) (by omega), decide_eq_false (show ¬ (l.getD i recTy.zero).1 ≥ pt by omega)]
      have e2 : (bif metIn pt (List.drop (i + 1) l) (l.getD i recTy.zero).2.2.1 then some true else bif (l.getD i recTy.zero).2.2.2.2 then bif d then some (decide (nw - (l.getD i recTy.zero).2.1 > gr)) else some false else some false) = some (!(!metIn pt (List.drop (i + 1) l) (l.getD i recTy.zero).2.2.1 && !dOld nw gr d (l.getD i recTy.zero))) := by
        unfold dOld
        cases metIn pt (List.drop (i + 1) l) (l.getD i recTy.zero).2.2.1 <;> cases (l.getD i recTy.zero).2.2.2.2 <;> cases d <;> simp
      rw [e2]
      simp only [Bool.and_self, cond_true, Option.bind_some, Bool.not_not, Bool.false_or]
      cases !metIn pt (List.drop (i + 1) l) (l.getD i recTy.zero).2.2.1 && !dOld nw gr d (l.getD i recTy.zero) with
      | true =>
        rw [cond_true, cond_true, cond_pos hlen]
        refine (ih (o ++ [l.getD i recTy.zero]) (by simp; omega)).trans ?_
        rw [List.append_assoc]
        rfl
      | false => exact ih o (by omega)
    · rw [cond_neg h1, cond_pos hlen, decide_eq_true (show (l.getD i recTy.zero).1 ≥ pt by omega), Bool.true_or, cond_true]
      refine (ih (o ++ [l.getD i recTy.zero]) (by simp; omega)).trans ?_
      rw [List.append_assoc]
      rfl
abbrev rk3LC : LoopC := LoopC.of ⟨[(0, .vl recT), (1, .int .i64), (2, .int .i64), (3, .int .i64), (4, .bool), (11, .lit (.hw 0)), (12, .int .i64)], [.arr 5 recT []]⟩
  (fun ⟨⟨l, pt, nw, gr, d, _, i, _⟩, ⟨⟨o, _⟩, _⟩⟩ => decide (i = (0 : Int)) && decide (List.length l ≤ 1000000000) && List.isEmpty o)
  fun ⟨⟨l, pt, nw, gr, d, _, i, _⟩, ⟨⟨o, _⟩, _⟩⟩ => [(true, .exit 0, rk3St l pt nw gr d (keepL pt nw gr d l) (List.length l))]
theorem rk9_lg {R : Type} : LoopsGood P0 H.f11 0 (LPof (R := R) [(9, rk9LC)]) L.f11_3 := loops_good (tab := [(9, rk9LC)]) (by kernel_rfl) (fun x hx => by simp at hx; subst hx; exact rk9_lok)
theorem rk3_lok : LoopOK P0 H.f11 0 L.f11_3 rk3LC :=
  loop_ok_of (env_ok consW3_ok) glob0 mixed0 rk9_lg V.f11_3 (by decide) fun ⟨⟨l, pt, nw, gr, d, _, i, _⟩, ⟨⟨o, _⟩, _⟩⟩ h hw => by
    simp only [Bool.and_eq_true, decide_eq_true_eq, List.isEmpty_iff] at h
    obtain ⟨⟨rfl, h2⟩, rfl⟩ := h
    exact ⟨_, rk3_rounds l h2 pt nw gr d _ (List.length l) 0 [] (Nat.zero_add _) (Nat.le_refl _)⟩
theorem rkeep_ev (l : List Rec) (pt nw gr : Int) (d : Bool) : evFn (env consW3) H.f11 (LPof [(3, rk3LC), (9, rk9LC)]) F.f11 [.vl recT l, .int .i64 pt, .int .i64 nw, .int .i64 gr, .bool d] [] (finT [.sl recT]) = bif decide (l.length ≤ 1000000000) && true && true then some (keepL pt nw gr d l, ()) else none := by kernel_rfl
def caseRkeep : PCase := ⟨[.ty (.sl recT), .ty (.int .i64), .ty (.int .i64), .ty (.int .i64), .ty .bool], [.sl recT], fun x => (fun (l : List Rec) (pt nw gr : Int) (d : Bool) => [(decide (List.length l ≤ 1000000000), (keepL pt nw gr d l, ()))]) x.1 x.2.1 x.2.2.1 x.2.2.2.1 x.2.2.2.2.1⟩
theorem rkeep_val (l : List Rec) (pt nw gr : Int) (d : Bool) (hc : (decide (List.length l ≤ 1000000000)) = true) : evFn (env consW3) H.f11 (LPof [(3, rk3LC), (9, rk9LC)]) F.f11 [.vl recT l, .int .i64 pt, .int .i64 nw, .int .i64 gr, .bool d] [] (finT [.sl recT]) = some (keepL pt nw gr d l, ()) := by
  rw [rkeep_ev, hc]; rfl
theorem rkeep_ok : caseRkeep.ok P0 I.f11 := case_ok2 (H := H.f11) (E := env consW3) (env_ok consW3_ok) glob0 mixed0 G.f11 Bd.f11 (by kernel_rfl) (loops_good (tab := [(3, rk3LC), (9, rk9LC)]) (by kernel_rfl) (fun x hx => by simp at hx; rcases hx with rfl | rfl <;> first | exact rk3_lok | exact rk9_lok)) fun ⟨l, pt, nw, gr, d, ()⟩ y h hw => by
  obtain ⟨hc, rfl⟩ := pick_pre h
  exact rkeep_val l pt nw gr d hc
end Go.Sim
namespace Go.Sim
set_option linter.unusedSimpArgs false
set_option linter.unusedVariables false
end Go.Sim
namespace Go.Sim
set_option linter.unusedSimpArgs false
set_option linter.unusedVariables false
def keyR (r : Rec) : List UInt8 := r.2.2.1
def deadR (r : Rec) : Bool := r.2.2.2.2
def aliveM (r : Rec) : List Rec := bif deadR r then [] else [r]
def insM (r : Rec) : List Rec → List Rec
  | [] => aliveM r
  | x :: xs => bif strLess (keyR x) (keyR r) then x :: insM r xs else bif keyR x == keyR r then aliveM r ++ xs else aliveM r ++ x :: xs
def mapM (l : List Rec) : List Rec := l.foldl (fun m r => insM r m) []
def hasK (k : List UInt8) (l : List Rec) : Bool := l.any fun r => keyR r == k
def lastA (k : List UInt8) : List Rec → Option Rec
  | [] => none
  | r :: l => bif hasK k l then lastA k l else bif keyR r == k then (aliveM r).head? else none
def sortO : List Rec → Prop
  | [] => True
  | r :: l => (∀ q ∈ l, r.1 < q.1) ∧ sortO l
theorem keepL_mem {pt nw gr : Int} {d : Bool} {q : Rec} : ∀ {l : List Rec}, q ∈ keepL pt nw gr d l → q ∈ l
  | r :: l, h => by
    simp only [keepL] at h
    cases hs : staysR pt nw gr d r l with
    | true =>
      rw [hs, cond_true] at h
      rcases List.mem_cons.1 h with h | h
      · exact h ▸ List.mem_cons_self
      · exact List.mem_cons_of_mem _ (keepL_mem h)
    | false => rw [hs, cond_false] at h; exact List.mem_cons_of_mem _ (keepL_mem h)
end Go.Sim
namespace Go.Sim
set_option linter.unusedSimpArgs false
set_option linter.unusedVariables false
set_option maxRecDepth 10000
def catG (l : List Seg) : List Rec := (l.map fun g => g.2.2.2.2.1).flatten
def locG (l : List Seg) : Bool := l.all fun g => !g.2.2.2.2.2.2.2.1
theorem catG_cons (g : Seg) (l : List Seg) : catG (g :: l) = g.2.2.2.2.1 ++ catG l := by simp [catG]
theorem catG_append (l m : List Seg) : catG (l ++ m) = catG l ++ catG m := by simp [catG]
theorem catG_snoc (l : List Seg) (g : Seg) : catG (l ++ [g]) = catG l ++ g.2.2.2.2.1 := by simp [catG]
theorem locG_snoc (l : List Seg) (g : Seg) : locG (l ++ [g]) = (locG l && !g.2.2.2.2.2.2.2.1) := by simp [locG]
theorem catG_le (l : List Seg) : ∀ i, (catG (l.take i)).length ≤ (catG l).length := fun i => by
  have h : catG l = catG (l.take i) ++ catG (l.drop i) := by
    rw [← catG_append, List.take_append_drop]
  rw [h, List.length_append]
  omega
def notYet (nx : Int) (kp : List Rec) (k : Nat) : Bool := !decide ((kp.getD k recTy.zero).1 < nx)
def cutN (nx : Int) (kp : List Rec) : Nat := (firstFrom (notYet nx kp) 0 kp.length).getD kp.length
theorem cutN_le (nx : Int) (kp : List Rec) : cutN nx kp ≤ kp.length := by
  unfold cutN
  cases h : firstFrom (notYet nx kp) 0 kp.length with
  | none => exact Nat.le_refl _
  | some k =>
    have h2 : k < 0 + kp.length := (firstFrom_spec h).2.1
    show k ≤ _
    omega
theorem cutN_split {nx : Int} {X Y : List Rec} (h1 : ∀ r ∈ X, r.1 < nx) (h2 : ∀ r ∈ Y, nx ≤ r.1) : cutN nx (X ++ Y) = X.length := by
  have hX : ∀ k, k < X.length → notYet nx (X ++ Y) k = false := fun k hk => by
    unfold notYet
    have e : (X ++ Y).getD k recTy.zero = X[k] := by
      rw [List.getD_eq_getElem?_getD, List.getElem?_append_left hk, List.getElem?_eq_getElem hk]
      rfl
    rw [e, decide_eq_true (h1 _ (List.getElem_mem hk))]
    rfl
  unfold cutN
  cases h : firstFrom (notYet nx (X ++ Y)) 0 (X ++ Y).length with
  | none =>
    show (X ++ Y).length = _
    cases Y with
    | nil => simp
    | cons y Y =>
      have hn := firstFrom_none h X.length (Nat.zero_le _) (by simp)
      unfold notYet at hn
      have e : (X ++ y :: Y).getD X.length recTy.zero = y := by
        rw [List.getD_eq_getElem?_getD, List.getElem?_append_right (Nat.le_refl _)]
        simp
      rw [e] at hn
      have h3 : y.1 < nx := by simpa using hn
      have := h2 y List.mem_cons_self
      omega
  | some k =>
    show k = _
    obtain ⟨_, k2, k3, k4⟩ := firstFrom_spec h
    have hge : X.length ≤ k := by
      refine Nat.not_lt.1 fun hlt => ?_
      rw [hX k hlt] at k3
      cases k3
    cases Y with
    | nil => simp at k2; omega
    | cons y Y =>
      refine Nat.le_antisymm ?_ hge
      refine Nat.not_lt.1 fun hlt => ?_
      have hn := k4 X.length (Nat.zero_le _) hlt
      unfold notYet at hn
      have e : (X ++ y :: Y).getD X.length recTy.zero = y := by
        rw [List.getD_eq_getElem?_getD, List.getElem?_append_right (Nat.le_refl _)]
        simp
      rw [e] at hn
      have h3 : y.1 < nx := by simpa using hn
      have := h2 y List.mem_cons_self
      omega
def clG (pt : Int) (g : Seg) (n : Nat) (kp : List Rec) : Seg :=
  (g.1, g.2.1, g.2.2.1, (bif decide ((n : Int) < (g.2.2.2.2.1.length : Int)) then IntKind.i64.wrap (g.2.2.2.1 + 1) else g.2.2.2.1), kp.take n, g.2.2.2.2.2.1, g.2.2.2.2.2.2.1 || decide (g.2.1 ≤ pt), g.2.2.2.2.2.2.2.1, ((bytS (kp.take n)).length : Int), g.2.2.2.2.2.2.2.2.2)
def clOne (pt : Int) (g : Seg) (kp : List Rec) : Seg × List Rec := bif !g.2.2.2.2.2.1 || g.2.2.2.2.2.2.2.1 then (g, kp) else (clG pt g (cutN g.2.1 kp) kp, kp.drop (cutN g.2.1 kp))
def clS (pt : Int) (f : List Seg) (kp : List Rec) : Nat → List Seg × List Rec
  | 0 => (f, kp)
  | i + 1 => ((clS pt f kp i).1.set i (clOne pt ((clS pt f kp i).1.getD i segTy.zero) (clS pt f kp i).2).1, (clOne pt ((clS pt f kp i).1.getD i segTy.zero) (clS pt f kp i).2).2)
def minZ (a b : Int) : Int := bif decide (b < a) then b else a
def cleanP (pt nw gr : Int) (M : LogS) : LogS := ((clS (minZ pt M.2.1) M.1 (keepL (minZ pt M.2.1) nw gr (locG (segsL M)) (catG (segsL M))) M.1.length).1, M.2)
def clR (pt : Int) : List Seg → List Rec → List Seg × List Rec
  | [], kp => ([], kp)
  | g :: f, kp => ((clOne pt g kp).1 :: (clR pt f (clOne pt g kp).2).1, (clR pt f (clOne pt g kp).2).2)
theorem clR_snoc (pt : Int) (g : Seg) : ∀ (f : List Seg) (kp : List Rec), clR pt (f ++ [g]) kp = ((clR pt f kp).1 ++ [(clOne pt g (clR pt f kp).2).1], (clOne pt g (clR pt f kp).2).2)
  | [], kp => rfl
  | x :: f, kp => by
    have ih := clR_snoc pt g f (clOne pt x kp).2
    simp only [List.cons_append, clR, ih]
theorem clR_len (pt : Int) : ∀ (f : List Seg) (kp : List Rec), (clR pt f kp).1.length = f.length
  | [], kp => rfl
  | x :: f, kp => by simp only [clR, List.length_cons, clR_len pt f]
theorem clS_clR (pt : Int) (f : List Seg) (kp : List Rec) : ∀ i, i ≤ f.length → clS pt f kp i = ((clR pt (f.take i) kp).1 ++ f.drop i, (clR pt (f.take i) kp).2)
  | 0, _ => by simp [clS, clR]
  | i + 1, h => by
    have ih := clS_clR pt f kp i (by omega)
    have hl : (clR pt (f.take i) kp).1.length = i := by rw [clR_len]; simp; omega
    have e : f.drop i = f.getD i segTy.zero :: f.drop (i + 1) := by
      rw [List.drop_eq_getElem_cons (by omega), List.getD_eq_getElem?_getD, List.getElem?_eq_getElem (by omega)]
      rfl
    have eg : ((clR pt (f.take i) kp).1 ++ f.drop i).getD i segTy.zero = f.getD i segTy.zero := by
      rw [e, List.getD_eq_getElem?_getD, List.getElem?_append_right (by omega), hl]
      simp
    simp only [clS, ih]
    rw [eg, stake_snoc (by omega), clR_snoc]
    rw [e]
    congr 1
    rw [List.set_append_right _ _ (by omega), hl, Nat.sub_self]
    simp
theorem clS_all (pt : Int) (f : List Seg) (kp : List Rec) : clS pt f kp f.length = clR pt f kp := by
  rw [clS_clR pt f kp f.length (Nat.le_refl _), List.take_length, List.drop_length, List.append_nil]
def recsIn (a b : Int) (l : List Rec) : Prop := (∀ r ∈ l, a ≤ r.1 ∧ r.1 < b) ∧ sortO l
def chainF : Int → List Seg → Int → Prop
  | a, [], e => a = e
  | a, g :: f, e => g.1 = a ∧ a ≤ g.2.1 ∧ recsIn g.1 g.2.1 g.2.2.2.2.1 ∧ (g.2.2.2.2.2.1 = true ∧ g.2.2.2.2.2.2.2.1 = false) ∧ chainF g.2.1 f e
theorem sortO_append : ∀ {l m : List Rec}, sortO l → sortO m → (∀ x ∈ l, ∀ y ∈ m, x.1 < y.1) → sortO (l ++ m)
  | [], m, _, h2, _ => h2
  | x :: l, m, h1, h2, h3 => ⟨fun q hq => by
      rcases List.mem_append.1 hq with hq | hq
      · exact h1.1 q hq
      · exact h3 x List.mem_cons_self q hq, sortO_append h1.2 h2 fun y hy => h3 y (List.mem_cons_of_mem _ hy)⟩
end Go.Sim
namespace Go.Sim
set_option linter.unusedSimpArgs false
set_option linter.unusedVariables false
set_option maxRecDepth 10000
noncomputable abbrev consW4 : List (FuncId × Con) := [(I.f11, .pure (pureOf [caseRkeep]))] ++ consW2
theorem consW4_ok : ∀ x ∈ consW4, HoldsC P0 x.1 x.2 := by
  intro x hx
  rcases List.mem_append.1 hx with hx | hx
  · simp at hx
    subst hx
    exact ⟨pureOf_holds (by simp; exact rkeep_ok), C.f11⟩
  · exact consW2_ok x hx
def H.rclean2 : Hint := { H.f13 with vs := [52, 110, 120, 122], nh := [(9, 27)], lg := [(14, 27)] }
theorem rc5_rd {R : Type} (pt nw gr i : Int) (f : List Seg) (o : List Rec) (K : Ex → St → Option R) : roundK (env consW4) H.rclean2 2 (LPof []) V.f13_5 L.f13_5 ⟨[(0, .ptr 0 (.tl 0) 0), (1, .int .i64 pt), (2, .int .i64 nw), (3, .int .i64 gr), (9, .hw 2), (10, .int .i64 i)], [(0, .arr 1 .bool [] [[.hw 1]]), (1, .arr 10 segT f []), (2, .arr 5 recT o [])], 3⟩ K = bif decide (i < (↑f.length : Int)) then bif decide ((0 : Int) ≤ i) && decide (i < (↑f.length : Int)) then bif decide ((o ++ (f.getD i.toNat segTy.zero).2.2.2.2.1).length * 56 ≤ 140737488355328) then K .normal { slots := [(0, .ptr 0 (.tl 0) 0), (1, .int .i64 pt), (2, .int .i64 nw), (3, .int .i64 gr), (9, .hw 2), (10, .int .i64 (IntKind.i64.wrap (i + (1 : Int))))], objs := [(0, .arr 1 .bool [] [[.hw 1]]), (1, .arr 10 segTy f []), (2, .arr 5 recTy (o ++ (f.getD i.toNat segTy.zero).2.2.2.2.1) [])], nx := 3 } else none else none else K (.exit 0) { slots := [(0, .ptr 0 (.tl 0) 0), (1, .int .i64 pt), (2, .int .i64 nw), (3, .int .i64 gr), (9, .hw 2), (10, .int .i64 i)], objs := [(0, .arr 1 .bool [] [[.hw 1]]), (1, .arr 10 segTy f []), (2, .arr 5 recTy o [])], nx := 3 } := by kernel_rfl
theorem rc16_rd {R : Type} (pt i j : Int) (f : List Seg) (kp o : List Rec) (g : Seg) (K : Ex → St → Option R) : roundK (env consW4) H.rclean2 2 (LPof []) V.f13_16 L.f13_16 ⟨[(0, .ptr 0 (.tl 0) 0), (1, .int .i64 pt), (11, .vl recT kp), (12, .int .i64 i), (13, .ptr 2 (.tl 0) 0), (14, .hw 3), (15, .int .i64 j)], [(0, .arr 1 .bool [] [[.hw 1]]), (1, .arr 10 segT f []), (2, .arr 10 .bool [] [enc segT g]), (3, .log recT o)], 4⟩ K = bif decide (j < (↑kp.length : Int)) then Option.bind (bif decide ((0 : Int) ≤ j) && decide (j < (↑kp.length : Int)) then bif decide ((kp.getD j.toNat recTy.zero).1 ≥ g.1) then bif decide ((0 : Int) ≤ j) && decide (j < (↑kp.length : Int)) then some (decide ((kp.getD j.toNat recTy.zero).1 < g.2.1)) else none else some false else none) fun v => bif v then bif decide ((0 : Int) ≤ j) && decide (j < (↑kp.length : Int)) then bif decide ((o ++ [kp.getD j.toNat recTy.zero]).length * 56 ≤ 140737488355328) then K .normal { slots := [(0, .ptr 0 (.tl 0) 0), (1, .int .i64 pt), (11, .vl recTy kp), (12, .int .i64 i), (13, .ptr 2 (.tl 0) 0), (14, .hw 3), (15, .int .i64 (IntKind.i64.wrap (j + (1 : Int))))], objs := [(0, .arr 1 .bool [] [[.hw 1]]), (1, .arr 10 segTy f []), (2, .arr 10 .bool [] [[.int .i64 g.1, .int .i64 g.2.1, .int .i64 g.2.2.1, .int .i64 g.2.2.2.1, .vl recTy g.2.2.2.2.1, .bool g.2.2.2.2.2.1, .bool g.2.2.2.2.2.2.1, .bool g.2.2.2.2.2.2.2.1, .int .i64 g.2.2.2.2.2.2.2.2.1, .int .u32 g.2.2.2.2.2.2.2.2.2]]), (3, .log recTy (o ++ [kp.getD j.toNat recTy.zero]))], nx := 4 } else none else none else K .normal { slots := [(0, .ptr 0 (.tl 0) 0), (1, .int .i64 pt), (11, .vl recTy kp), (12, .int .i64 i), (13, .ptr 2 (.tl 0) 0), (14, .hw 3), (15, .int .i64 (IntKind.i64.wrap (j + (1 : Int))))], objs := [(0, .arr 1 .bool [] [[.hw 1]]), (1, .arr 10 segTy f []), (2, .arr 10 .bool [] [[.int .i64 g.1, .int .i64 g.2.1, .int .i64 g.2.2.1, .int .i64 g.2.2.2.1, .vl recTy g.2.2.2.2.1, .bool g.2.2.2.2.2.1, .bool g.2.2.2.2.2.2.1, .bool g.2.2.2.2.2.2.2.1, .int .i64 g.2.2.2.2.2.2.2.2.1, .int .u32 g.2.2.2.2.2.2.2.2.2]]), (3, .log recTy o)], nx := 4 } else K (.exit 4) { slots := [(0, .ptr 0 (.tl 0) 0), (1, .int .i64 pt), (11, .vl recTy kp), (12, .int .i64 i), (13, .ptr 2 (.tl 0) 0), (14, .hw 3), (15, .int .i64 j)], objs := [(0, .arr 1 .bool [] [[.hw 1]]), (1, .arr 10 segTy f []), (2, .arr 10 .bool [] [[.int .i64 g.1, .int .i64 g.2.1, .int .i64 g.2.2.1, .int .i64 g.2.2.2.1, .vl recTy g.2.2.2.2.1, .bool g.2.2.2.2.2.1, .bool g.2.2.2.2.2.2.1, .bool g.2.2.2.2.2.2.2.1, .int .i64 g.2.2.2.2.2.2.2.2.1, .int .u32 g.2.2.2.2.2.2.2.2.2]]), (3, .log recTy o)], nx := 4 } := by kernel_rfl
def inG (g : Seg) (r : Rec) : Bool := decide (r.1 ≥ g.1) && decide (r.1 < g.2.1)
def rc16St (pt : Int) (kp o : List Rec) (f : List Seg) (g : Seg) (i : Int) (j : Nat) : St := ⟨[(0, .ptr 0 (.tl 0) 0), (1, .int .i64 pt), (11, .vl recT kp), (12, .int .i64 i), (13, .ptr 2 (.tl 0) 0), (14, .hw 3), (15, .int .i64 j)], [(0, .arr 1 .bool [] [[.hw 1]]), (1, .arr 10 segT f []), (2, .arr 10 .bool [] [enc segT g]), (3, .log recT o)], 4⟩
theorem rc16_rounds {R : Type} (pt : Int) (kp : List Rec) (hk : kp.length ≤ 1000000000) (f : List Seg) (g : Seg) (i : Int) (K : Ex → St → Option R) : ∀ (m j : Nat) (o : List Rec), j + m = kp.length → o.length ≤ j →
    rounds (env consW4) H.rclean2 2 (LPof []) V.f13_16 L.f13_16 (m + 1) (rc16St pt kp o f g i j) K = K (.exit 4) (rc16St pt kp (o ++ (kp.drop j).filter (inG g)) f g i kp.length)
  | 0, j, o, h, ho => by
    obtain rfl : j = kp.length := by omega
    rw [rounds_succ']
    refine (rc16_rd _ _ _ _ _ _ _ _).trans ?_
    rw [cond_neg (by omega), List.drop_length, List.filter_nil, List.append_nil]
    rfl
  | m + 1, j, o, h, ho => by
    have ih := fun o => rc16_rounds pt kp hk f g i K m (j + 1) o (by omega)
    have e1 : IntKind.i64.wrap ((j : Int) + 1) = ((j + 1 : Nat) : Int) := by rw [wrap64 (by omega) (by omega)]; omega
    rw [rounds_succ']
    refine (rc16_rd _ _ _ _ _ _ _ _).trans ?_
    rw [cond_pos (by omega), cond_pos2 (by omega) (by omega), cond_pos2 (by omega) (by omega), cond_pos2 (by omega) (by omega), Int.toNat_natCast, e1, getD_drop kp j recTy.zero (by omega), List.filter_cons]
    have e2 : (bif decide ((kp.getD j recTy.zero).1 ≥ g.1) then some (decide ((kp.getD j recTy.zero).1 < g.2.1)) else some false) = some (inG g (kp.getD j recTy.zero)) := by
      unfold inG
      cases decide ((kp.getD j recTy.zero).1 ≥ g.1) <;> rfl
    rw [e2, Option.bind_some]
    cases inG g (kp.getD j recTy.zero) with
    | true =>
      rw [cond_true, cond_pos (by simp; omega), if_pos rfl]
      refine (ih (o ++ [kp.getD j recTy.zero]) (by simp; omega)).trans ?_
      rw [List.append_assoc]
      rfl
    | false => exact ih o (by omega)
abbrev rc16LC : LoopC := LoopC.of ⟨[(0, .lit (.ptr 0 (.tl 0) 0)), (1, .int .i64), (11, .vl recT), (12, .int .i64), (13, .lit (.ptr 2 (.tl 0) 0)), (14, .lit (.hw 3)), (15, .int .i64)], [.box 1 [[.lit (.hw 1)]], .arr 10 segT [], .box 10 [segP], .log recT]⟩
  (fun ⟨⟨_, pt, kp, i, _, _, j, _⟩, ⟨_, ⟨f, _⟩, ⟨⟨g1, g2, g3, g4, g5, g6, g7, g8, g9, g10, _⟩, _⟩, o, _⟩⟩ => decide (j = (0 : Int)) && List.isEmpty o && decide (List.length kp ≤ 1000000000))
  fun ⟨⟨_, pt, kp, i, _, _, j, _⟩, ⟨_, ⟨f, _⟩, ⟨⟨g1, g2, g3, g4, g5, g6, g7, g8, g9, g10, _⟩, _⟩, o, _⟩⟩ => [(true, .exit 4, rc16St pt kp (kp.filter (inG (g1, g2, g3, g4, g5, g6, g7, g8, g9, g10))) f (g1, g2, g3, g4, g5, g6, g7, g8, g9, g10) i (List.length kp))]
theorem rc16_lok : LoopOK P0 H.rclean2 2 L.f13_16 rc16LC :=
  loop_ok_of (env_ok consW4_ok) glob0 mixed0 noLoops V.f13_16 (by decide) fun ⟨⟨_, pt, kp, i, _, _, j, _⟩, ⟨_, ⟨f, _⟩, ⟨⟨g1, g2, g3, g4, g5, g6, g7, g8, g9, g10, _⟩, _⟩, o, _⟩⟩ h hw => by
    simp only [Bool.and_eq_true, decide_eq_true_eq, List.isEmpty_iff] at h
    obtain ⟨⟨rfl, rfl⟩, h3⟩ := h
    exact ⟨_, rc16_rounds pt kp h3 f (g1, g2, g3, g4, g5, g6, g7, g8, g9, g10) i _ (List.length kp) 0 [] (Nat.zero_add _) (Nat.le_refl _)⟩
theorem rc10_rd {R : Type} (pt i : Int) (f : List Seg) (kp : List Rec) (K : Ex → St → Option R) : roundK (env consW4) H.rclean2 2 (LPof [(16, rc16LC)]) V.f13_10 L.f13_10 ⟨[(0, .ptr 0 (.tl 0) 0), (1, .int .i64 pt), (11, .vl recT kp), (12, .int .i64 i)], [(0, .arr 1 .bool [] [[.hw 1]]), (1, .arr 10 segT f [])], 2⟩ K = bif decide (IntKind.i64.wrap (i + (1 : Int)) < (↑f.length : Int)) then bif decide ((0 : Int) ≤ i) && decide (i < (↑f.length : Int)) then bif (f.getD i.toNat segTy.zero).2.2.2.2.2.2.2.1 then K .normal { slots := [(0, .ptr 0 (.tl 0) 0), (1, .int .i64 pt), (11, .vl recTy kp), (12, .int .i64 (IntKind.i64.wrap (i + (1 : Int))))], objs := [(0, .arr 1 .bool [] [[.hw 1]]), (1, .arr 10 segTy f [])], nx := 2 } else bif decide (kp.length ≤ 1000000000) && true then bif decide ((↑(List.filter (inG (f.getD i.toNat segTy.zero)) kp).length : Int) < (↑(List.length (f.getD i.toNat segTy.zero).2.2.2.2.1) : Int)) then bif decide ((List.filter (inG (f.getD i.toNat segTy.zero)) kp).length ≤ 1000000000) then bif (f.getD i.toNat segTy.zero).2.2.2.2.2.2.1 then bif decide ((0 : Int) ≤ i) && decide (i < (↑f.length : Int)) then Option.bind (bif f.length.ble f.length then some (f.set i.toNat ((f.getD i.toNat segTy.zero).1, (f.getD i.toNat segTy.zero).2.1, (f.getD i.toNat segTy.zero).2.2.1, IntKind.i64.wrap ((f.getD i.toNat segTy.zero).2.2.2.1 + (1 : Int)), List.filter (inG (f.getD i.toNat segTy.zero)) kp, (f.getD i.toNat segTy.zero).2.2.2.2.2.1, true, (f.getD i.toNat segTy.zero).2.2.2.2.2.2.2.1, (↑(bytS (List.filter (inG (f.getD i.toNat segTy.zero)) kp)).length : Int), (f.getD i.toNat segTy.zero).2.2.2.2.2.2.2.2.2)) else none) fun v => K .normal { slots := [(0, .ptr 0 (.tl 0) 0), (1, .int .i64 pt), (11, .vl recTy kp), (12, .int .i64 (IntKind.i64.wrap (i + (1 : Int))))], objs := [(0, .arr 1 .bool [] [[.hw 1]]), (1, .arr 10 segTy v [])], nx := 2 } else none else bif decide ((0 : Int) ≤ i) && decide (i < (↑f.length : Int)) then Option.bind (bif f.length.ble f.length then some (f.set i.toNat ((f.getD i.toNat segTy.zero).1, (f.getD i.toNat segTy.zero).2.1, (f.getD i.toNat segTy.zero).2.2.1, IntKind.i64.wrap ((f.getD i.toNat segTy.zero).2.2.2.1 + (1 : Int)), List.filter (inG (f.getD i.toNat segTy.zero)) kp, (f.getD i.toNat segTy.zero).2.2.2.2.2.1, decide ((f.getD i.toNat segTy.zero).2.1 ≤ pt), (f.getD i.toNat segTy.zero).2.2.2.2.2.2.2.1, (↑(bytS (List.filter (inG (f.getD i.toNat segTy.zero)) kp)).length : Int), (f.getD i.toNat segTy.zero).2.2.2.2.2.2.2.2.2)) else none) fun v => K .normal { slots := [(0, .ptr 0 (.tl 0) 0), (1, .int .i64 pt), (11, .vl recTy kp), (12, .int .i64 (IntKind.i64.wrap (i + (1 : Int))))], objs := [(0, .arr 1 .bool [] [[.hw 1]]), (1, .arr 10 segTy v [])], nx := 2 } else none else none else bif decide ((List.filter (inG (f.getD i.toNat segTy.zero)) kp).length ≤ 1000000000) then bif (f.getD i.toNat segTy.zero).2.2.2.2.2.2.1 then bif decide ((0 : Int) ≤ i) && decide (i < (↑f.length : Int)) then Option.bind (bif f.length.ble f.length then some (f.set i.toNat ((f.getD i.toNat segTy.zero).1, (f.getD i.toNat segTy.zero).2.1, (f.getD i.toNat segTy.zero).2.2.1, (f.getD i.toNat segTy.zero).2.2.2.1, List.filter (inG (f.getD i.toNat segTy.zero)) kp, (f.getD i.toNat segTy.zero).2.2.2.2.2.1, true, (f.getD i.toNat segTy.zero).2.2.2.2.2.2.2.1, (↑(bytS (List.filter (inG (f.getD i.toNat segTy.zero)) kp)).length : Int), (f.getD i.toNat segTy.zero).2.2.2.2.2.2.2.2.2)) else none) fun v => K .normal { slots := [(0, .ptr 0 (.tl 0) 0), (1, .int .i64 pt), (11, .vl recTy kp), (12, .int .i64 (IntKind.i64.wrap (i + (1 : Int))))], objs := [(0, .arr 1 .bool [] [[.hw 1]]), (1, .arr 10 segTy v [])], nx := 2 } else none else bif decide ((0 : Int) ≤ i) && decide (i < (↑f.length : Int)) then Option.bind (bif f.length.ble f.length then some (f.set i.toNat ((f.getD i.toNat segTy.zero).1, (f.getD i.toNat segTy.zero).2.1, (f.getD i.toNat segTy.zero).2.2.1, (f.getD i.toNat segTy.zero).2.2.2.1, List.filter (inG (f.getD i.toNat segTy.zero)) kp, (f.getD i.toNat segTy.zero).2.2.2.2.2.1, decide ((f.getD i.toNat segTy.zero).2.1 ≤ pt), (f.getD i.toNat segTy.zero).2.2.2.2.2.2.2.1, (↑(bytS (List.filter (inG (f.getD i.toNat segTy.zero)) kp)).length : Int), (f.getD i.toNat segTy.zero).2.2.2.2.2.2.2.2.2)) else none) fun v => K .normal { slots := [(0, .ptr 0 (.tl 0) 0), (1, .int .i64 pt), (11, .vl recTy kp), (12, .int .i64 (IntKind.i64.wrap (i + (1 : Int))))], objs := [(0, .arr 1 .bool [] [[.hw 1]]), (1, .arr 10 segTy v [])], nx := 2 } else none else none else none else none else K (.exit 2) { slots := [(0, .ptr 0 (.tl 0) 0), (1, .int .i64 pt), (11, .vl recTy kp), (12, .int .i64 i)], objs := [(0, .arr 1 .bool [] [[.hw 1]]), (1, .arr 10 segTy f [])], nx := 2 } := by kernel_rfl
def rclG (pt : Int) (kp : List Rec) (g : Seg) : Seg :=
  (g.1, g.2.1, g.2.2.1, (bif decide (((kp.filter (inG g)).length : Int) < (g.2.2.2.2.1.length : Int)) then IntKind.i64.wrap (g.2.2.2.1 + 1) else g.2.2.2.1), kp.filter (inG g), g.2.2.2.2.2.1, g.2.2.2.2.2.2.1 || decide (g.2.1 ≤ pt), g.2.2.2.2.2.2.2.1, ((bytS (kp.filter (inG g))).length : Int), g.2.2.2.2.2.2.2.2.2)
def rclOne (pt : Int) (kp : List Rec) (g : Seg) : Seg := bif g.2.2.2.2.2.2.2.1 then g else rclG pt kp g
theorem set_selfW {f : List Seg} {i : Nat} (h : i < f.length) : f.set i (f.getD i segTy.zero) = f := by
  rw [List.getD_eq_getElem?_getD, List.getElem?_eq_getElem h]
  simp
def mapI {α : Type} (F : α → α) (l : List α) (i : Nat) : List α := (l.take i).map F ++ l.drop i
theorem mapI_len {α : Type} (F : α → α) (l : List α) (i : Nat) (h : i ≤ l.length) : (mapI F l i).length = l.length := by
  unfold mapI
  simp
  omega
theorem mapI_get {F : Seg → Seg} {l : List Seg} {i : Nat} (h : i < l.length) (a : Seg) : (mapI F l i ++ [a]).getD i segTy.zero = l.getD i segTy.zero := by
  have h1 : ((l.take i).map F).length = i := by simp; omega
  rw [List.getD_eq_getElem?_getD, List.getElem?_append_left (by rw [mapI_len F l i (by omega)]; exact h), List.getD_eq_getElem?_getD]
  unfold mapI
  rw [List.getElem?_append_right (by omega), h1, Nat.sub_self, List.getElem?_drop, Nat.add_zero]
theorem mapI_set {F : Seg → Seg} {l : List Seg} {i : Nat} (h : i < l.length) (a : Seg) : (mapI F l i ++ [a]).set i (F (l.getD i segTy.zero)) = mapI F l (i + 1) ++ [a] := by
  have h1 : ((l.take i).map F).length = i := by simp; omega
  rw [List.set_append_left _ _ (by rw [mapI_len F l i (by omega)]; exact h)]
  congr 1
  unfold mapI
  rw [List.set_append_right _ _ (by omega), h1, Nat.sub_self, getD_drop l i segTy.zero h, stake_snoc h, List.map_append, List.append_assoc]
  rfl
theorem mapI_all {α : Type} (F : α → α) (l : List α) : mapI F l l.length = l.map F := by unfold mapI; simp
def rc10St (pt : Int) (kp : List Rec) (f : List Seg) (i : Nat) : St := ⟨[(0, .ptr 0 (.tl 0) 0), (1, .int .i64 pt), (11, .vl recT kp), (12, .int .i64 i)], [(0, .arr 1 .bool [] [[.hw 1]]), (1, .arr 10 segT f [])], 2⟩
theorem rc10_round {R : Type} (pt : Int) (kp : List Rec) (hk : kp.length ≤ 1000000000) (f : List Seg) (hf : f.length ≤ 1000000000) (i : Nat) (hi : i + 1 < f.length) (K : Ex → St → Option R) :
    roundK (env consW4) H.rclean2 2 (LPof [(16, rc16LC)]) V.f13_10 L.f13_10 (rc10St pt kp f i) K = K .normal (rc10St pt kp (f.set i (rclOne pt kp (f.getD i segTy.zero))) (i + 1)) := by
  refine (rc10_rd pt i f kp K).trans ?_
  have e1 : IntKind.i64.wrap ((i : Int) + 1) = ((i + 1 : Nat) : Int) := by rw [wrap64 (by omega) (by omega)]; omega
  have hlen : (kp.filter (inG (f.getD i segTy.zero))).length ≤ 1000000000 := Nat.le_trans (List.length_filter_le _ _) hk
  rw [e1, cond_pos (by omega), cond_pos2 (by omega) (by omega), Int.toNat_natCast]
  unfold rclOne
  cases hr : (f.getD i segTy.zero).2.2.2.2.2.2.2.1 with
  | true =>
    rw [cond_true, cond_true, set_selfW (by omega)]
    rfl
  | false =>
    rw [cond_false, cond_false, decide_eq_true hk, decide_eq_true hlen]
    have hb : (decide ((0 : Int) ≤ (i : Int)) && decide ((i : Int) < (f.length : Int))) = true := by
      rw [decide_eq_true (show (0 : Int) ≤ (i : Int) by omega), decide_eq_true (show (i : Int) < (f.length : Int) by omega)]
      rfl
    simp only [Bool.and_true, cond_true, ble_selfL, Option.bind_some, hb]
    unfold rclG
    rw [hr]
    cases decide (((kp.filter (inG (f.getD i segTy.zero))).length : Int) < ((f.getD i segTy.zero).2.2.2.2.1.length : Int)) <;> cases (f.getD i segTy.zero).2.2.2.2.2.2.1 <;> rfl
theorem rc10_rounds {R : Type} (pt : Int) (kp : List Rec) (hk : kp.length ≤ 1000000000) (f : List Seg) (a : Seg) (hf : f.length < 1000000000) (K : Ex → St → Option R) : ∀ (m i : Nat), i + m = f.length →
    rounds (env consW4) H.rclean2 2 (LPof [(16, rc16LC)]) V.f13_10 L.f13_10 (m + 1) (rc10St pt kp (mapI (rclOne pt kp) f i ++ [a]) i) K = K (.exit 2) (rc10St pt kp (f.map (rclOne pt kp) ++ [a]) f.length)
  | 0, i, h => by
    obtain rfl : i = f.length := by omega
    have e1 : IntKind.i64.wrap ((f.length : Int) + 1) = ((f.length + 1 : Nat) : Int) := by rw [wrap64 (by omega) (by omega)]; omega
    rw [rounds_succ', mapI_all]
    refine (rc10_rd _ _ _ _ _).trans ?_
    rw [e1, cond_neg (by simp)]
    rfl
  | m + 1, i, h => by
    have ih := rc10_rounds pt kp hk f a hf K m (i + 1) (by omega)
    have hl : (mapI (rclOne pt kp) f i ++ [a]).length = f.length + 1 := by rw [List.length_append, mapI_len _ _ _ (by omega)]; rfl
    rw [rounds_succ']
    refine (rc10_round pt kp hk _ (by omega) i (by omega) _).trans ?_
    rw [mapI_get (by omega), mapI_set (by omega)]
    exact ih
theorem doc_snoc {f : List Seg} (h : docB f = true) : f = f.dropLast ++ [lastS f] := by
  have hd := docB_at h
  have hne : f ≠ [] := by intro e; rw [e] at hd; simp at hd
  have e : lastS f = f.getLast hne := by
    unfold lastS
    rw [List.getD_eq_getElem?_getD, ← List.getLast?_eq_getElem?, List.getLast?_eq_some_getLast hne]
    rfl
  rw [e]
  exact (List.dropLast_concat_getLast hne).symm
theorem rc10_go (pt : Int) (kp : List Rec) (f : List Seg) (h1 : kp.length ≤ 1000000000) (h2 : docB f = true) : ∃ n, rounds (env consW4) H.rclean2 2 (LPof [(16, rc16LC)]) V.f13_10 L.f13_10 n (rc10St pt kp f 0) (fun e s => some (e, s)) =
    some (.exit 2, rc10St pt kp (f.dropLast.map (rclOne pt kp) ++ [lastS f]) (f.length - 1)) := by
  have hd := docB_at h2
  have h := rc10_rounds pt kp h1 f.dropLast (lastS f) (by simp; omega) (fun e s => some (e, s)) f.dropLast.length 0 (Nat.zero_add _)
  have e : mapI (rclOne pt kp) f.dropLast 0 ++ [lastS f] = f := by
    conv => rhs; rw [doc_snoc h2]
    rfl
  rw [e] at h
  refine ⟨_, h.trans ?_⟩
  rw [List.length_dropLast]
abbrev rc10LC : LoopC := LoopC.of ⟨[(0, .lit (.ptr 0 (.tl 0) 0)), (1, .int .i64), (11, .vl recT), (12, .int .i64)], docP⟩
  (fun ⟨⟨_, pt, kp, i, _⟩, ⟨_, ⟨f, _⟩, _⟩⟩ => decide (i = (0 : Int)) && decide (List.length kp ≤ 1000000000) && docB f)
  fun ⟨⟨_, pt, kp, i, _⟩, ⟨_, ⟨f, _⟩, _⟩⟩ => [(true, .exit 2, rc10St pt kp ((List.dropLast f).map (rclOne pt kp) ++ [lastS f]) (List.length f - 1))]
theorem rc16_lg {R : Type} : LoopsGood P0 H.rclean2 2 (LPof (R := R) [(16, rc16LC)]) L.f13_10 := loops_good (tab := [(16, rc16LC)]) (by kernel_rfl) (fun x hx => by simp at hx; subst hx; exact rc16_lok)
theorem rc10_lok : LoopOK P0 H.rclean2 2 L.f13_10 rc10LC :=
  loop_ok_of (env_ok consW4_ok) glob0 mixed0 rc16_lg V.f13_10 (by decide) fun ⟨⟨_, pt, kp, i, _⟩, ⟨_, ⟨f, _⟩, _⟩⟩ h hw => by
    simp only [Bool.and_eq_true, decide_eq_true_eq] at h
    obtain ⟨⟨rfl, h2⟩, h3⟩ := h
    exact rc10_go pt kp f h2 h3
def rc5St (pt nw gr : Int) (f : List Seg) (i : Nat) : St := ⟨[(0, .ptr 0 (.tl 0) 0), (1, .int .i64 pt), (2, .int .i64 nw), (3, .int .i64 gr), (9, .hw 2), (10, .int .i64 i)], [(0, .arr 1 .bool [] [[.hw 1]]), (1, .arr 10 segT f []), (2, .arr 5 recT (catG (f.take i)) [])], 3⟩
theorem rc5_rounds {R : Type} (pt nw gr : Int) (f : List Seg) (h1 : f.length ≤ 1000000000) (h2 : (catG f).length ≤ 1000000000) (K : Ex → St → Option R) : ∀ (m i : Nat), i + m = f.length →
    rounds (env consW4) H.rclean2 2 (LPof []) V.f13_5 L.f13_5 (m + 1) (rc5St pt nw gr f i) K = K (.exit 0) (rc5St pt nw gr f f.length)
  | 0, i, h => by
    obtain rfl : i = f.length := by omega
    rw [rounds_succ']
    refine (rc5_rd _ _ _ _ _ _ _).trans ?_
    rw [cond_neg (by omega)]
    rfl
  | m + 1, i, h => by
    have ih := rc5_rounds pt nw gr f h1 h2 K m (i + 1) (by omega)
    have e1 : IntKind.i64.wrap ((i : Int) + 1) = ((i + 1 : Nat) : Int) := by rw [wrap64 (by omega) (by omega)]; omega
    have e2 : catG (f.take (i + 1)) = catG (f.take i) ++ (f.getD i segTy.zero).2.2.2.2.1 := by rw [stake_snoc (by omega), catG_snoc]
    have h3 := catG_le f (i + 1)
    rw [e2] at h3
    unfold rc5St at ih
    rw [e2] at ih
    rw [rounds_succ']
    refine (rc5_rd _ _ _ _ _ _ _).trans ?_
    rw [cond_pos (by omega), cond_pos2 (by omega) (by omega), Int.toNat_natCast, e1, cond_pos (by omega)]
    exact ih
abbrev rc5LC : LoopC := LoopC.of ⟨[(0, .lit (.ptr 0 (.tl 0) 0)), (1, .int .i64), (2, .int .i64), (3, .int .i64), (9, .lit (.hw 2)), (10, .int .i64)], [.box 1 [[.lit (.hw 1)]], .arr 10 segT [], .arr 5 recT []]⟩
  (fun ⟨⟨_, pt, nw, gr, _, i, _⟩, ⟨_, ⟨f, _⟩, ⟨o, _⟩, _⟩⟩ => decide (i = (0 : Int)) && decide (List.length f ≤ 1000000000) && decide (List.length (catG f) ≤ 1000000000) && List.isEmpty o)
  fun ⟨⟨_, pt, nw, gr, _, i, _⟩, ⟨_, ⟨f, _⟩, ⟨o, _⟩, _⟩⟩ => [(true, .exit 0, ⟨[(0, .ptr 0 (.tl 0) 0), (1, .int .i64 pt), (2, .int .i64 nw), (3, .int .i64 gr), (9, .hw 2), (10, .int .i64 (List.length f : Nat))], [(0, .arr 1 .bool [] [[.hw 1]]), (1, .arr 10 segT f []), (2, .arr 5 recT (catG f) [])], 3⟩)]
theorem rc5_go (pt nw gr : Int) (f : List Seg) (h1 : f.length ≤ 1000000000) (h2 : (catG f).length ≤ 1000000000) : ∃ n, rounds (env consW4) H.rclean2 2 (LPof []) V.f13_5 L.f13_5 n ⟨[(0, .ptr 0 (.tl 0) 0), (1, .int .i64 pt), (2, .int .i64 nw), (3, .int .i64 gr), (9, .hw 2), (10, .int .i64 0)], [(0, .arr 1 .bool [] [[.hw 1]]), (1, .arr 10 segT f []), (2, .arr 5 recT [] [])], 3⟩ (fun e s => some (e, s)) =
    some (.exit 0, ⟨[(0, .ptr 0 (.tl 0) 0), (1, .int .i64 pt), (2, .int .i64 nw), (3, .int .i64 gr), (9, .hw 2), (10, .int .i64 (f.length : Nat))], [(0, .arr 1 .bool [] [[.hw 1]]), (1, .arr 10 segT f []), (2, .arr 5 recT (catG f) [])], 3⟩) := by
  have h := rc5_rounds pt nw gr f h1 h2 (fun e s => some (e, s)) f.length 0 (Nat.zero_add _)
  unfold rc5St at h
  rw [List.take_length] at h
  exact ⟨_, h⟩
theorem rc5_lok : LoopOK P0 H.rclean2 2 L.f13_5 rc5LC :=
  loop_ok_of (env_ok consW4_ok) glob0 mixed0 noLoops V.f13_5 (by decide) fun ⟨⟨_, pt, nw, gr, _, i, _⟩, ⟨_, ⟨f, _⟩, ⟨o, _⟩, _⟩⟩ h hw => by
    simp only [Bool.and_eq_true, decide_eq_true_eq, List.isEmpty_iff] at h
    obtain ⟨⟨⟨rfl, h2⟩, h3⟩, rfl⟩ := h
    exact rc5_go pt nw gr f h2 h3
theorem rclean_ev (pt nw gr : Int) (f : List Seg) : evFn (env consW4) H.rclean2 (LPof [(5, rc5LC), (10, rc10LC), (16, rc16LC)]) F.f13 [.ptr 0 (.tl 0) 0, .int .i64 pt, .int .i64 nw, .int .i64 gr] [.arr 1 .bool [] [[.hw 1]], .arr 10 segT f []] (finV (.lit (.tup [])) docP 2) = bif decide ((0 : Int) ≤ IntKind.i64.wrap ((↑f.length : Int) - (1 : Int))) && decide (IntKind.i64.wrap ((↑f.length : Int) - (1 : Int)) < (↑f.length : Int)) then bif decide (pt > (f.getD (IntKind.i64.wrap ((↑f.length : Int) - (1 : Int))).toNat segTy.zero).1) then bif decide (f.length ≤ 1000000000) && decide ((catG f).length ≤ 1000000000) && true && true then bif docB f then bif decide ((catG f).length ≤ 1000000000) then bif decide ((keepL (f.getD (IntKind.i64.wrap ((↑f.length : Int) - (1 : Int))).toNat segTy.zero).1 nw gr (!rremP f) (catG f)).length ≤ 1000000000) && docB f && true then some ((), (((), ()), ()), (List.map (rclOne (f.getD (IntKind.i64.wrap ((↑f.length : Int) - (1 : Int))).toNat segTy.zero).1 (keepL (f.getD (IntKind.i64.wrap ((↑f.length : Int) - (1 : Int))).toNat segTy.zero).1 nw gr (!rremP f) (catG f))) f.dropLast ++ [lastS f], ()), ()) else none else none else none else none else bif decide (f.length ≤ 1000000000) && decide ((catG f).length ≤ 1000000000) && true && true then bif docB f then bif decide ((catG f).length ≤ 1000000000) then bif decide ((keepL pt nw gr (!rremP f) (catG f)).length ≤ 1000000000) && docB f && true then some ((), (((), ()), ()), (List.map (rclOne pt (keepL pt nw gr (!rremP f) (catG f))) f.dropLast ++ [lastS f], ()), ()) else none else none else none else none else none := by kernel_rfl
def rclnP (pt nw gr : Int) (f : List Seg) : List Seg := f.dropLast.map (rclOne (minZ pt (lastS f).1) (keepL (minZ pt (lastS f).1) nw gr (!rremP f) (catG f))) ++ [lastS f]
def rclnB (f : List Seg) : Bool := docB f && decide ((catG f).length ≤ 1000000000)
def caseRclean : VCase := ⟨[.lit (.ptr 0 (.tl 0) 0), .int .i64, .int .i64, .int .i64], docP, .lit (.tup []), docP, fun ⟨_, pt, nw, gr, _⟩ ⟨_, ⟨f, _⟩, _⟩ => [(rclnB f, ((), ((((), ()), ()), (rclnP pt nw gr f, ()), ())))]⟩
theorem rclean_val (pt nw gr : Int) (f : List Seg) (h : rclnB f = true) : evFn (env consW4) H.rclean2 (LPof [(5, rc5LC), (10, rc10LC), (16, rc16LC)]) F.f13 [.ptr 0 (.tl 0) 0, .int .i64 pt, .int .i64 nw, .int .i64 gr] [.arr 1 .bool [] [[.hw 1]], .arr 10 segT f []] (finV (.lit (.tup [])) docP 2) =
    some ((), ((((), ()), ()), (rclnP pt nw gr f, ()), ())) := by
  unfold rclnB at h
  simp only [Bool.and_eq_true, decide_eq_true_eq] at h
  have hd := docB_at h.1
  have hk : ∀ p, (keepL p nw gr (!rremP f) (catG f)).length ≤ 1000000000 := fun p => Nat.le_trans (keepL_length _ _ _ _ _) h.2
  rw [rclean_ev, lastI h.1, cond_pos2 (by omega) (by omega), Int.toNat_natCast, h.1, decide_eq_true hd.2, decide_eq_true h.2, decide_eq_true (hk _), decide_eq_true (hk _)]
  unfold rclnP minZ lastS
  by_cases hp : pt > (f.getD (f.length - 1) segTy.zero).1
  · rw [cond_pos hp, cond_pos (show (f.getD (f.length - 1) segTy.zero).1 < pt by omega)]
    rfl
  · rw [cond_neg hp, cond_neg (show ¬ (f.getD (f.length - 1) segTy.zero).1 < pt by omega)]
    rfl
theorem rclean_ok : caseRclean.e.ok P0 I.f13 := vcase_ok (c := caseRclean) (H := H.rclean2) (E := env consW4) (env_ok consW4_ok) glob0 mixed0 G.f13 Bd.f13 (by kernel_rfl) (loops_good (tab := [(5, rc5LC), (10, rc10LC), (16, rc16LC)]) (by kernel_rfl) (fun x hx => by simp at hx; rcases hx with rfl | rfl | rfl <;> first | exact rc5_lok | exact rc10_lok | exact rc16_lok)) fun ⟨_, pt, nw, gr, _⟩ ⟨_, ⟨f, _⟩, _⟩ r h hw1 hw2 => by
  obtain ⟨hc, rfl⟩ := pick_pre h
  exact rclean_val pt nw gr f hc
end Go.Sim
namespace Go.Sim
set_option linter.unusedSimpArgs false
set_option linter.unusedVariables false
set_option maxRecDepth 10000
def H.sclone3 : Hint := { H.f73 with vs := [] }
theorem scl_ev (xs : List RSeg) (k m : Nat) : evFn (envR []) H.sclone3 (LPof []) F.f73 [.hs 0 k m] [.arr 10 rsegT xs []] (finK 1) = bif decide (0 < m) then bif decide (([] ++ List.take m (List.drop k xs)).length * 80 ≤ 140737488355328) then some (.hw 1, [.arr 10 ((Ty.int IntKind.i64).pair ((Ty.int IntKind.i64).pair ((Ty.int IntKind.i64).pair ((Ty.int IntKind.i64).pair (Ty.raw.pair (Ty.bool.pair (Ty.bool.pair (Ty.bool.pair ((Ty.int IntKind.i64).pair (Ty.int IntKind.u32)))))))))) xs [], .arr 10 ((Ty.int IntKind.i64).pair ((Ty.int IntKind.i64).pair ((Ty.int IntKind.i64).pair ((Ty.int IntKind.i64).pair (Ty.raw.pair (Ty.bool.pair (Ty.bool.pair (Ty.bool.pair ((Ty.int IntKind.i64).pair (Ty.int IntKind.u32)))))))))) ([] ++ List.take m (List.drop k xs)) []]) else none else none := by kernel_rfl
theorem scl_raw (xs : List RSeg) (k m : Nat) (h : 0 < m) (hl : xs.length ≤ 1000000000) :
    EffGood P0 I.f73 [.hs 0 k m] [.arr 10 rsegT xs []] (.hw 1) [.arr 10 rsegT xs [], .arr 10 rsegT (List.take m (List.drop k xs)) []] := by
  refine evFn_sound (H := H.sclone3) (E := envR []) (envR_ok env_nil) globR mixed0 G.f73 (by kernel_rfl) Bd.f73 (LP := LPof []) noLoops ?_
  refine (scl_ev xs k m).trans ?_
  rw [cond_pos h, cond_pos (by simp only [List.nil_append, List.length_take, List.length_drop]; omega), List.nil_append]
end Go.Sim
namespace Go.Sim
set_option linter.unusedSimpArgs false
set_option linter.unusedVariables false
set_option maxRecDepth 10000
theorem take_drop_get {α : Type} (xs : List α) (k m i : Nat) (h : k + m = xs.length) : (List.take m (List.drop k xs))[i]? = xs[k + i]? := by
  rw [List.take_of_length_le (by rw [List.length_drop]; omega), List.getElem?_drop]
theorem clone_eff (f : List Seg) (b n z : Int) (rs : List Rec) (k m : Nat) (hk : k ≤ f.length) (hm : k + m = f.length + 1) (hl : f.length < 1000000000) :
    EffGood P0 I.f73 [.hs 0 k m] [.arr 10 segT f [actR b n z], .log recT rs] (.hw 2) [.dead, .log recT rs, .arr 10 segT (f.drop k) [actR b n z]] := fun own φ β w vs hV hW ht => by
  have r0 := hW.rel 0
  have r1 := hW.rel 1
  simp only [List.getElem?_cons_zero, List.getElem?_cons_succ, Option.getD_some] at r0 r1
  simp only [VL] at hV
  obtain ⟨v0, _, rfl, a0, rfl⟩ := hV
  rcases h0 : β 0 with _ | (_ | p)
  · simp only [ObjRel, h0] at r0
  · simp only [ObjRel, h0] at r0
    simp at r0
  simp only [ObjRel, h0] at r0
  obtain ⟨p1, p2, p3, p4, p5, p6, p7, p8, p9, p10⟩ := r0
  simp only [List.length_singleton] at p3
  obtain ⟨xs, x1, x2⟩ := ex_list (Q := fun k r => Vt φ w rsegT r (rcells r) ∧ CellsAt w p.block (p.off + k * 10) (rcells r) ∧ (∀ x, f[k]? = some x → Vt φ w segT x (rcells r)) ∧ (k = f.length → VL φ β w (actR b n z) (rcells r))) (f.length + 1) fun k hk => by
    by_cases hkf : k < f.length
    · obtain ⟨ds, d1, d2⟩ := p9 k _ (List.getElem?_eq_getElem hkf)
      obtain ⟨r, hr⟩ := rseg_of_seg d1
      have e := rseg_cells hr
      subst e
      exact ⟨r, hr, d2, fun x hx => by rw [List.getElem?_eq_getElem hkf] at hx; cases hx; exact d1, fun e => by omega⟩
    · obtain rfl : k = f.length := by omega
      obtain ⟨_, ds, d1, d2⟩ := p10 0 _ rfl
      obtain ⟨r, hr⟩ := rseg_of_act d1
      have e := rseg_cells hr
      subst e
      exact ⟨r, hr, d2, fun x hx => by simp at hx, fun _ => d1⟩
  have m0 := hW.mine 0 p (by simp) h0
  simp only [V, h0] at a0
  obtain ⟨a1, A, cap, rfl, c1, c2, c3, c4⟩ := a0
  have m1 : ∀ l, β 1 = some (some l) → l.block < w.heap.size := fun l hl => (hW.mine 1 l (by simp) hl).2
  obtain ⟨β1, hβ⟩ : ∃ β1 : Beta, β1 = fun l => if l = 0 then some (some ⟨p.block, p.off, 10, f.length + 1, f.length + 1⟩) else none := ⟨_, rfl⟩
  have b0 : β1 0 = some (some ⟨p.block, p.off, 10, f.length + 1, f.length + 1⟩) := by rw [hβ]; rfl
  have b2 : ∀ l, 1 ≤ l → β1 l = none := fun l hl => by rw [hβ]; show (if l = 0 then _ else none) = none; rw [if_neg (by omega)]
  have hrun := scl_raw xs k m (by omega) (by omega) (fun k => own k ∧ ∀ l, β 1 = some (some l) → k ≠ l.block) φ β1 w
    [.slice A m cap] ?_ ?_ b2
  · refine hrun.mono fun e w' ⟨v, φ', β', he, hr, hVr, hWI, htop⟩ => ?_
    have lt : (List.take m (List.drop k xs)).length = m := by rw [List.length_take, List.length_drop]; omega
    have R1 := hWI.rel 1
    simp only [List.getElem?_cons_zero, List.getElem?_cons_succ, Option.getD_some] at R1
    rcases e1 : β' 1 with _ | (_ | q)
    · simp only [ObjRel, e1] at R1
    · simp only [ObjRel, e1] at R1
      exact absurd (congrArg List.length R1.1) (by rw [lt]; simp; omega)
    simp only [ObjRel, e1] at R1
    obtain ⟨q1, q2, q3, q4, q5, q6, q7, q8, q9, -⟩ := R1
    have q0 := hWI.mine 1 q (by simp) e1
    rw [lt] at q2
    simp only [lt, List.length_nil, Nat.add_zero] at q3
    obtain ⟨β2, hβ2⟩ : ∃ β2 : Beta, β2 = fun l => if l < 2 then β l else if l = 2 then some (some ⟨q.block, q.off, 10, f.length - k, m⟩) else none := ⟨_, rfl⟩
    have g0 : ∀ l, l < 2 → β2 l = β l := fun l hl => by rw [hβ2]; show (if l < 2 then _ else _) = _; rw [if_pos hl]
    have g3 : β2 2 = some (some ⟨q.block, q.off, 10, f.length - k, m⟩) := by rw [hβ2]; rfl
    have g4 : ∀ l, 3 ≤ l → β2 l = none := fun l hl => by rw [hβ2]; show (if l < 2 then _ else if l = 2 then _ else none) = none; rw [if_neg (by omega), if_neg (by omega)]
    have hx : Ext β β2 := fun l x hl => by
      by_cases h : l < 2
      · rw [g0 l h]; exact hl
      · rw [ht l (by simp; omega)] at hl; cases hl
    have hold : ∀ l, β 1 = some (some l) → w'.heap[l.block]? = w.heap[l.block]? ∧ φ' l.block = φ l.block := fun l hl => hr.old _ (m1 l hl) fun h => h.2 l hl rfl
    have cell : ∀ i r, xs[k + i]? = some r → CellsAt w' q.block (q.off + i * 10) (rcells r) := fun i r hi => by
      obtain ⟨ds, d1, d2⟩ := q9 i r (by rw [take_drop_get _ _ _ _ (by omega)]; exact hi)
      rw [rseg_cells d1] at d2
      exact d2
    refine ⟨v, φ', β2, he, ⟨hr.keeps, fun l hl => g0 l (by simpa using hl), hr.grow, fun c hc ho => hr.old c hc fun h => ho h.1⟩, ?_, ?_, fun l hl => g4 l (by simpa using hl)⟩
    · simp only [V, e1] at hVr
      simp only [V, g3]
      obtain ⟨cap, k1, k2, k3, k4⟩ := hVr
      refine ⟨cap, ?_, ?_, k3, ?_⟩
      · rw [k1, q3]
      · omega
      · rw [q1] at k4; exact k4
    · refine ⟨fun l => ?_, fun l u hl hu => ?_, fun l m u u' hlm hl hm hu hu' => ?_, fun c hc => ⟨(hWI.fresh c hc).1.1, (hWI.fresh c hc).2⟩, hWI.laid⟩
      · match l with
        | 0 => simp [ObjRel]
        | 1 => exact ObjRel.keep hr.keeps hx hold r1
        | 2 =>
          simp only [List.getElem?_cons_zero, List.getElem?_cons_succ, Option.getD_some, ObjRel, g3]
          refine ⟨trivial, by simp, by simp; omega, by omega, fun _ => rfl, q6, q7, ?_, fun i x hi => ?_, fun i e hi => ?_⟩
          · rw [q3] at q8
            exact q8
          · rw [List.getElem?_drop] at hi
            have hkx : k + i < xs.length := by have := (List.getElem?_eq_some_iff.1 hi).1; omega
            exact ⟨_, Vt.keep hr.keeps _ _ _ ((x2 (k + i) _ (List.getElem?_eq_getElem hkx)).2.2.1 x hi), cell i _ (List.getElem?_eq_getElem hkx)⟩
          · match i, hi with
            | 0, hi =>
              simp at hi
              subst hi
              have hkx : f.length < xs.length := by omega
              have h3 := cell (f.length - k) _ (by rw [show k + (f.length - k) = f.length by omega]; exact List.getElem?_eq_getElem hkx)
              refine ⟨rfl, _, VL.keep hr.keeps hx _ _ ((x2 f.length _ (List.getElem?_eq_getElem hkx)).2.2.2 rfl), ?_⟩
              simp only [List.length_drop, Nat.add_zero]
              exact h3
        | l + 3 => simp [ObjRel]
      · match l, hl, hu with
        | 0, hl, _ => exact absurd (by simp) hl
        | 1, _, hu =>
          rw [g0 1 (by decide)] at hu
          have := hW.mine 1 u (by simp) hu
          exact ⟨this.1, Nat.lt_of_lt_of_le this.2 hr.grow⟩
        | 2, _, hu =>
          rw [g3] at hu
          cases hu
          exact ⟨q0.1.1, q0.2⟩
        | l + 3, hl, _ => exact absurd (by simp) hl
      · match l, m, hl, hm, hu, hu' with
        | 0, _, hl, _, _, _ => exact absurd (by simp) hl
        | _, 0, _, hm, _, _ => exact absurd (by simp) hm
        | 1, 1, _, _, _, _ => exact absurd rfl hlm
        | 2, 2, _, _, _, _ => exact absurd rfl hlm
        | 1, 2, _, _, hu, hu' =>
          rw [g0 1 (by decide)] at hu
          rw [g3] at hu'
          cases hu'
          exact fun e => q0.1.2 u hu e.symm
        | 2, 1, _, _, hu, hu' =>
          rw [g3] at hu
          rw [g0 1 (by decide)] at hu'
          cases hu
          exact fun e => q0.1.2 u' hu' e
        | l + 3, _, hl, _, _, _ => exact absurd (by simp) hl
        | _, l + 3, _, hm, _, _ => exact absurd (by simp) hm
  · simp only [VL]
    refine ⟨_, _, rfl, ?_, rfl⟩
    simp only [V, b0]
    refine ⟨a1, A, cap, rfl, c1, c2, by omega, ?_⟩
    rw [p1] at c4
    exact c4
  · refine ⟨fun l => ?_, fun l u hl hu => ?_, fun l m u u' hlm hl hm hu hu' => ?_, fun c hc => ?_, hW.laid⟩
    · match l with
      | 0 =>
        simp only [List.getElem?_cons_zero, Option.getD_some, ObjRel, b0]
        refine ⟨trivial, x1.symm, by simp [x1], by rw [← p3]; exact p4, fun _ => rfl, p6, p7, ?_, fun k x hx => ?_, fun k e he => by simp at he⟩
        · rw [p3] at p8
          exact p8
        · obtain ⟨d1, d2, _⟩ := x2 k x hx
          exact ⟨_, d1, d2⟩
      | l + 1 => simp [ObjRel]
    · match l, hl, hu with
      | 0, _, hu =>
        rw [b0] at hu
        cases hu
        exact ⟨⟨m0.1, fun l hl => (hW.dist 0 1 p l (by decide) (by simp) (by simp) h0 hl)⟩, m0.2⟩
      | l + 1, hl, _ => exact absurd (by simp) hl
    · match l, m, hl, hm, hu, hu' with
      | 0, 0, _, _, _, _ => exact absurd rfl hlm
      | l + 1, _, hl, _, _, _ => exact absurd (by simp) hl
      | _, l + 1, _, hm, _, _ => exact absurd (by simp) hm
    · obtain ⟨h1, h2⟩ := hW.fresh c hc
      exact ⟨⟨h1, fun l hl e => by have := m1 l hl; omega⟩, h2⟩
def caseSegClone : VCase := ⟨[.hs 0], [.arr 10 segT [actRP], .log recT], .lit (.hw 2), [.dead, .log recT, .arr 10 segT [actRP]],
  fun ⟨⟨k, m⟩, _⟩ ⟨⟨f, ⟨b, n, _, _, _, _, _, _, z, _, _⟩, _⟩, rs, _⟩ =>
    [(decide (k ≤ List.length f) && decide (k + m = List.length f + 1) && decide (List.length f < 1000000000), ((), ((), rs, (f.drop k, (b, n, (), (), (), (), (), (), z, (), ()), ()), ())))]⟩
theorem segclone_ok : caseSegClone.e.ok P0 I.f73 := fun ⟨⟨k, m⟩, _⟩ ⟨⟨f, ⟨b, n, _, _, _, _, _, _, z, _, _⟩, _⟩, rs, _⟩ r objs' hxy hw1 hw2 => by
  obtain ⟨z, hz, e0⟩ := pick_mapAlt hxy
  cases e0
  obtain ⟨hc, rfl⟩ := pick_pre hz
  simp only [Bool.and_eq_true, decide_eq_true_eq] at hc
  obtain ⟨⟨h1, h2⟩, h3⟩ := hc
  exact clone_eff f b n _ rs k m h1 h2 h3
noncomputable def dropO (c : Cnf) (now : Int) (M : LogS) : Nat := hold (dropN c now (segsL M))
abbrev cnfP : Pat := .agg [.int .i64, .int .i64, .int .i64, .int .i64]
noncomputable def caseDropO : VCase := ⟨[.lit (.hw 0), cnfP, .int .i64], rowP, .int .i64, rowP, fun ⟨_, ⟨c1, c2, c3, c4, _⟩, now, _⟩ ⟨⟨f, ⟨b, n, _, _, _, _, _, _, z, _, _⟩, _⟩, rs, _⟩ =>
  [(decide (List.length f ≤ 1000000000), (((dropO (c1, c2, c3, c4) now (f, b, n, z, rs) : Nat) : Int), ((f, (b, n, (), (), (), (), (), (), z, (), ()), ()), rs, ())))]⟩
theorem dropO_view (c : Cnf) (now : Int) (f : List Seg) (b n z : Int) (rs : List Rec) : bviews (fun l => ([AObj.arr 10 segT f [actR b n z], .log recT rs][l]?).getD .dead) caseDrop.ins [.hw 0, .agg (enc confTy c), .int .i64 now] = some (segsL (f, b, n, z, rs), c, now, ()) := by kernel_rfl
theorem dropo_ok : caseDropO.e.ok P0 I.f44 := fun ⟨_, ⟨c1, c2, c3, c4, _⟩, now, _⟩ ⟨⟨f, ⟨b, n, _, _, _, _, _, _, z, _, _⟩, _⟩, rs, _⟩ r objs' hxy hw1 hw2 => by
  obtain ⟨z', hz, e0⟩ := pick_mapAlt hxy
  cases e0
  obtain ⟨hc, rfl⟩ := pick_pre hz
  have hc : List.length f ≤ 1000000000 := of_decide_eq_true hc
  refine (brw_holds drop_ok rfl C.f44).1 [.hw 0, .agg (enc confTy (c1, c2, c3, c4)), .int .i64 now] [AObj.arr 10 segT f [actR b n z], .log recT rs] _ _ ?_ (Nat.le_refl _)
  unfold brwOf
  rw [dropO_view]
  show pick (mapAlt _ [(decide ((segsL (f, b, n, z, rs)).length * 8 ≤ 140737488355328), _)]) = _
  rw [decide_eq_true (by rw [segsL_len]; simp only; omega)]
  unfold dropO
  rw [hold_eq]
  rfl
noncomputable abbrev consJ1 : List (FuncId × Con) := [(I.f44, .eff (effOf [caseDropO.e])), (I.f73, .eff (effOf [caseSegClone.e]))]
theorem consJ1_ok : ∀ x ∈ consJ1, HoldsC P0 x.1 x.2 := by
  intro x hx
  simp at hx
  rcases hx with rfl | rfl
  · exact ⟨fun args objs r objs2 h _ => effOf_holds (by simp; exact dropo_ok) args objs r objs2 h, C.f44⟩
  · exact ⟨fun args objs r objs2 h _ => effOf_holds (by simp; exact segclone_ok) args objs r objs2 h, C.f73⟩
theorem retain_ev (c : Cnf) (now : Int) (f : List Seg) (b n z : Int) (rs : List Rec) : evFnM 1 (env consJ1) H.f59 (LPof []) F.f59 [.ptr 0 (.tl 0) 0, valOf confTy c, .int .i64 now] [.arr 1 .bool [] [[.hw 1]], .arr 10 segT f [actC b n z], .log recT rs] (finVM (.lit (.tup [])) logQ 1 3) = bif decide (f.length ≤ 1000000000) then bif decide ((0 : Int) ≤ (↑(dropO c now (f, b, n, z, rs)) : Int)) && decide ((↑(dropO c now (f, b, n, z, rs)) : Int) ≤ (↑(f.length + 1) : Int)) then bif decide (dropO c now (f, b, n, z, rs) ≤ f.length) && decide (dropO c now (f, b, n, z, rs) + (f.length + 1 - dropO c now (f, b, n, z, rs)) = f.length + 1) && decide (f.length < 1000000000) then some ((), (((), ()), ()), (), (), (List.drop (dropO c now (f, b, n, z, rs)) f, (b, n, (), (), (), (), (), (), z, (), ()), ()), rs, ()) else none else none else none := by kernel_rfl
def retainP (c : Cnf) (now : Int) (M : LogS) : LogS := (M.1.drop (dropN c now (segsL M)), M.2)
theorem dropN_leA (c : Cnf) (now : Int) (a : Seg) (ha : a.2.2.2.2.2.1 = false) : ∀ l : List Seg, dropN c now (l ++ [a]) ≤ l.length
  | [] => by
    show dropN c now [a] ≤ 0
    simp [dropN, goes, ha]
  | g :: l => by
    have ih := dropN_leA c now a ha l
    simp only [List.cons_append, dropN, List.length_cons]
    cases goes g (l ++ [a]) c now <;> simp only [cond_true, cond_false] <;> omega
theorem dropO_le (c : Cnf) (now : Int) (M : LogS) : dropO c now M ≤ M.1.length := by
  unfold dropO
  rw [hold_eq]
  exact dropN_leA c now (actS M) rfl M.1
theorem dropO_eq (c : Cnf) (now : Int) (M : LogS) : dropO c now M = dropN c now (segsL M) := by unfold dropO; rw [hold_eq]
def caseRetain : VCase := ⟨[.lit (.ptr 0 (.tl 0) 0), cnfP, .int .i64], logP, .lit (.tup []), logQ, fun ⟨_, ⟨c1, c2, c3, c4, _⟩, now, _⟩ ⟨_, ⟨f, ⟨b, n, _, _, _, _, _, _, z, _, _⟩, _⟩, rs, _⟩ => [(decide (List.length f < 1000000000), ((), ((((), ()), ()), (), (), ((retainP (c1, c2, c3, c4) now (f, b, n, z, rs)).1, ((retainP (c1, c2, c3, c4) now (f, b, n, z, rs)).2.1, (retainP (c1, c2, c3, c4) now (f, b, n, z, rs)).2.2.1, (), (), (), (), (), (), (retainP (c1, c2, c3, c4) now (f, b, n, z, rs)).2.2.2.1, (), ()), ()), (retainP (c1, c2, c3, c4) now (f, b, n, z, rs)).2.2.2.2, ())))]⟩
theorem retain_ok : caseRetain.e.ok P0 I.f59 := vcase_okM (c := caseRetain) (H := H.f59) (E := env consJ1) (env_ok consJ1_ok) glob0 mixed0 G.f59 Bd.f59 1 rfl (by kernel_rfl) noLoops fun ⟨_, ⟨c1, c2, c3, c4, _⟩, now, _⟩ ⟨_, ⟨f, ⟨b, n, _, _, _, _, _, _, z, _, _⟩, _⟩, rs, _⟩ r h hw1 hw2 => by
  obtain ⟨hc, rfl⟩ := pick_pre h
  refine (retain_ev (c1, c2, c3, c4) now f b n z rs).trans ?_
  have hc : List.length f < 1000000000 := of_decide_eq_true hc
  have h1 : dropO (c1, c2, c3, c4) now (f, b, n, z, rs) ≤ f.length := dropO_le _ _ _
  unfold retainP
  rw [← dropO_eq, cond_pos (by omega), cond_pos2 (by omega) (by omega)]
  rw [decide_eq_true h1, decide_eq_true (show dropO (c1, c2, c3, c4) now (f, b, n, z, rs) + (f.length + 1 - dropO (c1, c2, c3, c4) now (f, b, n, z, rs)) = f.length + 1 by omega), decide_eq_true hc]
  rfl
end Go.Sim
namespace Go.Sim
set_option linter.unusedSimpArgs false
set_option linter.unusedVariables false
set_option maxRecDepth 10000
def mgP (most : Int) (f : List Seg) (i : Nat) : Bool := decide (i + 1 < f.length) && (wholeS (f.getD i segTy.zero) && (wholeS (f.getD (i + 1) segTy.zero) && decide (((f.getD i segTy.zero).2.2.2.2.1.length : Int) + ((f.getD (i + 1) segTy.zero).2.2.2.2.1.length : Int) ≤ most)))
def mgL (f : List Seg) (i : Nat) : List Seg := twoOne f i (merge2 (f.getD i segTy.zero) (f.getD (i + 1) segTy.zero))
def mgAt (most : Int) (f : List Seg) : Option Nat := firstFrom (mgP most f) 0 f.length
def mergeP (most : Int) (L : LogS) : LogS := (bif (mgAt most L.1).isSome then mgL L.1 ((mgAt most L.1).getD 0) else L.1, L.2)
def genB (g : Seg) : Bool := decide (g.2.2.2.2.1.length ≤ 500000000) && decide (-9000000000000000000 ≤ g.2.2.2.1) && decide (g.2.2.2.1 ≤ 9000000000000000000)
theorem genB_mgB {g h : Seg} (hg : genB g = true) (hh : genB h = true) : mgB g h = true := by
  unfold genB at hg hh
  unfold mgB
  simp only [Bool.and_eq_true, decide_eq_true_eq] at hg hh ⊢
  omega
theorem all_getD {p : Seg → Bool} {l : List Seg} (h : l.all p = true) {i : Nat} (hi : i < l.length) : p (l.getD i segTy.zero) = true := by
  rw [List.getD_eq_getElem?_getD, List.getElem?_eq_getElem hi]
  exact List.all_eq_true.1 h _ (List.getElem_mem hi)
def meSt (most : Int) (q : Bool) (L : LogS) (i : Nat) : St := ⟨[(0, .ptr 0 (.tl 0) 0), (1, .int .i64 most), (4, .bool q), (5, .fn (.func I.f56) [] []), (6, .int .i64 i)], logO L, 3⟩
theorem me_step {R : Type} (most : Int) (q : Bool) (M : LogS) (h1 : M.1.length < 1000000000) (h2 : M.1.all genB = true) (i : Nat) (hi : i < M.1.length) (K : Ex → St → Option R) :
    roundK (env consR4) H.merge2 1 (LPof []) V.f55_3 L.f55_3 (meSt most q M i) K = bif mgP most M.1 i then K .ret (meSt most true (mgL M.1 i, M.2) i) else K .normal (meSt most q M (i + 1)) := by
  obtain ⟨f, b, n, z, rs⟩ := M
  simp only at h1 h2 hi
  refine (merge_rd _ _ _ _ _ _ _ _ _).trans ?_
  have e1 : IntKind.i64.wrap ((i : Int) + 1) = ((i + 1 : Nat) : Int) := by rw [wrap64 (by omega) (by omega)]; omega
  have e2 : IntKind.i64.wrap ((i : Int) + 2) = ((i + 2 : Nat) : Int) := by rw [wrap64 (by omega) (by omega)]; omega
  simp only
  rw [e1, e2, cond_pos (by omega), cond_pos2 (by omega) (by omega), Int.toNat_natCast, Int.toNat_natCast, cond_pos hi, cond_pos2 (by omega) (by omega)]
  have g1 := all_getD h2 hi
  unfold mgP
  by_cases hj : i + 1 < f.length
  · have g2 := all_getD h2 hj
    have g3 := genB_mgB g1 g2
    have l1 : (f.getD i segTy.zero).2.2.2.2.1.length ≤ 500000000 := by unfold genB at g1; simp only [Bool.and_eq_true, decide_eq_true_eq] at g1; exact g1.1.1
    have l2 : (f.getD (i + 1) segTy.zero).2.2.2.2.1.length ≤ 500000000 := by unfold genB at g2; simp only [Bool.and_eq_true, decide_eq_true_eq] at g2; exact g2.1.1
    have e3 : IntKind.i64.wrap (((f.getD i segTy.zero).2.2.2.2.1.length : Int) + ((f.getD (i + 1) segTy.zero).2.2.2.2.1.length : Int)) = ((f.getD i segTy.zero).2.2.2.2.1.length : Int) + ((f.getD (i + 1) segTy.zero).2.2.2.2.1.length : Int) := wrap64 (by omega) (by omega)
    rw [cond_pos hj, e3, g3, decide_eq_true hj]
    have b1 : decide ((0 : Int) ≤ (i : Int)) = true := decide_eq_true (by omega)
    have b2 : decide (((i + 2 : Nat) : Int) = (i : Int) + (2 : (Pat.int IntKind.i64).den)) = true := decide_eq_true (show ((i + 2 : Nat) : Int) = (i : Int) + (2 : Int) by omega)
    have b3 : decide (((i + 2 : Nat) : Int) ≤ (f.length : Int)) = true := decide_eq_true (by omega)
    have b4 : decide (f.length < 1000000000) = true := decide_eq_true h1
    rw [b1, b2, b3, b4]
    unfold mgL
    cases wholeS (f.getD i segTy.zero) with
    | false => rfl
    | true =>
      cases wholeS (f.getD (i + 1) segTy.zero) with
      | false => rfl
      | true =>
        simp only [Bool.true_and, cond_true, Option.bind_some, Bool.and_self]
        cases decide (((f.getD i segTy.zero).2.2.2.2.1.length : Int) + ((f.getD (i + 1) segTy.zero).2.2.2.2.1.length : Int) ≤ most) <;> rfl
  · rw [cond_neg hj, cond_pos (by omega), decide_eq_false hj]
    cases wholeS (f.getD i segTy.zero) <;> rfl
theorem me_last {R : Type} (most : Int) (q : Bool) (M : LogS) (h1 : M.1.length < 1000000000) (K : Ex → St → Option R) : roundK (env consR4) H.merge2 1 (LPof []) V.f55_3 L.f55_3 (meSt most q M M.1.length) K = K (.exit 0) (meSt most q M M.1.length) := by
  obtain ⟨f, b, n, z, rs⟩ := M
  refine (merge_rd _ _ _ _ _ _ _ _ _).trans ?_
  have e1 : IntKind.i64.wrap ((f.length : Int) + 1) = ((f.length + 1 : Nat) : Int) := by rw [wrap64 (by omega) (by simp only at h1; omega)]; omega
  simp only
  rw [e1, cond_neg (by omega)]
  rfl
abbrev meLC : LoopC := LoopC.of ⟨[(0, .lit (.ptr 0 (.tl 0) 0)), (1, .int .i64), (4, .bool), (5, .fn I.f56 []), (6, .int .i64)], logP⟩
  (fun ⟨⟨_, most, q, _, i, _⟩, ⟨_, ⟨f, ⟨b, n, _, _, _, _, _, _, z, _, _⟩, _⟩, rs, _⟩⟩ => decide (i = (0 : Int)) && decide (List.length f < 1000000000) && List.all f genB)
  fun ⟨⟨_, most, q, _, i, _⟩, ⟨_, ⟨f, ⟨b, n, _, _, _, _, _, _, z, _, _⟩, _⟩, rs, _⟩⟩ => [((mgAt most f).isSome, .ret, meSt most true (mgL f ((mgAt most f).getD 0), b, n, z, rs) ((mgAt most f).getD 0)), (true, .exit 0, meSt most q (f, b, n, z, rs) (List.length f))]
theorem me_lok : LoopOK P0 H.merge2 1 L.f55_3 meLC :=
  loop_ok_of (env_ok consR4_ok) glob0 mixed0 noLoops V.f55_3 (by decide) fun ⟨⟨_, most, q, _, i, _⟩, ⟨_, ⟨f, ⟨b, n, _, _, _, _, _, _, z, _, _⟩, _⟩, rs, _⟩⟩ h hw => by
    simp only [Bool.and_eq_true, decide_eq_true_eq] at h
    obtain ⟨⟨rfl, h2⟩, h3⟩ := h
    exact ⟨_, Eq.trans (search_rounds (S := meSt most q (f, b, n, z, rs)) (T := fun i => meSt most true (mgL f i, b, n, z, rs) i) (p := mgP most f) (n := List.length f) (e1 := .ret) (e2 := .exit 0) (by simp) (by simp) (fun i hi K => me_step most q (f, b, n, z, rs) h2 h3 i hi K) (fun K => me_last most q (f, b, n, z, rs) h2 K) _ (List.length f) 0 (by omega)) search_pick⟩
theorem merge_ev (most : Int) (f : List Seg) (b n z : Int) (rs : List Rec) : evFnM 1 (env consR4) H.merge2 (LPof [(3, meLC)]) F.f55 [.ptr 0 (.tl 0) 0, .int .i64 most] [.arr 1 .bool [] [[.hw 1]], .arr 10 segT f [actC b n z], .log recT rs] (finVM .bool logQ 1 3) = bif decide (f.length < 1000000000) && f.all genB && (mgAt most f).isSome then some (true, (((), ()), ()), (), (), (mgL f ((mgAt most f).getD 0), (b, n, (), (), (), (), (), (), z, (), ()), ()), rs, ()) else bif decide (f.length < 1000000000) && f.all genB && true then some (false, (((), ()), ()), (), (), (f, (b, n, (), (), (), (), (), (), z, (), ()), ()), rs, ()) else none := by kernel_rfl
def caseMerge : VCase := ⟨[.lit (.ptr 0 (.tl 0) 0), .int .i64], logP, .bool, logQ, fun ⟨_, most, _⟩ ⟨_, ⟨f, ⟨b, n, _, _, _, _, _, _, z, _, _⟩, _⟩, rs, _⟩ => [(decide (List.length f < 1000000000) && List.all f genB, ((mgAt most f).isSome, ((((), ()), ()), (), (), ((mergeP most (f, b, n, z, rs)).1, ((mergeP most (f, b, n, z, rs)).2.1, (mergeP most (f, b, n, z, rs)).2.2.1, (), (), (), (), (), (), (mergeP most (f, b, n, z, rs)).2.2.2.1, (), ()), ()), (mergeP most (f, b, n, z, rs)).2.2.2.2, ())))]⟩
theorem merge_ok : caseMerge.e.ok P0 I.f55 := vcase_okM (c := caseMerge) (H := H.merge2) (E := env consR4) (env_ok consR4_ok) glob0 mixed0 G.f55 Bd.f55 1 rfl (by kernel_rfl) (loops_good (tab := [(3, meLC)]) (by kernel_rfl) (fun x hx => by simp at hx; subst hx; exact me_lok)) fun ⟨_, most, _⟩ ⟨_, ⟨f, ⟨b, n, _, _, _, _, _, _, z, _, _⟩, _⟩, rs, _⟩ r h hw1 hw2 => by
  obtain ⟨hc, rfl⟩ := pick_pre h
  refine (merge_ev most f b n z rs).trans ?_
  have hc : (decide (List.length f < 1000000000) && List.all f genB) = true := hc
  rw [hc]
  unfold mergeP
  simp only
  cases (mgAt most f).isSome <;> rfl
end Go.Sim
