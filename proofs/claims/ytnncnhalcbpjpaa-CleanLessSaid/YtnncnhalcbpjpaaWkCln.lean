/-
  WkCln: the walks of package clean and of what its laws call.
-/
import Derived.Test.YtnncnhalcbpjpaaEnvB
import Derived.Test.YtnncnhalcbpjpaaPlCln
namespace Go.Sim
set_option linter.unusedSimpArgs false
set_option linter.unusedVariables false

theorem behind_ev (a b c : Int) : evFn (env []) H.clean_behind (LPof []) F.clean_behind [.int .i64 a, .int .i64 b, .int .i64 c] [] (finK 0) =
  bif decide (a < b) then
    Option.bind
      (bif decide (c < (0 : Int)) then
        some
          (decide
            (IntKind.u64.wrap (IntKind.u64.wrap b - IntKind.u64.wrap a) <
              IntKind.u64.wrap (IntKind.u64.wrap (IntKind.i64.wrap ((0 : Int) - IntKind.i64.wrap (c + (1 : Int)))) + (1 : Int))))
      else some false)
      fun v => some (AV.bool v, [])
  else
    Option.bind
      (bif decide (c < (0 : Int)) then some true else some (decide (IntKind.u64.wrap (IntKind.u64.wrap a - IntKind.u64.wrap b) > IntKind.u64.wrap c)))
      fun v => some (AV.bool v, []) := by kernel_rfl

theorem rev_rd {R : Type} (l : List Rec) (i j : Int) (K : Ex → St → Option R) : roundK (env []) H.slices_Reverse_api_Record_api_Record 1 (LPof []) V.slices_Reverse_api_Record_api_Record_1 L.slices_Reverse_api_Record_api_Record_1 ⟨[(0, .hw 0), (2, .int .i64 i), (3, .int .i64 j)], [(0, .arr 5 recTy l [])], 1⟩ K =
  bif decide (i < j) then
    bif decide ((0 : Int) ≤ j) && decide (j < (↑l.length : Int)) then
      bif decide ((0 : Int) ≤ i) && decide (i < (↑l.length : Int)) then
        bif decide ((0 : Int) ≤ i) && decide (i < (↑l.length : Int)) then
          bif decide ((0 : Int) ≤ j) && decide (j < (↑(l.set i.toNat (l.getD j.toNat recTy.zero)).length : Int)) then
            K Ex.normal
              {
                slots :=
                  [(0, AV.hw 0), (2, AV.int IntKind.i64 (IntKind.i64.wrap (i + (1 : Int)))),
                    (3, AV.int IntKind.i64 (IntKind.i64.wrap (j - (1 : Int))))],
                objs :=
                  [(0, AObj.arr 5 recTy ((l.set i.toNat (l.getD j.toNat recTy.zero)).set j.toNat (l.getD i.toNat recTy.zero)) [])],
                nx := 1 }
          else none
        else none
      else none
    else none
  else
    K (Ex.exit 0)
      { slots := [(0, AV.hw 0), (2, AV.int IntKind.i64 i), (3, AV.int IntKind.i64 j)],
        objs := [(0, AObj.arr 5 recTy l [])], nx := 1 } := by kernel_rfl

theorem big_rd {R : Type} (l : List Rec) (f : Bool) (i : Int) (K : Ex → St → Option R) : roundK (env []) H.cooperagelaw8_Big 0 (LPof []) V.cooperagelaw8_Big_2 L.cooperagelaw8_Big_2 ⟨[(0, .vl recTy l), (2, .bool f), (3, .int .i64 i)], [], 0⟩ K =
  bif decide (i < (↑l.length : Int)) then
    Option.bind
      (bif decide ((0 : Int) ≤ i) && decide (i < (↑l.length : Int)) then
        bif decide ((↑(List.length (l.getD i.toNat recTy.zero).snd.snd.fst) : Int) > (250 : Int)) then some true
        else
          bif decide ((0 : Int) ≤ i) && decide (i < (↑l.length : Int)) then
            some (decide ((↑(List.length (l.getD i.toNat recTy.zero).snd.snd.snd.fst) : Int) > (300 : Int)))
          else none
      else none)
      fun v =>
      bif v then
        K Ex.ret { slots := [(0, AV.vl recTy l), (2, AV.bool true), (3, AV.int IntKind.i64 i)], objs := [], nx := 0 }
      else
        K Ex.normal
          { slots := [(0, AV.vl recTy l), (2, AV.bool f), (3, AV.int IntKind.i64 (IntKind.i64.wrap (i + (1 : Int))))],
            objs := [], nx := 0 }
  else
    K (Ex.exit 0)
      { slots := [(0, AV.vl recTy l), (2, AV.bool f), (3, AV.int IntKind.i64 i)], objs := [], nx := 0 } := by kernel_rfl

theorem same_rd {R : Type} (l m : List Rec) (f : Bool) (i : Int) (K : Ex → St → Option R) : roundK (env []) H.cooperageref1_SameRecords 0 (LPof []) V.cooperageref1_SameRecords_4 L.cooperageref1_SameRecords_4 ⟨[(0, .vl recTy l), (1, .vl recTy m), (4, .bool f), (5, .int .i64 i)], [], 0⟩ K =
  bif decide (i < (↑l.length : Int)) then
    bif decide ((0 : Int) ≤ i) && decide (i < (↑l.length : Int)) then
      bif decide ((0 : Int) ≤ i) && decide (i < (↑m.length : Int)) then
        bif
            !((l.getD i.toNat recTy.zero).fst == (m.getD i.toNat recTy.zero).fst &&
                ((l.getD i.toNat recTy.zero).snd.fst == (m.getD i.toNat recTy.zero).snd.fst &&
                  ((l.getD i.toNat recTy.zero).snd.snd.fst == (m.getD i.toNat recTy.zero).snd.snd.fst &&
                    ((l.getD i.toNat recTy.zero).snd.snd.snd.fst == (m.getD i.toNat recTy.zero).snd.snd.snd.fst &&
                      ((l.getD i.toNat recTy.zero).snd.snd.snd.snd == (m.getD i.toNat recTy.zero).snd.snd.snd.snd && true))))) then
          K Ex.ret
            { slots := [(0, AV.vl recTy l), (1, AV.vl recTy m), (4, AV.bool false), (5, AV.int IntKind.i64 i)],
              objs := [], nx := 0 }
        else
          K Ex.normal
            {
              slots :=
                [(0, AV.vl recTy l), (1, AV.vl recTy m), (4, AV.bool f),
                  (5, AV.int IntKind.i64 (IntKind.i64.wrap (i + (1 : Int))))],
              objs := [], nx := 0 }
      else none
    else none
  else
    K (Ex.exit 0)
      { slots := [(0, AV.vl recTy l), (1, AV.vl recTy m), (4, AV.bool f), (5, AV.int IntKind.i64 i)], objs := [],
        nx := 0 } := by kernel_rfl

theorem rise_rd {R : Type} (l : List Rec) (g : List Int) (out : List Rec) (at' i : Int) (K : Ex → St → Option R) : roundK (env []) H.cooperagelaw13_rise 0 (LPof []) V.cooperagelaw13_rise_4 L.cooperagelaw13_rise_4 ⟨[(0, .vl recTy l), (1, .vl (.int .i64) g), (5, .hw 0), (6, .int .i64 at'), (7, .int .i64 i)], [(0, .arr 5 recTy out [])], 1⟩ K =
  bif decide (i < (↑l.length : Int)) then
    bif decide ((0 : Int) ≤ i) && decide (i < (↑l.length : Int)) then
      bif decide ((0 : Int) ≤ i) && decide (i < (↑g.length : Int)) then
        bif
            decide
              ((out ++
                      [(IntKind.i64.wrap
                            (IntKind.i64.wrap (at' + (1 : Int)) +
                              IntKind.i64.wrap
                                (↑(BitVec.ofInt 64 (g.getD i.toNat (0 : Int)) &&& BitVec.ofInt 64 (3 : Int)).toNat : Int)),
                          (l.getD i.toNat recTy.zero).snd)]).length *
                  56 ≤
                140737488355328) then
          K Ex.normal
            {
              slots :=
                [(0, AV.vl recTy l), (1, AV.vl (Ty.int IntKind.i64) g), (5, AV.hw 0),
                  (6,
                    AV.int IntKind.i64
                      (IntKind.i64.wrap
                        (IntKind.i64.wrap (at' + (1 : Int)) +
                          IntKind.i64.wrap (↑(BitVec.ofInt 64 (g.getD i.toNat (0 : Int)) &&& BitVec.ofInt 64 (3 : Int)).toNat : Int)))),
                  (7, AV.int IntKind.i64 (IntKind.i64.wrap (i + (1 : Int))))],
              objs :=
                [(0,
                    AObj.arr 5 recTy
                      (out ++
                        [(IntKind.i64.wrap
                              (IntKind.i64.wrap (at' + (1 : Int)) +
                                IntKind.i64.wrap
                                  (↑(BitVec.ofInt 64 (g.getD i.toNat (0 : Int)) &&& BitVec.ofInt 64 (3 : Int)).toNat : Int)),
                            (l.getD i.toNat recTy.zero).snd)])
                      [])],
              nx := 1 }
        else none
      else none
    else none
  else
    K (Ex.exit 0)
      {
        slots :=
          [(0, AV.vl recTy l), (1, AV.vl (Ty.int IntKind.i64) g), (5, AV.hw 0), (6, AV.int IntKind.i64 at'),
            (7, AV.int IntKind.i64 i)],
        objs := [(0, AObj.arr 5 recTy out [])], nx := 1 } := by kernel_rfl

theorem behind_val (a b c : Int) (ha : In .i64 a) (hb : In .i64 b) (hc : In .i64 c) : evFn (env []) H.clean_behind (LPof []) F.clean_behind [.int .i64 a, .int .i64 b, .int .i64 c] [] (finK 0) = some (.bool (decide (a - b > c)), []) := by
  rw [behind_ev]
  rw [In.i64] at ha hb hc
  simp only [wrapu64_mod]
  by_cases h1 : a < b
  · rw [cond_pos h1]
    by_cases h2 : c < 0
    · rw [cond_pos h2]
      have e1 : IntKind.i64.wrap (c + (1 : Int)) = c + 1 := wrap64 (by omega) (by omega)
      have e2 : IntKind.i64.wrap ((0 : Int) - (c + 1)) = -c - 1 := by rw [wrap64 (by omega) (by omega)]; omega
      rw [e1, e2]
      simp only [Option.bind_some]
      congr 3
      exact decide_eq_decide.2 (by omega)
    · rw [cond_neg h2]
      have : ¬ (a - b > c) := by omega
      simp [this]
  · rw [cond_neg h1]
    by_cases h2 : c < 0
    · rw [cond_pos h2]
      have : a - b > c := by omega
      simp [this]
    · rw [cond_neg h2]
      simp only [Option.bind_some]
      congr 3
      exact decide_eq_decide.2 (by omega)
theorem env_nil : ∀ x ∈ ([] : List (FuncId × Con)), HoldsC P0 x.1 x.2 := fun x h => by cases h
def caseBeh : PCase := ⟨[.ty (.int .i64), .ty (.int .i64), .ty (.int .i64)], [.bool], fun x => [(true, (decide (x.1 - x.2.1 > x.2.2.1), ()))]⟩
theorem behind_ok : caseBeh.ok P0 I.clean_behind := case_ok (H := H.clean_behind) (E := env []) (env_ok env_nil) rfl mixed0 G.clean_behind Bd.clean_behind (by kernel_rfl) noLoops fun ⟨a, b, c, ()⟩ y h hw => by
  obtain rfl := pick_one h
  exact ⟨[], behind_val a b c hw.1 hw.2.1 hw.2.2.1⟩

/-! ### Reverse -/
def revSt (l : List Rec) (i j : Int) : St := ⟨[(0, .hw 0), (2, .int .i64 i), (3, .int .i64 j)], [(0, .arr 5 recTy l [])], 1⟩
theorem getD_mid (pre post : List Rec) (x d : Rec) (n : Nat) (h : n = pre.length) : (pre ++ x :: post).getD n d = x := by
  subst h; simp
theorem set_mid (pre post : List Rec) (x y : Rec) (n : Nat) (h : n = pre.length) : (pre ++ x :: post).set n y = pre ++ y :: post := by
  subst h; simp
theorem rev_loop {R : Type} (K : Ex → St → Option R) : ∀ (k : Nat) (pre mid post : List Rec), mid.length ≤ k → (pre ++ (mid ++ post)).length ≤ maxL →
    rounds (env []) H.slices_Reverse_api_Record_api_Record 1 (LPof []) V.slices_Reverse_api_Record_api_Record_1 L.slices_Reverse_api_Record_api_Record_1 (k + 1) (revSt (pre ++ (mid ++ post)) pre.length ((pre.length : Int) + mid.length - 1)) K =
      K (.exit 0) (revSt (pre ++ (mid.reverse ++ post)) ((pre.length + mid.length / 2 : Nat) : Int) ((pre.length : Int) + mid.length - 1 - ((mid.length / 2 : Nat) : Int)))
  | k, pre, [], post, hk, hL => by
    rw [rounds_succ']
    unfold revSt
    rw [rev_rd, cond_neg (by simp; omega)]
    simp
  | k, pre, [x], post, hk, hL => by
    rw [rounds_succ']
    unfold revSt
    rw [rev_rd, cond_neg (by simp)]
    simp
  | 0, pre, x :: z :: mid, post, hk, hL => by simp at hk
  | k + 1, pre, x :: z :: mid, post, hk, hL => by
    obtain ⟨mid', y, hm⟩ : ∃ mid' y, z :: mid = mid' ++ [y] := ⟨_, _, (List.dropLast_concat_getLast (List.cons_ne_nil z mid)).symm⟩
    rw [hm] at hk hL ⊢
    unfold maxL at hL
    simp only [List.length_cons, List.length_append, List.length_nil] at hk hL
    have e0 : pre ++ (x :: (mid' ++ [y]) ++ post) = pre ++ x :: (mid' ++ y :: post) := by simp
    have e1 : pre ++ x :: (mid' ++ y :: post) = (pre ++ x :: mid') ++ y :: post := by simp
    have hj : ((pre.length : Int) + ((x :: (mid' ++ [y])).length : Nat) - 1) = ((pre.length + 1 + mid'.length : Nat) : Int) := by simp; omega
    rw [hj, e0, rounds_succ']
    unfold revSt
    rw [rev_rd, cond_pos (by omega), cond_pos2 (by omega) (by simp; omega), cond_pos2 (by omega) (by simp; omega), cond_pos2 (by omega) (by simp; omega), cond_pos2 (by omega) (by simp; omega)]
    simp only [Int.toNat_natCast]
    rw [getD_mid pre (mid' ++ y :: post) x _ _ rfl]
    have g1 : (pre ++ x :: (mid' ++ y :: post)).getD (pre.length + 1 + mid'.length) recTy.zero = y := by
      rw [e1]
      exact getD_mid _ _ _ _ _ (by simp; omega)
    rw [g1, set_mid pre (mid' ++ y :: post) x y _ rfl]
    have g2 : (pre ++ y :: (mid' ++ y :: post)).set (pre.length + 1 + mid'.length) x = (pre ++ [y]) ++ (mid' ++ (x :: post)) := by
      rw [show pre ++ y :: (mid' ++ y :: post) = (pre ++ y :: mid') ++ y :: post by simp, set_mid _ _ _ _ _ (by simp; omega)]
      simp
    rw [g2, wrap64 (by omega) (by omega), wrap64 (by omega) (by omega)]
    have ih := rev_loop K k (pre ++ [y]) mid' (x :: post) (by omega) (by unfold maxL; simp; omega)
    unfold revSt at ih
    have hp : ((pre ++ [y]).length : Int) = (pre.length : Int) + 1 := by simp
    rw [hp] at ih
    rw [show ((pre.length + 1 + mid'.length : Nat) : Int) - 1 = (pre.length : Int) + 1 + mid'.length - 1 by omega]
    refine Eq.trans ih ?_
    have f1 : (pre ++ [y]) ++ (mid'.reverse ++ x :: post) = pre ++ ((x :: (mid' ++ [y])).reverse ++ post) := by simp
    have f2 : (((pre ++ [y]).length + mid'.length / 2 : Nat) : Int) = ((pre.length + (x :: (mid' ++ [y])).length / 2 : Nat) : Int) := by simp; omega
    have f3 : (pre.length : Int) + 1 + mid'.length - 1 - ((mid'.length / 2 : Nat) : Int) = (pre.length : Int) + ((x :: (mid' ++ [y])).length : Nat) - 1 - (((x :: (mid' ++ [y])).length / 2 : Nat) : Int) := by simp; omega
    rw [f1, f2, f3, hj]
def revPat : SPat := ⟨[(0, .lit (.hw 0)), (2, .int .i64), (3, .int .i64)], [.arr 5 recTy []]⟩
def revLC : LoopC := LoopC.of revPat (fun x => decide (x.1.2.1 = (0 : Int)) && decide (x.1.2.2.1 = ((List.length x.2.1.1 : Nat) : Int) - 1))
  fun x => [(true, .exit 0, revSt (List.reverse x.2.1.1) ((List.length x.2.1.1 / 2 : Nat) : Int) (((List.length x.2.1.1 : Nat) : Int) - 1 - ((List.length x.2.1.1 / 2 : Nat) : Int)))]
theorem rev_all (l : List Rec) (h : l.length ≤ maxL) : ∃ n, rounds (env []) H.slices_Reverse_api_Record_api_Record 1 (LPof []) V.slices_Reverse_api_Record_api_Record_1 L.slices_Reverse_api_Record_api_Record_1 n (revSt l 0 ((l.length : Int) - 1)) (fun e s => some (e, s)) =
    some (.exit 0, revSt l.reverse ((l.length / 2 : Nat) : Int) ((l.length : Int) - 1 - ((l.length / 2 : Nat) : Int))) := by
  have := rev_loop (fun e s => some (e, s)) l.length [] l [] (Nat.le_refl _) (by simpa using h)
  simp only [List.nil_append, List.append_nil, List.length_nil, Int.zero_add, Nat.zero_add, Int.natCast_zero] at this
  exact ⟨_, this⟩
theorem rev_lok : LoopOK P0 H.slices_Reverse_api_Record_api_Record 1 L.slices_Reverse_api_Record_api_Record_1 revLC := loop_ok_of (env_ok env_nil) rfl mixed0 noLoops V.slices_Reverse_api_Record_api_Record_1 (by decide) fun ⟨⟨_, i, j, _⟩, ⟨l, _⟩, _⟩ h hw => by
  simp only [Bool.and_eq_true, decide_eq_true_eq] at h
  obtain ⟨h1, h2⟩ := h
  subst h1; subst h2
  exact rev_all l hw.2.1.1.1

theorem rev_ev (l : List Rec) : evFn (env []) H.slices_Reverse_api_Record_api_Record (LPof [(1, revLC)]) F.slices_Reverse_api_Record_api_Record [.hw 0] [.arr 5 recTy l []] (finK 1) =
  bif decide (IntKind.i64.wrap ((↑l.length : Int) - (1 : Int)) = (↑l.length : Int) - (1 : (Pat.int IntKind.i64).den)) && true then
    some (AV.tup [], [AObj.arr 5 recTy l.reverse []])
  else none := by kernel_rfl

def caseRev : ECase := ⟨[.lit (.hw 0)], [.arr 5 recTy []], fun _ y => [(decide (List.length y.1.1 ≤ maxL), .tup [], [.arr 5 recTy (List.reverse y.1.1) []])]⟩
theorem rev_val (l : List Rec) (h : l.length ≤ maxL) : evFn (env []) H.slices_Reverse_api_Record_api_Record (LPof [(1, revLC)]) F.slices_Reverse_api_Record_api_Record [.hw 0] [.arr 5 recTy l []] (finK 1) = some (.tup [], [.arr 5 recTy l.reverse []]) := by
  unfold maxL at h
  rw [rev_ev, wrap64 (by omega) (by omega)]
  simp
theorem rev_ok : caseRev.ok P0 I.slices_Reverse_api_Record_api_Record := ecase_ok (H := H.slices_Reverse_api_Record_api_Record) (E := env []) (env_ok env_nil) rfl mixed0 G.slices_Reverse_api_Record_api_Record Bd.slices_Reverse_api_Record_api_Record (by kernel_rfl) (loops_good (tab := [(1, revLC)]) (by kernel_rfl) (fun x hx => by simp at hx; subst hx; exact rev_lok)) fun ⟨_, ()⟩ ⟨⟨l, ()⟩, ()⟩ r objs' h hw1 hw2 => by
  obtain ⟨hc, hy⟩ := pick_pre h
  cases hy
  exact rev_val l (of_decide_eq_true hc)

/-! ### Keep -/
noncomputable abbrev consK : List (FuncId × Con) := [(I.clean_behind, .pure (pureOf [caseBeh])), (I.slices_Reverse_api_Record_api_Record, .eff (effOf [caseRev]))]
theorem consK_ok : ∀ x ∈ consK, HoldsC P0 x.1 x.2 := by
  intro x hx
  simp at hx
  rcases hx with rfl | rfl
  · exact ⟨pureOf_holds (by simp; exact behind_ok), C.clean_behind⟩
  · exact ⟨fun args objs r objs' h _ => effOf_holds (by simp; exact rev_ok) args objs r objs' h, C.slices_Reverse_api_Record_api_Record⟩

theorem keep_rd {R : Type} (l out : List Rec) (m : Met) (a b c i : Int) (d : Bool) (K : Ex → St → Option R) : roundK (env consK) H.clean_Keep 0 (LPof []) V.clean_Keep_4 L.clean_Keep_4 ⟨[(0, .vl recTy l), (1, .int .i64 a), (2, .int .i64 b), (3, .int .i64 c), (4, .bool d), (11, .hw 0), (12, .mp 1), (13, .int .i64 i)], [(0, .arr 5 recTy out []), (1, .map .str .bool m)], 2⟩ K =
  bif decide (i ≥ (0 : Int)) then
    bif decide ((0 : Int) ≤ i) && decide (i < (↑l.length : Int)) then
      bif decide ((l.getD i.toNat recTy.zero).fst ≥ a) then
        bif decide ((out ++ [l.getD i.toNat recTy.zero]).length * 56 ≤ 140737488355328) then
          K Ex.normal
            {
              slots :=
                [(0, AV.vl recTy l), (1, AV.int IntKind.i64 a), (2, AV.int IntKind.i64 b), (3, AV.int IntKind.i64 c),
                  (4, AV.bool d), (11, AV.hw 0), (12, AV.mp 1),
                  (13, AV.int IntKind.i64 (IntKind.i64.wrap (i - (1 : Int))))],
              objs := [(0, AObj.arr 5 recTy (out ++ [l.getD i.toNat recTy.zero]) []), (1, AObj.map Ty.str Ty.bool m)],
              nx := 2 }
        else none
      else
        Option.bind
          (bif !((mget (kt := Ty.str) (vt := Ty.bool)) (l.getD i.toNat recTy.zero).snd.snd.fst m).getD false then
            bif (l.getD i.toNat recTy.zero).snd.snd.snd.snd then bif d then some !decide (b - (l.getD i.toNat recTy.zero).snd.fst > c) else some true
            else some true
          else some false)
          fun v =>
          bif v then
            bif decide ((out ++ [l.getD i.toNat recTy.zero]).length * 56 ≤ 140737488355328) then
              bif decide (List.length m < 9223372036854775807) then
                K Ex.normal
                  {
                    slots :=
                      [(0, AV.vl recTy l), (1, AV.int IntKind.i64 a), (2, AV.int IntKind.i64 b),
                        (3, AV.int IntKind.i64 c), (4, AV.bool d), (11, AV.hw 0), (12, AV.mp 1),
                        (13, AV.int IntKind.i64 (IntKind.i64.wrap (i - (1 : Int))))],
                    objs :=
                      [(0, AObj.arr 5 recTy (out ++ [l.getD i.toNat recTy.zero]) []),
                        (1, AObj.map Ty.str Ty.bool ((mset (kt := Ty.str) (vt := Ty.bool)) (l.getD i.toNat recTy.zero).snd.snd.fst true m))],
                    nx := 2 }
              else none
            else none
          else
            bif decide (List.length m < 9223372036854775807) then
              K Ex.normal
                {
                  slots :=
                    [(0, AV.vl recTy l), (1, AV.int IntKind.i64 a), (2, AV.int IntKind.i64 b),
                      (3, AV.int IntKind.i64 c), (4, AV.bool d), (11, AV.hw 0), (12, AV.mp 1),
                      (13, AV.int IntKind.i64 (IntKind.i64.wrap (i - (1 : Int))))],
                  objs :=
                    [(0, AObj.arr 5 recTy out []),
                      (1, AObj.map Ty.str Ty.bool ((mset (kt := Ty.str) (vt := Ty.bool)) (l.getD i.toNat recTy.zero).snd.snd.fst true m))],
                  nx := 2 }
            else none
    else none
  else
    K (Ex.exit 0)
      {
        slots :=
          [(0, AV.vl recTy l), (1, AV.int IntKind.i64 a), (2, AV.int IntKind.i64 b), (3, AV.int IntKind.i64 c),
            (4, AV.bool d), (11, AV.hw 0), (12, AV.mp 1), (13, AV.int IntKind.i64 i)],
        objs := [(0, AObj.arr 5 recTy out []), (1, AObj.map Ty.str Ty.bool m)], nx := 2 } := by kernel_rfl

def keepSt (l out : List Rec) (m : Met) (a b c i : Int) (d : Bool) : St := ⟨[(0, .vl recTy l), (1, .int .i64 a), (2, .int .i64 b), (3, .int .i64 c), (4, .bool d), (11, .hw 0), (12, .mp 1), (13, .int .i64 i)], [(0, .arr 5 recTy out []), (1, .map .str .bool m)], 2⟩
theorem getD_dropR (l : List Rec) (n : Nat) (h : n < l.length) : l.drop n = l.getD n recTy.zero :: l.drop (n + 1) := by
  rw [List.getD_eq_getElem?_getD, List.getElem?_eq_getElem h]
  simp
theorem keep_loop (l : List Rec) (a b c : Int) (d : Bool) (hl : l.length ≤ 1048576) {R : Type} (K : Ex → St → Option R) : ∀ (k : Nat), k ≤ l.length →
    rounds (env consK) H.clean_Keep 0 (LPof []) V.clean_Keep_4 L.clean_Keep_4 (k + 1) (keepSt l (keepL a b c d (l.drop k)).reverse (metL a (l.drop k)) a b c ((k : Int) - 1) d) K =
      K (.exit 0) (keepSt l (keepL a b c d l).reverse (metL a l) a b c (-1) d)
  | 0, _ => by
    rw [rounds_succ']
    unfold keepSt
    rw [keep_rd]
    simp
  | k + 1, h => by
    have hlen : k < l.length := by omega
    have ih := keep_loop l a b c d hl K k (by omega)
    rw [getD_dropR l k hlen] at ih
    rw [rounds_succ']
    unfold keepSt at ih ⊢
    have hi : ((k + 1 : Nat) : Int) - 1 = (k : Int) := by omega
    have hkl := keepL_length a b c d (l.drop (k + 1))
    have hml := metL_length a (l.drop (k + 1))
    have hdl : (l.drop (k + 1)).length ≤ 1048576 := by simp; omega
    rw [hi, keep_rd, cond_pos (by omega), cond_pos2 (by omega) (by omega)]
    simp only [Int.toNat_natCast]
    rw [wrap64 (by omega) (by omega)]
    simp only [keepL, metL] at ih
    by_cases h1 : (l.getD k recTy.zero).1 ≥ a
    · rw [cond_pos h1, cond_pos (by simp; omega)]
      simp only [staysR, h1, decide_true, Bool.true_or, cond_true, List.reverse_cons] at ih
      exact ih
    · rw [cond_neg h1]
      have hg : (mget (kt := .str) (vt := .bool) (l.getD k recTy.zero).2.2.1 (metL a (l.drop (k + 1)))).getD false = metIn a (l.drop (k + 1)) (l.getD k recTy.zero).2.2.1 := metL_get a (l.getD k recTy.zero).2.2.1 (l.drop (k + 1))
      have hb : (bif !(mget (kt := .str) (vt := .bool) (l.getD k recTy.zero).2.2.1 (metL a (l.drop (k + 1)))).getD false then bif (l.getD k recTy.zero).2.2.2.2 then bif d then some !decide (b - (l.getD k recTy.zero).2.1 > c) else some true else some true else some false) = some (staysR a b c d (l.getD k recTy.zero) (l.drop (k + 1))) := by
        rw [hg]
        unfold staysR dOld
        simp only [h1, decide_false, Bool.false_or]
        cases metIn a (l.drop (k + 1)) (l.getD k recTy.zero).2.2.1 <;> cases (l.getD k recTy.zero).2.2.2.2 <;> cases d <;> rfl
      rw [hb]
      simp only [Option.bind_some]
      simp only [h1, decide_false, cond_false] at ih
      cases hs : staysR a b c d (l.getD k recTy.zero) (l.drop (k + 1))
      · rw [hs] at ih
        simp only [cond_false] at ih ⊢
        rw [cond_pos (by omega)]
        exact ih
      · rw [hs] at ih
        simp only [cond_true, List.reverse_cons] at ih ⊢
        rw [cond_pos (by simp; omega), cond_pos (by omega)]
        exact ih
def keepPat : SPat := ⟨[(0, .vl recTy), (1, .int .i64), (2, .int .i64), (3, .int .i64), (4, .bool), (11, .lit (.hw 0)), (12, .lit (.mp 1)), (13, .int .i64)], [.arr 5 recTy [], .map .str .bool]⟩
def keepLC : LoopC := LoopC.of keepPat (fun x => decide (List.length x.1.1 ≤ 1048576) && decide (x.1.2.2.2.2.2.2.2.1 = ((List.length x.1.1 : Nat) : Int) - 1) && List.isEmpty x.2.1.1 && List.isEmpty x.2.2.1)
  fun x => [(true, .exit 0, keepSt x.1.1 (keepL x.1.2.1 x.1.2.2.1 x.1.2.2.2.1 x.1.2.2.2.2.1 x.1.1).reverse (metL x.1.2.1 x.1.1) x.1.2.1 x.1.2.2.1 x.1.2.2.2.1 (-1) x.1.2.2.2.2.1)]
theorem keep_lok : LoopOK P0 H.clean_Keep 0 L.clean_Keep_4 keepLC := loop_ok_of (env_ok consK_ok) rfl mixed0 noLoops V.clean_Keep_4 (by decide) fun ⟨⟨l, a, b, c, d, _, _, i, _⟩, ⟨out, _⟩, m, _⟩ h hw => by
  simp only [Bool.and_eq_true, decide_eq_true_eq, List.isEmpty_iff] at h
  obtain ⟨⟨⟨h1, h2⟩, h3⟩, h4⟩ := h
  subst h2; subst h3; subst h4
  have := keep_loop l a b c d h1 (fun e s => some (e, s)) (List.length l) (Nat.le_refl _)
  rw [List.drop_length] at this
  exact ⟨_, this⟩

theorem keep_ev (l : List Rec) (a b c : Int) (d : Bool) : evFn (env consK) H.clean_Keep (LPof [(4, keepLC)]) F.clean_Keep [.vl recTy l, .int .i64 a, .int .i64 b, .int .i64 c, .bool d] [] (finK 0) =
  bif
      decide (l.length ≤ 1048576) &&
              decide (IntKind.i64.wrap ((↑l.length : Int) - (1 : Int)) = (↑l.length : Int) - (1 : (Pat.int IntKind.i64).den)) &&
            true &&
          true &&
        true then
    bif decide ((keepL a b c d l).reverse.length ≤ 9223372036854775807) then some (AV.vl recTy (keepL a b c d l).reverse.reverse, []) else none
  else none := by kernel_rfl

def caseKeep : PCase := ⟨[.ty (.sl recTy), .ty (.int .i64), .ty (.int .i64), .ty (.int .i64), .ty .bool], [.sl recTy], fun x => [(decide (List.length x.1 ≤ 1048576), (keepL x.2.1 x.2.2.1 x.2.2.2.1 x.2.2.2.2.1 x.1, ()))]⟩
theorem keep_val (l : List Rec) (a b c : Int) (d : Bool) (h : l.length ≤ 1048576) : evFn (env consK) H.clean_Keep (LPof [(4, keepLC)]) F.clean_Keep [.vl recTy l, .int .i64 a, .int .i64 b, .int .i64 c, .bool d] [] (finK 0) = some (.vl recTy (keepL a b c d l), []) := by
  have := keepL_length a b c d l
  rw [keep_ev, wrap64 (by omega) (by omega)]
  have h2 : (keepL a b c d l).reverse.length ≤ 9223372036854775807 := by simp; omega
  rw [cond_pos h2]
  simp [h]
theorem keep_ok : caseKeep.ok P0 I.clean_Keep := case_ok (H := H.clean_Keep) (E := env consK) (env_ok consK_ok) rfl mixed0 G.clean_Keep Bd.clean_Keep (by kernel_rfl) (loops_good (tab := [(4, keepLC)]) (by kernel_rfl) (fun x hx => by simp at hx; subst hx; exact keep_lok)) fun ⟨l, a, b, c, d, ()⟩ y h hw => by
  obtain ⟨hc, rfl⟩ := pick_pre h
  exact ⟨[], keep_val l a b c d (of_decide_eq_true hc)⟩

/-! ### Big, SameRecords -/
def bigSt (l : List Rec) (f : Bool) (i : Int) : St := ⟨[(0, .vl recTy l), (2, .bool f), (3, .int .i64 i)], [], 0⟩
def firstB : List Rec → Nat
  | [] => 0
  | r :: rest => cond (bigR r) 0 (firstB rest + 1)
theorem bind_or {R : Type} (a b : Bool) (k : Bool → Option R) : (bif a then some true else some b).bind k = k (a || b) := by cases a <;> rfl
theorem big_loop (l : List Rec) (f : Bool) (hl : l.length ≤ maxL) {R : Type} (K : Ex → St → Option R) : ∀ (m n : Nat), n + m = l.length →
    rounds (env []) H.cooperagelaw8_Big 0 (LPof []) V.cooperagelaw8_Big_2 L.cooperagelaw8_Big_2 (m + 1) (bigSt l f n) K =
      cond ((l.drop n).any bigR) (K .ret (bigSt l true ((n + firstB (l.drop n) : Nat) : Int))) (K (.exit 0) (bigSt l f (l.length : Int)))
  | 0, n, h => by
    have : n = l.length := by omega
    subst this
    rw [rounds_succ']
    unfold bigSt
    rw [big_rd, cond_neg (by omega)]
    simp only [List.drop_length, List.any_nil, cond_false]
  | m + 1, n, h => by
    have hlen : n < l.length := by omega
    unfold maxL at hl
    rw [getD_dropR l n hlen, rounds_succ']
    unfold bigSt
    rw [big_rd, cond_pos (by omega), cond_pos2 (by omega) (by omega), cond_pos2 (by omega) (by omega), bind_or]
    simp only [Int.toNat_natCast, List.any_cons, firstB]
    change (cond (bigR (l.getD n recTy.zero)) _ _) = _
    cases hb : bigR (l.getD n recTy.zero)
    · have ih := big_loop l f hl K m (n + 1) (by omega)
      unfold bigSt at ih
      rw [show ((n + 1 : Nat) : Int) = (n : Int) + 1 by omega, show n + 1 + firstB (l.drop (n + 1)) = n + (firstB (l.drop (n + 1)) + 1) by omega] at ih
      simp only [cond_false, Bool.false_or]
      rw [wrap64 (by omega) (by omega)]
      exact ih
    · simp only [cond_true, Bool.true_or, Nat.add_zero]
def bigPat : SPat := ⟨[(0, .vl recTy), (2, .bool), (3, .int .i64)], []⟩
def bigLC : LoopC := LoopC.of bigPat (fun x => decide (x.1.2.2.1 = (0 : Int)))
  fun x => [(List.any x.1.1 bigR, .ret, bigSt x.1.1 true ((firstB x.1.1 : Nat) : Int)), (true, .exit 0, bigSt x.1.1 x.1.2.1 ((List.length x.1.1 : Nat) : Int))]
theorem big_lok : LoopOK P0 H.cooperagelaw8_Big 0 L.cooperagelaw8_Big_2 bigLC := loop_ok_of (env_ok env_nil) rfl mixed0 noLoops V.cooperagelaw8_Big_2 (by decide) fun ⟨⟨l, f, i, _⟩, _⟩ h hw => by
  obtain rfl := of_decide_eq_true h
  have := big_loop l f hw.1.1.1 (fun e s => some (e, s)) (List.length l) 0 (Nat.zero_add _)
  rw [List.drop_zero, Nat.zero_add] at this
  exact ⟨_, this⟩
theorem big_ev (l : List Rec) : evFn (env []) H.cooperagelaw8_Big (LPof [(2, bigLC)]) F.cooperagelaw8_Big [.vl recTy l] [] (finK 0) =
  bif l.any bigR then some (AV.bool true, []) else some (AV.bool (decide ((↑l.length : Int) > (60 : Int))), []) := by kernel_rfl

def bigL (l : List Rec) : Bool := l.any bigR || decide ((l.length : Int) > 60)
def caseBig : PCase := ⟨[.ty (.sl recTy)], [.bool], fun x => [(true, (bigL x.1, ()))]⟩
theorem big_val (l : List Rec) : evFn (env []) H.cooperagelaw8_Big (LPof [(2, bigLC)]) F.cooperagelaw8_Big [.vl recTy l] [] (finK 0) = some (.bool (bigL l), []) := by
  rw [big_ev]
  unfold bigL
  cases l.any bigR <;> rfl
theorem big_ok : caseBig.ok P0 I.cooperagelaw8_Big := case_ok (H := H.cooperagelaw8_Big) (E := env []) (env_ok env_nil) rfl mixed0 G.cooperagelaw8_Big Bd.cooperagelaw8_Big (by kernel_rfl) (loops_good (tab := [(2, bigLC)]) (by kernel_rfl) (fun x hx => by simp at hx; subst hx; exact big_lok)) fun ⟨l, ()⟩ y h hw => by
  obtain rfl := pick_one h
  exact ⟨[], big_val l⟩

def sameSt (l m : List Rec) (f : Bool) (i : Int) : St := ⟨[(0, .vl recTy l), (1, .vl recTy m), (4, .bool f), (5, .int .i64 i)], [], 0⟩
/-- Where they part. -/
def partI : List Rec → List Rec → Nat
  | a :: l, b :: m => cond (sameR a b) (partI l m + 1) 0
  | _, _ => 0
def alikeL : List Rec → List Rec → Bool
  | a :: l, b :: m => sameR a b && alikeL l m
  | _, _ => true
theorem alikeL_eq : ∀ l m : List Rec, l.length = m.length → alikeL l m = decide (l = m)
  | [], [], _ => by simp [alikeL]
  | [], _ :: _, h => by simp at h
  | _ :: _, [], h => by simp at h
  | a :: l, b :: m, h => by
    simp only [alikeL, alikeL_eq l m (by simpa using h), sameR_eq]
    rw [Bool.eq_iff_iff]
    simp
theorem same_loop (l m : List Rec) (f : Bool) (hl : l.length ≤ maxL) (hm : m.length = l.length) {R : Type} (K : Ex → St → Option R) : ∀ (k n : Nat), n + k = l.length →
    rounds (env []) H.cooperageref1_SameRecords 0 (LPof []) V.cooperageref1_SameRecords_4 L.cooperageref1_SameRecords_4 (k + 1) (sameSt l m f n) K =
      cond (alikeL (l.drop n) (m.drop n)) (K (.exit 0) (sameSt l m f (l.length : Int))) (K .ret (sameSt l m false ((n + partI (l.drop n) (m.drop n) : Nat) : Int)))
  | 0, n, h => by
    have : n = l.length := by omega
    subst this
    rw [rounds_succ']
    unfold sameSt
    rw [same_rd, cond_neg (by omega)]
    simp only [List.drop_length, alikeL, cond_true]
  | k + 1, n, h => by
    have hlen : n < l.length := by omega
    unfold maxL at hl
    rw [getD_dropR l n hlen, getD_dropR m n (by omega), rounds_succ']
    unfold sameSt
    rw [same_rd, cond_pos (by omega), cond_pos2 (by omega) (by omega), cond_pos2 (by omega) (by omega)]
    simp only [Int.toNat_natCast, alikeL, partI]
    change (cond (!sameR (l.getD n recTy.zero) (m.getD n recTy.zero)) _ _) = _
    cases hb : sameR (l.getD n recTy.zero) (m.getD n recTy.zero)
    · simp only [Bool.not_false, cond_true, Bool.false_and, cond_false, Nat.add_zero]
    · have ih := same_loop l m f hl hm K k (n + 1) (by omega)
      unfold sameSt at ih
      rw [show ((n + 1 : Nat) : Int) = (n : Int) + 1 by omega, show n + 1 + partI (l.drop (n + 1)) (m.drop (n + 1)) = n + (partI (l.drop (n + 1)) (m.drop (n + 1)) + 1) by omega] at ih
      simp only [Bool.not_true, cond_false, Bool.true_and, cond_true]
      rw [wrap64 (by omega) (by omega)]
      exact ih
def samePat : SPat := ⟨[(0, .vl recTy), (1, .vl recTy), (4, .bool), (5, .int .i64)], []⟩
def sameLC : LoopC := LoopC.of samePat (fun x => decide (List.length x.1.2.1 = List.length x.1.1) && decide (x.1.2.2.2.1 = (0 : Int)))
  fun x => [(alikeL x.1.1 x.1.2.1, .exit 0, sameSt x.1.1 x.1.2.1 x.1.2.2.1 ((List.length x.1.1 : Nat) : Int)), (true, .ret, sameSt x.1.1 x.1.2.1 false ((partI x.1.1 x.1.2.1 : Nat) : Int))]
theorem same_lok : LoopOK P0 H.cooperageref1_SameRecords 0 L.cooperageref1_SameRecords_4 sameLC := loop_ok_of (env_ok env_nil) rfl mixed0 noLoops V.cooperageref1_SameRecords_4 (by decide) fun ⟨⟨l, m, f, i, _⟩, _⟩ h hw => by
  simp only [Bool.and_eq_true, decide_eq_true_eq] at h
  obtain ⟨h1, h2⟩ := h
  subst h2
  have := same_loop l m f hw.1.1.1 h1 (fun e s => some (e, s)) (List.length l) 0 (Nat.zero_add _)
  rw [List.drop_zero, List.drop_zero, Nat.zero_add] at this
  exact ⟨_, this⟩
theorem same_ev (l m : List Rec) : evFn (env []) H.cooperageref1_SameRecords (LPof [(4, sameLC)]) F.cooperageref1_SameRecords [.vl recTy l, .vl recTy m] [] (finK 0) =
  bif (↑l.length : Int) != (↑m.length : Int) then some (AV.bool false, [])
  else
    bif decide (m.length = l.length) && true && alikeL l m then some (AV.bool true, [])
    else bif decide (m.length = l.length) && true && true then some (AV.bool false, []) else none := by kernel_rfl

def caseSame : PCase := ⟨[.ty (.sl recTy), .ty (.sl recTy)], [.bool], fun x => [(true, (decide (x.1 = x.2.1), ()))]⟩
theorem same_val (l m : List Rec) : evFn (env []) H.cooperageref1_SameRecords (LPof [(4, sameLC)]) F.cooperageref1_SameRecords [.vl recTy l, .vl recTy m] [] (finK 0) = some (.bool (decide (l = m)), []) := by
  rw [same_ev]
  by_cases h : m.length = l.length
  · rw [alikeL_eq l m h.symm]
    have e : ((l.length : Int) != (m.length : Int)) = false := by simp; omega
    have hd : decide (m.length = l.length) = true := decide_eq_true h
    simp only [hd, e, Bool.true_and, cond_false, cond_true]
    cases decide (l = m) <;> rfl
  · have e : ((l.length : Int) != (m.length : Int)) = true := by simp; omega
    have e2 : ¬ l = m := fun e => h (by rw [e])
    simp only [e, e2, cond_true, decide_false]
theorem same_ok : caseSame.ok P0 I.cooperageref1_SameRecords := case_ok (H := H.cooperageref1_SameRecords) (E := env []) (env_ok env_nil) rfl mixed0 G.cooperageref1_SameRecords Bd.cooperageref1_SameRecords (by kernel_rfl) (loops_good (tab := [(4, sameLC)]) (by kernel_rfl) (fun x hx => by simp at hx; subst hx; exact same_lok)) fun ⟨l, m, ()⟩ y h hw => by
  obtain rfl := pick_one h
  exact ⟨[], same_val l m⟩

/-! ### Rising offsets -/
def gapI (x : Int) : Int := IntKind.i64.wrap (↑(BitVec.ofInt 64 x &&& BitVec.ofInt 64 (3 : Int)).toNat : Int)
theorem gapI_range (x : Int) : 0 ≤ gapI x ∧ gapI x ≤ 3 := by
  have h : (BitVec.ofInt 64 x &&& BitVec.ofInt 64 (3 : Int)).toNat ≤ 3 := by
    rw [BitVec.toNat_and]
    exact Nat.le_trans Nat.and_le_right (by decide)
  unfold gapI
  rw [wrap64 (by omega) (by omega)]
  omega
def riseL : Int → List Rec → List Int → List Rec
  | at', r :: l, g :: gs => (at' + 1 + gapI g, r.2) :: riseL (at' + 1 + gapI g) l gs
  | _, _, _ => []
def riseSt (l : List Rec) (g : List Int) (out : List Rec) (at' i : Int) : St := ⟨[(0, .vl recTy l), (1, .vl (.int .i64) g), (5, .hw 0), (6, .int .i64 at'), (7, .int .i64 i)], [(0, .arr 5 recTy out [])], 1⟩
def riseAt : Int → List Rec → List Int → Int
  | at', _ :: l, g :: gs => riseAt (at' + 1 + gapI g) l gs
  | at', _, _ => at'
theorem getD_dropI (l : List Int) (n : Nat) (h : n < l.length) : l.drop n = l.getD n 0 :: l.drop (n + 1) := by
  rw [List.getD_eq_getElem?_getD, List.getElem?_eq_getElem h]
  simp
theorem rise_loop (l : List Rec) (g : List Int) (hl : l.length ≤ 1048576) (hg : l.length ≤ g.length) {R : Type} (K : Ex → St → Option R) : ∀ (m n : Nat) (out : List Rec) (at' : Int), n + m = l.length → out.length = n → 0 ≤ at' → at' ≤ n * 4 →
    rounds (env []) H.cooperagelaw13_rise 0 (LPof []) V.cooperagelaw13_rise_4 L.cooperagelaw13_rise_4 (m + 1) (riseSt l g out at' n) K =
      K (.exit 0) (riseSt l g (out ++ riseL at' (l.drop n) (g.drop n)) (riseAt at' (l.drop n) (g.drop n)) (l.length : Int))
  | 0, n, out, at', h, ho, h0, h1 => by
    have : n = l.length := by omega
    subst this
    rw [rounds_succ']
    unfold riseSt
    rw [rise_rd, cond_neg (by omega)]
    simp only [List.drop_length, riseL, riseAt, List.append_nil]
  | m + 1, n, out, at', h, ho, h0, h1 => by
    have hlen : n < l.length := by omega
    have hr := gapI_range (g.getD n 0)
    rw [getD_dropR l n hlen, getD_dropI g n (by omega), rounds_succ']
    unfold riseSt
    rw [rise_rd, cond_pos (by omega), cond_pos2 (by omega) (by omega), cond_pos2 (by omega) (by omega), cond_pos (by simp only [List.length_append, List.length_cons, List.length_nil]; omega)]
    simp only [Int.toNat_natCast, riseL, riseAt]
    have ih := rise_loop l g hl hg K m (n + 1) (out ++ [(at' + 1 + gapI (g.getD n 0), (l.getD n recTy.zero).2)]) (at' + 1 + gapI (g.getD n 0)) (by omega) (by simp [ho]) (by omega) (by omega)
    have e1 : IntKind.i64.wrap (at' + 1) = at' + 1 := wrap64 (by omega) (by omega)
    have e2 : IntKind.i64.wrap (at' + 1 + gapI (g.getD n 0)) = at' + 1 + gapI (g.getD n 0) := wrap64 (by omega) (by omega)
    have eg : IntKind.i64.wrap (↑(BitVec.ofInt 64 (g.getD n 0) &&& BitVec.ofInt 64 (3 : Int)).toNat : Int) = gapI (g.getD n 0) := rfl
    have en : IntKind.i64.wrap ((n : Int) + 1) = (n : Int) + 1 := wrap64 (by omega) (by omega)
    rw [e1, eg, e2, en]
    unfold riseSt at ih
    rw [List.append_assoc, List.singleton_append, show ((n + 1 : Nat) : Int) = (n : Int) + 1 by omega] at ih
    exact ih
def risePat : SPat := ⟨[(0, .vl recTy), (1, .vl (.int .i64)), (5, .lit (.hw 0)), (6, .int .i64), (7, .int .i64)], [.arr 5 recTy []]⟩
def riseLC : LoopC := LoopC.of risePat (fun x => decide (List.length x.1.1 ≤ 1048576) && decide (List.length x.1.1 ≤ List.length x.1.2.1) && decide (x.1.2.2.2.1 = (0 : Int)) && decide (x.1.2.2.2.2.1 = (0 : Int)) && List.isEmpty x.2.1.1)
  fun x => [(true, .exit 0, riseSt x.1.1 x.1.2.1 (riseL 0 x.1.1 x.1.2.1) (riseAt 0 x.1.1 x.1.2.1) ((List.length x.1.1 : Nat) : Int))]
theorem rise_lok : LoopOK P0 H.cooperagelaw13_rise 0 L.cooperagelaw13_rise_4 riseLC := loop_ok_of (env_ok env_nil) rfl mixed0 noLoops V.cooperagelaw13_rise_4 (by decide) fun ⟨⟨l, g, _, at', i, _⟩, ⟨out, _⟩, _⟩ h hw => by
  simp only [Bool.and_eq_true, decide_eq_true_eq, List.isEmpty_iff] at h
  obtain ⟨⟨⟨⟨h1, h2⟩, h3⟩, h4⟩, h5⟩ := h
  subst h3; subst h4; subst h5
  have := rise_loop l g h1 h2 (fun e s => some (e, s)) (List.length l) 0 [] 0 (Nat.zero_add _) rfl (Int.le_refl _) (Int.le_refl _)
  rw [List.drop_zero, List.drop_zero] at this
  exact ⟨_, this⟩
theorem rise_ev (l : List Rec) (g : List Int) : evFn (env []) H.cooperagelaw13_rise (LPof [(4, riseLC)]) F.cooperagelaw13_rise [.vl recTy l, .vl (.int .i64) g] [] (finK 0) =
  bif decide (l.length ≤ 1048576) && decide (l.length ≤ g.length) && true && true && true && true then
    some (AV.vl recTy (riseL (0 : Int) l g), [])
  else none := by kernel_rfl

theorem riseL_length : ∀ (at' : Int) (l : List Rec) (g : List Int), (riseL at' l g).length ≤ l.length
  | at', r :: l, g :: gs => by have := riseL_length (at' + 1 + gapI g) l gs; simp [riseL]; omega
  | _, [], _ => by simp [riseL]
  | _, _ :: _, [] => by simp [riseL]
def caseRise : PCase := ⟨[.ty (.sl recTy), .ty (.sl (.int .i64))], [.sl recTy], fun x => [(decide (List.length x.1 ≤ 1048576) && decide (List.length x.1 ≤ List.length x.2.1), (riseL 0 x.1 x.2.1, ()))]⟩
theorem rise_val (l : List Rec) (g : List Int) (h : l.length ≤ 1048576) (h2 : l.length ≤ g.length) : evFn (env []) H.cooperagelaw13_rise (LPof [(4, riseLC)]) F.cooperagelaw13_rise [.vl recTy l, .vl (.int .i64) g] [] (finK 0) = some (.vl recTy (riseL 0 l g), []) := by
  rw [rise_ev]
  have := riseL_length 0 l g
  have h3 : (riseL 0 l g).length ≤ 9223372036854775807 := by omega
  simp [h, h2, h3]
theorem rise_ok : caseRise.ok P0 I.cooperagelaw13_rise := case_ok (H := H.cooperagelaw13_rise) (E := env []) (env_ok env_nil) rfl mixed0 G.cooperagelaw13_rise Bd.cooperagelaw13_rise (by kernel_rfl) (loops_good (tab := [(4, riseLC)]) (by kernel_rfl) (fun x hx => by simp at hx; subst hx; exact rise_lok)) fun ⟨l, g, ()⟩ y h hw => by
  obtain ⟨hc, rfl⟩ := pick_pre h
  simp only [Bool.and_eq_true, decide_eq_true_eq] at hc
  exact ⟨[], rise_val l g hc.1 hc.2⟩

noncomputable abbrev consL : List (FuncId × Con) := [(I.clean_Keep, .pure (pureOf [caseKeep]))]
theorem consL_ok : ∀ x ∈ consL, HoldsC P0 x.1 x.2 := by
  intro x hx
  simp at hx
  subst hx
  exact ⟨pureOf_holds (by simp; exact keep_ok), C.clean_Keep⟩
theorem alive13_ev : evFn (env consL) H.cooperagelaw13_alive (LPof []) F.cooperagelaw13_alive [] [] (finK 0) =
  some (AV.bool true, []) := by kernel_rfl

def caseAlive : PCase := ⟨[], [.bool], fun _ => [(true, (true, ()))]⟩
theorem alive_ok : caseAlive.ok P0 I.cooperagelaw13_alive := case_ok (H := H.cooperagelaw13_alive) (E := env consL) (env_ok consL_ok) rfl mixed0 G.cooperagelaw13_alive Bd.cooperagelaw13_alive (by kernel_rfl) noLoops fun ⟨⟩ y h hw => by
  obtain rfl := pick_one h
  exact ⟨[], alive13_ev⟩
noncomputable abbrev consM : List (FuncId × Con) := [(I.clean_Keep, .pure (pureOf [caseKeep])), (I.cooperagelaw13_alive, .pure (pureOf [caseAlive])), (I.cooperagelaw8_Big, .pure (pureOf [caseBig])), (I.cooperagelaw13_rise, .pure (pureOf [caseRise])), (I.cooperageref1_SameRecords, .pure (pureOf [caseSame]))]
theorem consM_ok : ∀ x ∈ consM, HoldsC P0 x.1 x.2 := by
  intro x hx
  simp at hx
  rcases hx with rfl | rfl | rfl | rfl | rfl
  · exact ⟨pureOf_holds (by simp; exact keep_ok), C.clean_Keep⟩
  · exact ⟨pureOf_holds (by simp; exact alive_ok), C.cooperagelaw13_alive⟩
  · exact ⟨pureOf_holds (by simp; exact big_ok), C.cooperagelaw8_Big⟩
  · exact ⟨pureOf_holds (by simp; exact rise_ok), C.cooperagelaw13_rise⟩
  · exact ⟨pureOf_holds (by simp; exact same_ok), C.cooperageref1_SameRecords⟩
theorem again_ev (l : List Rec) (a b c : Int) (d : Bool) : evFn (env consM) H.cooperagelaw13_CleanAgain (LPof []) F.cooperagelaw13_CleanAgain [.vl recTy l, .int .i64 a, .int .i64 b, .int .i64 c, .bool d] [] (finK 0) =
  bif bigL l then some (AV.bool true, [])
  else
    bif decide (l.length ≤ 1048576) then
      Option.bind
        (bif decide ((keepL a b c d l).length ≤ 1048576) then
          bif decide (keepL a b c d (keepL a b c d l) = keepL a b c d l) then some (decide ((↑(keepL a b c d l).length : Int) ≤ (↑l.length : Int)))
          else some false
        else none)
        fun v => some (AV.bool v, [])
    else none := by kernel_rfl

theorem again_val (l : List Rec) (a b c : Int) (d : Bool) : evFn (env consM) H.cooperagelaw13_CleanAgain (LPof []) F.cooperagelaw13_CleanAgain [.vl recTy l, .int .i64 a, .int .i64 b, .int .i64 c, .bool d] [] (finK 0) = some (.bool true, []) := by
  rw [again_ev]
  cases hb : bigL l with
  | true => rfl
  | false =>
    unfold bigL at hb
    simp only [Bool.or_eq_false_iff, decide_eq_false_iff_not] at hb
    have hk := keepL_length a b c d l
    have h1 : decide (l.length ≤ 1048576) = true := decide_eq_true (by omega)
    have h2 : decide ((keepL a b c d l).length ≤ 1048576) = true := decide_eq_true (by omega)
    have h3 : decide (((keepL a b c d l).length : Int) ≤ (l.length : Int)) = true := decide_eq_true (by omega)
    simp only [h1, h2, h3, keep_again, decide_true, cond_true, cond_false, Option.bind_some]
def tyAgain : List Ty := [.sl recTy, .int .i64, .int .i64, .int .i64, .bool]
theorem again_good (x : tysDen tyAgain) (hw : tysWf tyAgain x) : ∃ o, EffGood P0 I.cooperagelaw13_CleanAgain (valsOf tyAgain x) [] (.bool true) o :=
  ⟨[], evFn_sound (H := H.cooperagelaw13_CleanAgain) (E := env consM) (env_ok consM_ok) rfl mixed0 G.cooperagelaw13_CleanAgain (args := valsOf tyAgain x) (by kernel_rfl) Bd.cooperagelaw13_CleanAgain noLoops (again_val x.1 x.2.1 x.2.2.1 x.2.2.2.1 x.2.2.2.2.1)⟩

end Go.Sim
