/-
  WkNam: the walks of package names.
-/
import Derived.Test.YtpkjlefincabiaaDoorEnvN
import Derived.Test.YtpkjlefincabiaaDoorPlNam
namespace Go.Sim
set_option linter.unusedSimpArgs false
set_option linter.unusedVariables false
theorem env_nil : ∀ x ∈ ([] : List (FuncId × Con)), HoldsC P0 x.1 x.2 := fun x h => by cases h

theorem count_rd {R : Type} (s : List UInt8) (pos : Nat) (n : Int) (K : Ex → St → Option R) : roundK (env []) H.names_Count 0 (LPof []) V.names_Count_3 L.names_Count_3 ⟨[(3, .int .i64 n), (5, .it 0)], [(0, .siter s pos)], 1⟩ K =
  bif decide (pos < s.length) then
    K Ex.normal
      { slots := [(3, AV.int IntKind.i64 (IntKind.i64.wrap (n + (1 : Int)))), (5, AV.it 0)],
        objs := [(0, AObj.siter s (pos + (Utf8.decode { data := s.toArray } pos).snd))], nx := 1 }
  else
    K (Ex.exit 0)
      { slots := [(3, AV.int IntKind.i64 n), (5, AV.it 0)], objs := [(0, AObj.siter s pos)], nx := 1 } := by kernel_rfl

def countSt (s : List UInt8) (pos : Nat) (n : Int) : St := ⟨[(3, .int .i64 n), (5, .it 0)], [(0, .siter s pos)], 1⟩
theorem drop_ne {s : List UInt8} {pos : Nat} (h : pos < s.length) : s.drop pos ≠ [] := by
  intro e
  have := congrArg List.length e
  simp at this
  omega
theorem count_loop (s : List UInt8) (hs : s.length ≤ 1048576) {R : Type} (K : Ex → St → Option R) : ∀ (m pos : Nat) (n : Int), s.length ≤ pos + m → pos ≤ s.length → 0 ≤ n → n ≤ pos →
    rounds (env []) H.names_Count 0 (LPof []) V.names_Count_3 L.names_Count_3 (m + 1) (countSt s pos n) K = K (.exit 0) (countSt s s.length (n + (cnt (s.drop pos) : Nat)))
  | 0, pos, n, h, hp, h0, h1 => by
    have : pos = s.length := by omega
    subst this
    rw [rounds_succ']
    unfold countSt
    rw [count_rd, cond_neg (by omega)]
    simp [cnt_nil]
  | m + 1, pos, n, h, hp, h0, h1 => by
    rw [rounds_succ']
    unfold countSt
    by_cases hlt : pos < s.length
    · have hne := drop_ne hlt
      have hw := dec1_pos (s.drop pos)
      have hle := dec1_le _ hne
      rw [List.length_drop] at hle
      rw [count_rd, cond_pos hlt, decode_dec1, wrap64 (by omega) (by omega)]
      have ih := count_loop s hs K m (pos + (dec1 (s.drop pos)).2) (n + 1) (by omega) (by omega) (by omega) (by omega)
      rw [cnt_cons _ hne, List.drop_drop]
      unfold countSt at ih
      rw [show n + ((cnt (s.drop (pos + (dec1 (s.drop pos)).2)) + 1 : Nat) : Int) = n + 1 + ((cnt (s.drop (pos + (dec1 (s.drop pos)).2)) : Nat) : Int) by omega]
      exact ih
    · have : pos = s.length := by omega
      subst this
      rw [count_rd, cond_neg (by omega)]
      simp [cnt_nil]
def countPat : SPat := ⟨[(3, .int .i64), (5, .lit (.it 0))], [.siter]⟩
def countLC : LoopC := LoopC.of countPat (fun x => decide (List.length x.2.1.1 ≤ 1048576) && decide (x.1.1 = (0 : Int)) && decide (x.2.1.2 = 0))
  fun x => [(true, .exit 0, countSt x.2.1.1 (List.length x.2.1.1) ((cnt x.2.1.1 : Nat) : Int))]
theorem count_lok : LoopOK P0 H.names_Count 0 L.names_Count_3 countLC := loop_ok_of (env_ok env_nil) glob0 mixed0 noLoops V.names_Count_3 (by decide) fun ⟨⟨n, _, _⟩, ⟨s, pos⟩, _⟩ h hw => by
  simp only [Bool.and_eq_true, decide_eq_true_eq] at h
  obtain ⟨⟨h1, h2⟩, h3⟩ := h
  subst h2; subst h3
  have := count_loop s h1 (fun e s => some (e, s)) (List.length s) 0 0 (by omega) (Nat.zero_le _) (Int.le_refl _) (Int.le_refl _)
  rw [List.drop_zero, Int.zero_add] at this
  exact ⟨_, this⟩
theorem count_ev (s : List UInt8) : evFn (env []) H.names_Count (LPof [(3, countLC)]) F.names_Count [.str s] [] (finK 0) =
  bif decide (s.length ≤ 1048576) && true && true && true then some (AV.int IntKind.i64 (↑(cnt s) : Int), []) else none := by kernel_rfl

def caseCount : PCase := ⟨[.ty .str], [.int .i64], fun x => [(decide (List.length x.1 ≤ 1048576), (((cnt x.1 : Nat) : Int), ()))]⟩
theorem count_val (s : List UInt8) (h : s.length ≤ 1048576) : evFn (env []) H.names_Count (LPof [(3, countLC)]) F.names_Count [.str s] [] (finK 0) = some (.int .i64 ((cnt s : Nat) : Int), []) := by
  rw [count_ev]
  simp [h]
theorem count_ok : caseCount.ok P0 I.names_Count := case_ok (H := H.names_Count) (E := env []) (env_ok env_nil) glob0 mixed0 G.names_Count Bd.names_Count (by kernel_rfl) (loops_good (tab := [(3, countLC)]) (by kernel_rfl) (fun x hx => by simp at hx; subst hx; exact count_lok)) fun ⟨s, ()⟩ y h hw => by
  obtain ⟨hc, rfl⟩ := pick_pre h
  exact ⟨[], count_val s (of_decide_eq_true hc)⟩

theorem cut_rd {R : Type} (s t : List UInt8) (pos : Nat) (n : Int) (K : Ex → St → Option R) : roundK (env []) H.names_Cut 0 (LPof []) V.names_Cut_2 L.names_Cut_2 ⟨[(0, .str s), (1, .int .i64 n), (4, .str t), (7, .it 0)], [(0, .siter s pos)], 1⟩ K =
  bif decide (pos < s.length) then
    bif decide (n ≤ (0 : Int)) then
      bif decide ((0 : Int) ≤ (↑pos : Int)) && decide ((↑pos : Int) ≤ (↑s.length : Int)) then
        K Ex.ret
          { slots := [(0, AV.str s), (1, AV.int IntKind.i64 n), (4, AV.str (List.take pos s)), (7, AV.it 0)],
            objs := [(0, AObj.siter s (pos + (Utf8.decode { data := s.toArray } pos).snd))], nx := 1 }
      else none
    else
      K Ex.normal
        {
          slots :=
            [(0, AV.str s), (1, AV.int IntKind.i64 (IntKind.i64.wrap (n - (1 : Int)))), (4, AV.str t),
              (7, AV.it 0)],
          objs := [(0, AObj.siter s (pos + (Utf8.decode { data := s.toArray } pos).snd))], nx := 1 }
  else
    K (Ex.exit 0)
      { slots := [(0, AV.str s), (1, AV.int IntKind.i64 n), (4, AV.str t), (7, AV.it 0)],
        objs := [(0, AObj.siter s pos)], nx := 1 } := by kernel_rfl

def cutSt (s t : List UInt8) (pos : Nat) (n : Int) : St := ⟨[(0, .str s), (1, .int .i64 n), (4, .str t), (7, .it 0)], [(0, .siter s pos)], 1⟩
/-- Where the loop of Cut ends. -/
def cutEnd (s t : List UInt8) (pos : Nat) (n : Int) {R : Type} (K : Ex → St → Option R) : Option R :=
  bif decide (pos + cutP (s.drop pos) n.toNat < s.length) then K .ret (cutSt s (s.take (pos + cutP (s.drop pos) n.toNat)) (pos + cutP (s.drop pos) n.toNat + (dec1 (s.drop (pos + cutP (s.drop pos) n.toNat))).2) (n - (n.toNat : Int)))
  else K (.exit 0) (cutSt s t s.length (n - ((cnt (s.drop pos) : Nat) : Int)))
theorem cut_loop (s t : List UInt8) (hs : s.length ≤ 1048576) {R : Type} (K : Ex → St → Option R) : ∀ (m pos : Nat) (n : Int), s.length ≤ pos + m → pos ≤ s.length → In .i64 n →
    rounds (env []) H.names_Cut 0 (LPof []) V.names_Cut_2 L.names_Cut_2 (m + 1) (cutSt s t pos n) K = cutEnd s t pos n K
  | m, pos, n, h, hp, hn => by
    rw [rounds_succ']
    unfold cutSt
    by_cases hlt : pos < s.length
    · have hne := drop_ne hlt
      have hw := dec1_pos (s.drop pos)
      have hle := dec1_le _ hne
      rw [List.length_drop] at hle
      rw [cut_rd, cond_pos hlt, decode_dec1]
      by_cases h0 : n ≤ 0
      · rw [cond_pos h0, cond_pos2 (by omega) (by omega)]
        have hz : n.toNat = 0 := by omega
        unfold cutEnd
        simp only [hz, cutP, Nat.add_zero, hlt, decide_true, cond_true]
        rw [show n - ((0 : Nat) : Int) = n by omega]
        rfl
      · rw [cond_neg h0]
        rw [In.i64] at hn
        obtain ⟨k, hk⟩ : ∃ k, n.toNat = k + 1 := ⟨n.toNat - 1, by omega⟩
        have hk1 : (n - 1).toNat = k := by omega
        obtain ⟨m, rfl⟩ : ∃ j, m = j + 1 := ⟨m - 1, by omega⟩
        have ih := cut_loop s t hs K m (pos + (dec1 (s.drop pos)).2) (n - 1) (by omega) (by omega) (by rw [In.i64]; omega)
        have hcut : cutP (s.drop pos) n.toNat = (dec1 (s.drop pos)).2 + cutP (s.drop (pos + (dec1 (s.drop pos)).2)) k := by
          rw [hk]
          simp only [cutP, hne, if_false]
          rw [List.drop_drop]
        have e1 : cutEnd s t (pos + (dec1 (s.drop pos)).2) (n - 1) K = cutEnd s t pos n K := by
          unfold cutEnd
          rw [hcut, hk1, cnt_cons _ hne, List.drop_drop, Nat.add_assoc]
          rw [show n - 1 - ((k : Nat) : Int) = n - ((n.toNat : Nat) : Int) by omega, show n - 1 - ((cnt (s.drop (pos + (dec1 (s.drop pos)).2)) : Nat) : Int) = n - ((cnt (s.drop (pos + (dec1 (s.drop pos)).2)) + 1 : Nat) : Int) by omega]
        rw [← e1, wrap64 (by omega) (by omega)]
        exact ih
    · have : pos = s.length := by omega
      subst this
      rw [cut_rd, cond_neg (by omega)]
      unfold cutEnd
      have hz : cutP [] n.toNat = 0 := by have := cutP_le n.toNat []; simpa using this
      simp [hz, cnt_nil]
      rfl
def cutPat : SPat := ⟨[(0, .str), (1, .int .i64), (4, .str), (7, .lit (.it 0))], [.siter]⟩
def cutLC : LoopC := LoopC.of cutPat (fun x => decide (List.length x.1.1 ≤ 1048576) && decide (x.2.1.1 = x.1.1) && decide (x.2.1.2 = 0))
  fun x => [(decide (cutP x.1.1 (Int.toNat x.1.2.1) < List.length x.1.1), .ret, cutSt x.1.1 (List.take (cutP x.1.1 (Int.toNat x.1.2.1)) x.1.1) (cutP x.1.1 (Int.toNat x.1.2.1) + (dec1 (List.drop (cutP x.1.1 (Int.toNat x.1.2.1)) x.1.1)).2) (x.1.2.1 - ((Int.toNat x.1.2.1 : Nat) : Int))),
    (true, .exit 0, cutSt x.1.1 x.1.2.2.1 (List.length x.1.1) (x.1.2.1 - ((cnt x.1.1 : Nat) : Int)))]
theorem cut_lok : LoopOK P0 H.names_Cut 0 L.names_Cut_2 cutLC := loop_ok_of (env_ok env_nil) glob0 mixed0 noLoops V.names_Cut_2 (by decide) fun ⟨⟨s, n, t, _, _⟩, ⟨s2, pos⟩, _⟩ h hw => by
  simp only [Bool.and_eq_true, decide_eq_true_eq] at h
  obtain ⟨⟨h1, h2⟩, h3⟩ := h
  subst h2; subst h3
  have := cut_loop s2 t h1 (fun e s => some (e, s)) (List.length s2) 0 n (by omega) (Nat.zero_le _) hw.1.2.1
  refine ⟨_, Eq.trans this ?_⟩
  unfold cutEnd
  simp only [pick, List.drop_zero, Nat.zero_add]
  rfl
theorem cut_ev (s : List UInt8) (n : Int) : evFn (env []) H.names_Cut (LPof [(2, cutLC)]) F.names_Cut [.str s, .int .i64 n] [] (finK 0) =
  bif decide (s.length ≤ 1048576) && decide (s = s) && true && decide (cutP s n.toNat < s.length) then
    some (AV.str (List.take (cutP s n.toNat) s), [])
  else bif decide (s.length ≤ 1048576) && decide (s = s) && true && true then some (AV.str s, []) else none := by kernel_rfl

def caseCut : PCase := ⟨[.ty .str, .ty (.int .i64)], [.str], fun x => [(decide (List.length x.1 ≤ 1048576), (List.take (cutP x.1 (Int.toNat x.2.1)) x.1, ()))]⟩
theorem cut_val (s : List UInt8) (n : Int) (h : s.length ≤ 1048576) : evFn (env []) H.names_Cut (LPof [(2, cutLC)]) F.names_Cut [.str s, .int .i64 n] [] (finK 0) = some (.str (s.take (cutP s n.toNat)), []) := by
  rw [cut_ev]
  have hle := cutP_le n.toNat s
  by_cases hc : cutP s n.toNat < s.length
  · simp [h, hc]
  · have : cutP s n.toNat = s.length := by omega
    simp [h, this]
theorem cut_ok : caseCut.ok P0 I.names_Cut := case_ok (H := H.names_Cut) (E := env []) (env_ok env_nil) glob0 mixed0 G.names_Cut Bd.names_Cut (by kernel_rfl) (loops_good (tab := [(2, cutLC)]) (by kernel_rfl) (fun x hx => by simp at hx; subst hx; exact cut_lok)) fun ⟨s, n, ()⟩ y h hw => by
  obtain ⟨hc, rfl⟩ := pick_pre h
  exact ⟨[], cut_val s n (of_decide_eq_true hc)⟩

theorem among_rd {R : Type} (s : List UInt8) (pos : Nat) (c : Int) (f : Bool) (K : Ex → St → Option R) : roundK (env []) H.names_among 0 (LPof []) V.names_among_2 L.names_among_2 ⟨[(1, .int .i32 c), (4, .bool f), (8, .it 0)], [(0, .siter s pos)], 1⟩ K =
  bif decide (pos < s.length) then
    bif (↑(Utf8.decode { data := s.toArray } pos).fst : Int) == c then
      K Ex.ret
        { slots := [(1, AV.int IntKind.i32 c), (4, AV.bool true), (8, AV.it 0)],
          objs := [(0, AObj.siter s (pos + (Utf8.decode { data := s.toArray } pos).snd))], nx := 1 }
    else
      K Ex.normal
        { slots := [(1, AV.int IntKind.i32 c), (4, AV.bool f), (8, AV.it 0)],
          objs := [(0, AObj.siter s (pos + (Utf8.decode { data := s.toArray } pos).snd))], nx := 1 }
  else
    K (Ex.exit 0)
      { slots := [(1, AV.int IntKind.i32 c), (4, AV.bool f), (8, AV.it 0)], objs := [(0, AObj.siter s pos)],
        nx := 1 } := by kernel_rfl

def amongSt (s : List UInt8) (pos : Nat) (c : Int) (f : Bool) : St := ⟨[(1, .int .i32 c), (4, .bool f), (8, .it 0)], [(0, .siter s pos)], 1⟩
theorem among_loop (s : List UInt8) (c : Int) (f : Bool) {R : Type} (K : Ex → St → Option R) : ∀ (m pos : Nat), s.length ≤ pos + m → pos ≤ s.length →
    rounds (env []) H.names_among 0 (LPof []) V.names_among_2 L.names_among_2 (m + 1) (amongSt s pos c f) K =
      match findF m (s.drop pos) c with
      | some k => K .ret (amongSt s (pos + k) c true)
      | none => K (.exit 0) (amongSt s s.length c f)
  | 0, pos, h, hp => by
    have : pos = s.length := by omega
    subst this
    rw [rounds_succ']
    unfold amongSt
    rw [among_rd, cond_neg (by omega)]
    rfl
  | m + 1, pos, h, hp => by
    rw [rounds_succ']
    unfold amongSt
    by_cases hlt : pos < s.length
    · have hne := drop_ne hlt
      have hw := dec1_pos (s.drop pos)
      have hle := dec1_le _ hne
      rw [List.length_drop] at hle
      have hem : (s.drop pos).isEmpty = false := by cases hd : s.drop pos with | nil => exact absurd hd hne | cons a b => rfl
      rw [among_rd, cond_pos hlt, decode_dec1]
      simp only [findF, hem, cond_false]
      cases hc : ((((dec1 (s.drop pos)).1 : Nat) : Int) == c)
      · have ih := among_loop s c f K m (pos + (dec1 (s.drop pos)).2) (by omega) (by omega)
        simp only [cond_false]
        rw [List.drop_drop]
        refine Eq.trans ih ?_
        cases findF m (s.drop (pos + (dec1 (s.drop pos)).2)) c with
        | none => rfl
        | some k => simp only [Option.map_some, Nat.add_assoc]; rfl
      · rfl
    · have : pos = s.length := by omega
      subst this
      rw [among_rd, cond_neg (by omega)]
      simp [findF]
def amongPat : SPat := ⟨[(1, .int .i32), (4, .bool), (8, .lit (.it 0))], [.siter]⟩
def amongLC : LoopC := LoopC.of amongPat (fun x => decide (x.2.1.2 = 0))
  fun x => [((findF (List.length x.2.1.1) x.2.1.1 x.1.1).isSome, .ret, amongSt x.2.1.1 ((findF (List.length x.2.1.1) x.2.1.1 x.1.1).getD 0) x.1.1 true), (true, .exit 0, amongSt x.2.1.1 (List.length x.2.1.1) x.1.1 x.1.2.1)]
theorem among_lok : LoopOK P0 H.names_among 0 L.names_among_2 amongLC := loop_ok_of (env_ok env_nil) glob0 mixed0 noLoops V.names_among_2 (by decide) fun ⟨⟨c, f, _, _⟩, ⟨s, pos⟩, _⟩ h hw => by
  obtain rfl := of_decide_eq_true h
  have := among_loop s c f (fun e s => some (e, s)) (List.length s) 0 (by omega) (Nat.zero_le _)
  rw [List.drop_zero] at this
  refine ⟨_, Eq.trans this ?_⟩
  simp only [pick]
  cases findF s.length s c with
  | none => rfl
  | some k => simp only [Nat.zero_add]; rfl
theorem among_ev (s : List UInt8) (c : Int) : evFn (env []) H.names_among (LPof [(2, amongLC)]) F.names_among [.str s, .int .i32 c] [] (finK 0) =
  bif (findF s.length s c).isSome then some (AV.bool true, []) else some (AV.bool false, []) := by kernel_rfl

def caseAmong : PCase := ⟨[.ty .str, .ty (.int .i32)], [.bool], fun x => [(true, (hasR x.1 x.2.1, ()))]⟩
theorem among_val (s : List UInt8) (c : Int) : evFn (env []) H.names_among (LPof [(2, amongLC)]) F.names_among [.str s, .int .i32 c] [] (finK 0) = some (.bool (hasR s c), []) := by
  rw [among_ev]
  unfold hasR
  cases (findF s.length s c).isSome <;> rfl
theorem among_ok : caseAmong.ok P0 I.names_among := case_ok (H := H.names_among) (E := env []) (env_ok env_nil) glob0 mixed0 G.names_among Bd.names_among (by kernel_rfl) (loops_good (tab := [(2, amongLC)]) (by kernel_rfl) (fun x hx => by simp at hx; subst hx; exact among_lok)) fun ⟨s, c, ()⟩ y h hw => by
  obtain rfl := pick_one h
  exact ⟨[], among_val s c⟩
noncomputable abbrev consM1 : List (FuncId × Con) := [(I.names_among, .pure (pureOf [caseAmong]))]
theorem consM1_ok : ∀ x ∈ consM1, HoldsC P0 x.1 x.2 := by
  intro x hx
  simp at hx
  subst hx
  exact ⟨pureOf_holds (by simp; exact among_ok), C.names_among⟩
theorem may_ev (c : Int) : evFn (env consM1) H.names_may (LPof []) F.names_may [.int .i32 c] [] (finK 0) =
  Option.bind
    (bif
        hasR
          [(97 : UInt8), (98 : UInt8), (99 : UInt8), (100 : UInt8), (101 : UInt8), (102 : UInt8), (103 : UInt8), (104 : UInt8), (105 : UInt8),
            (106 : UInt8), (107 : UInt8), (108 : UInt8), (109 : UInt8), (110 : UInt8), (111 : UInt8), (112 : UInt8), (113 : UInt8), (114 : UInt8),
            (115 : UInt8), (116 : UInt8), (117 : UInt8), (118 : UInt8), (119 : UInt8), (120 : UInt8), (121 : UInt8), (122 : UInt8), (48 : UInt8),
            (49 : UInt8), (50 : UInt8), (51 : UInt8), (52 : UInt8), (53 : UInt8), (54 : UInt8), (55 : UInt8), (56 : UInt8), (57 : UInt8)]
          c then
      some true
    else
      bif hasR [(45 : UInt8), (95 : UInt8), (46 : UInt8)] c then some true
      else
        bif decide (c ≥ (161 : Int)) then
          bif decide (c ≤ (65535 : Int)) then bif c != (173 : Int) then some (c != (65279 : Int)) else some false else some false
        else some false)
    fun v => some (AV.bool v, []) := by kernel_rfl

def caseMay : PCase := ⟨[.ty (.int .i32)], [.bool], fun x => [(true, (mayR x.1, ()))]⟩
theorem may_val (c : Int) : evFn (env consM1) H.names_may (LPof []) F.names_may [.int .i32 c] [] (finK 0) = some (.bool (mayR c), []) := by
  rw [may_ev]
  unfold mayR lettersL signsL
  generalize hasR _ c = a
  generalize hasR _ c = b
  cases a <;> cases b <;> cases decide (c ≥ 161) <;> cases decide (c ≤ 65535) <;> cases c != 173 <;> rfl
theorem may_ok : caseMay.ok P0 I.names_may := case_ok (H := H.names_may) (E := env consM1) (env_ok consM1_ok) glob0 mixed0 G.names_may Bd.names_may (by kernel_rfl) noLoops fun ⟨c, ()⟩ y h hw => by
  obtain rfl := pick_one h
  exact ⟨[], may_val c⟩
/-! ### The example -/
def ordersL : List UInt8 := [111, 114, 100, 101, 114, 115, 45, 49]
def caseUtfO : PCase := ⟨[.ty .str], [.bool], fun x => [(decide (x.1 = ordersL), (true, ()))]⟩
theorem utfO_ok : caseUtfO.ok P0 I.unicode_utf8_ValidString := case_ok (H := H.unicode_utf8_ValidString) (E := env []) (env_ok env_nil) glob0 mixed0 G.unicode_utf8_ValidString Bd.unicode_utf8_ValidString (by kernel_rfl)
  (loopsF_good (env_ok env_nil) glob0 mixed0 (by kernel_rfl) 20) fun ⟨s, ()⟩ y h hw => by
  obtain ⟨hc, rfl⟩ := pick_pre h
  obtain rfl := of_decide_eq_true hc
  exact ⟨[], by kernel_rfl⟩
noncomputable abbrev consV : List (FuncId × Con) := [(I.names_among, .pure (pureOf [caseAmong])), (I.names_may, .pure (pureOf [caseMay])), (I.unicode_utf8_ValidString, .pure (pureOf [caseUtfO]))]
theorem consV_ok : ∀ x ∈ consV, HoldsC P0 x.1 x.2 := by
  intro x hx
  simp at hx
  rcases hx with rfl | rfl | rfl
  · exact ⟨pureOf_holds (by simp; exact among_ok), C.names_among⟩
  · exact ⟨pureOf_holds (by simp; exact may_ok), C.names_may⟩
  · exact ⟨pureOf_holds (by simp; exact utfO_ok), C.unicode_utf8_ValidString⟩
def caseValO : PCase := ⟨[.ty .str], [.bool], fun x => [(decide (x.1 = ordersL), (true, ()))]⟩
theorem valO_ok : caseValO.ok P0 I.names_Valid := case_ok (H := H.names_Valid) (E := env consV) (env_ok consV_ok) glob0 mixed0 G.names_Valid Bd.names_Valid (by kernel_rfl)
  (loopsF_good (env_ok consV_ok) glob0 mixed0 (by kernel_rfl) 20) fun ⟨s, ()⟩ y h hw => by
  obtain ⟨hc, rfl⟩ := pick_pre h
  obtain rfl := of_decide_eq_true hc
  exact ⟨[], by kernel_rfl⟩

noncomputable abbrev consA : List (FuncId × Con) := [(I.names_Valid, .pure (pureOf [caseValO])), (I.names_Count, .pure (pureOf [caseCount]))]
theorem consA_ok : ∀ x ∈ consA, HoldsC P0 x.1 x.2 := by
  intro x hx
  simp at hx
  rcases hx with rfl | rfl
  · exact ⟨pureOf_holds (by simp; exact valO_ok), C.names_Valid⟩
  · exact ⟨pureOf_holds (by simp; exact count_ok), C.names_Count⟩
theorem alive_ev : evFn (env consA) H.cooperagelaw3_alive (LPof []) F.cooperagelaw3_alive [] [] (finK 0) =
  some (AV.bool true, []) := by kernel_rfl

def caseAlive : PCase := ⟨[], [.bool], fun _ => [(true, (true, ()))]⟩
theorem alive_ok : caseAlive.ok P0 I.cooperagelaw3_alive := case_ok (H := H.cooperagelaw3_alive) (E := env consA) (env_ok consA_ok) glob0 mixed0 G.cooperagelaw3_alive Bd.cooperagelaw3_alive (by kernel_rfl) noLoops fun ⟨⟩ y h hw => by
  obtain rfl := pick_one h
  exact ⟨[], alive_ev⟩
noncomputable abbrev consC : List (FuncId × Con) := [(I.cooperagelaw3_alive, .pure (pureOf [caseAlive])), (I.names_Count, .pure (pureOf [caseCount])), (I.names_Cut, .pure (pureOf [caseCut]))]
theorem ncut_ev (s : List UInt8) (n : Int) : evFn (env consC) H.cooperagelaw3_NamesCut (LPof []) F.cooperagelaw3_NamesCut [.str s, .int .i64 n] [] (finK 0) =
  Option.bind (bif decide ((↑s.length : Int) > (300 : Int)) then some true else some (decide (n < (0 : Int)))) fun v =>
    bif v then some (AV.bool true, [])
    else
      bif decide (s.length ≤ 1048576) then
        Option.bind
          (bif decide ((↑(List.take (cutP s n.toNat) s).length : Int) > (↑s.length : Int)) then some true
          else
            bif
                decide ((0 : Int) ≤ (↑(List.take (cutP s n.toNat) s).length : Int)) &&
                  decide ((↑(List.take (cutP s n.toNat) s).length : Int) ≤ (↑s.length : Int)) then
              some !List.take (List.take (cutP s n.toNat) s).length s == List.take (cutP s n.toNat) s
            else none)
          fun v =>
          bif v then some (AV.bool false, [])
          else
            bif decide ((List.take (cutP s n.toNat) s).length ≤ 1048576) then
              bif decide (s.length ≤ 1048576) then
                bif decide ((↑(cnt s) : Int) < n) then
                  Option.bind
                    (bif (↑(cnt (List.take (cutP s n.toNat) s)) : Int) == (↑(cnt s) : Int) then
                      bif
                          decide ((0 : Int) ≤ (↑(List.take (cutP s n.toNat) s).length : Int)) &&
                            decide ((↑(List.take (cutP s n.toNat) s).length : Int) ≤ (↑s.length : Int)) then
                        bif decide ((List.drop (List.take (cutP s n.toNat) s).length s).length ≤ 1048576) then
                          bif
                              IntKind.i64.wrap
                                  ((↑(cnt (List.take (cutP s n.toNat) s)) : Int) +
                                    (↑(cnt (List.drop (List.take (cutP s n.toNat) s).length s)) : Int)) ==
                                (↑(cnt s) : Int) then
                            bif decide ((↑(cnt (List.take (cutP s n.toNat) s)) : Int) < n) then some true
                            else
                              bif decide ((List.take (cutP s n.toNat) s).length ≤ 1048576) then
                                some
                                  (List.take (cutP (List.take (cutP s n.toNat) s) n.toNat) (List.take (cutP s n.toNat) s) ==
                                    List.take (cutP s n.toNat) s)
                              else none
                          else some false
                        else none
                      else none
                    else some false)
                    fun v => some (AV.bool v, [])
                else
                  Option.bind
                    (bif (↑(cnt (List.take (cutP s n.toNat) s)) : Int) == n then
                      bif
                          decide ((0 : Int) ≤ (↑(List.take (cutP s n.toNat) s).length : Int)) &&
                            decide ((↑(List.take (cutP s n.toNat) s).length : Int) ≤ (↑s.length : Int)) then
                        bif decide ((List.drop (List.take (cutP s n.toNat) s).length s).length ≤ 1048576) then
                          bif
                              IntKind.i64.wrap
                                  ((↑(cnt (List.take (cutP s n.toNat) s)) : Int) +
                                    (↑(cnt (List.drop (List.take (cutP s n.toNat) s).length s)) : Int)) ==
                                (↑(cnt s) : Int) then
                            bif decide ((↑(cnt (List.take (cutP s n.toNat) s)) : Int) < n) then some true
                            else
                              bif decide ((List.take (cutP s n.toNat) s).length ≤ 1048576) then
                                some
                                  (List.take (cutP (List.take (cutP s n.toNat) s) n.toNat) (List.take (cutP s n.toNat) s) ==
                                    List.take (cutP s n.toNat) s)
                              else none
                          else some false
                        else none
                      else none
                    else some false)
                    fun v => some (AV.bool v, [])
              else none
            else none
      else none := by kernel_rfl

theorem consC_ok : ∀ x ∈ consC, HoldsC P0 x.1 x.2 := by
  intro x hx
  simp at hx
  rcases hx with rfl | rfl | rfl
  · exact ⟨pureOf_holds (by simp; exact alive_ok), C.cooperagelaw3_alive⟩
  · exact ⟨pureOf_holds (by simp; exact count_ok), C.names_Count⟩
  · exact ⟨pureOf_holds (by simp; exact cut_ok), C.names_Cut⟩
theorem ncut_val (s : List UInt8) (n : Int) : evFn (env consC) H.cooperagelaw3_NamesCut (LPof []) F.cooperagelaw3_NamesCut [.str s, .int .i64 n] [] (finK 0) = some (.bool true, []) := by
  rw [ncut_ev]
  by_cases h1 : (s.length : Int) > 300
  · simp only [h1, decide_true, cond_true, Option.bind_some]
  · by_cases h2 : n < 0
    · simp only [h1, h2, decide_true, decide_false, cond_true, cond_false, Option.bind_some]
    · have hc := cutP_le n.toNat s
      have hp : (s.take (cutP s n.toNat)).length = cutP s n.toNat := by rw [List.length_take]; omega
      obtain ⟨i1, i2⟩ := cnt_split n.toNat s
      have hcl := cnt_le s.length s (Nat.le_refl _)
      have hag := cut_again n.toNat s n.toNat (Nat.le_refl _)
      have e1 : decide (s.length ≤ 1048576) = true := decide_eq_true (by omega)
      have e2 : decide ((cutP s n.toNat : Int) > (s.length : Int)) = false := decide_eq_false (by omega)
      have e3 : decide ((0 : Int) ≤ (cutP s n.toNat : Int)) = true := decide_eq_true (by omega)
      have e4 : decide ((cutP s n.toNat : Int) ≤ (s.length : Int)) = true := decide_eq_true (by omega)
      have e5 : decide (cutP s n.toNat ≤ 1048576) = true := decide_eq_true (by omega)
      have e6 : decide ((s.drop (cutP s n.toNat)).length ≤ 1048576) = true := decide_eq_true (by simp; omega)
      have e7 : IntKind.i64.wrap (((cnt (s.take (cutP s n.toNat)) : Nat) : Int) + ((cnt (s.drop (cutP s n.toNat)) : Nat) : Int)) = ((cnt s : Nat) : Int) := by rw [wrap64 (by omega) (by omega)]; omega
      simp only [h1, h2, decide_false, cond_false, Option.bind_some, hp, e1, e2, e3, e4, e5, e6, e7, hag, cond_true, Bool.and_self, beq_self_eq_true, Bool.not_true, List.take_take, Nat.min_self]
      by_cases h3 : ((cnt s : Nat) : Int) < n
      · have e8 : (((cnt (s.take (cutP s n.toNat)) : Nat) : Int) == ((cnt s : Nat) : Int)) = true := by simp; omega
        have e9 : decide (((cnt (s.take (cutP s n.toNat)) : Nat) : Int) < n) = true := decide_eq_true (by omega)
        simp only [h3, decide_true, cond_true, e8, e9, Option.bind_some]
      · have e8 : (((cnt (s.take (cutP s n.toNat)) : Nat) : Int) == n) = true := by simp; omega
        have e9 : decide (((cnt (s.take (cutP s n.toNat)) : Nat) : Int) < n) = false := decide_eq_false (by omega)
        simp only [h3, decide_false, cond_true, cond_false, e8, e9, Option.bind_some]
def tyCut : List Ty := [.str, .int .i64]
theorem ncut_good (x : tysDen tyCut) (hw : tysWf tyCut x) : ∃ o, EffGood P0 I.cooperagelaw3_NamesCut (valsOf tyCut x) [] (.bool true) o :=
  ⟨[], evFn_sound (H := H.cooperagelaw3_NamesCut) (E := env consC) (env_ok consC_ok) glob0 mixed0 G.cooperagelaw3_NamesCut (args := valsOf tyCut x) (by kernel_rfl) Bd.cooperagelaw3_NamesCut noLoops (ncut_val x.1 x.2.1)⟩

end Go.Sim
