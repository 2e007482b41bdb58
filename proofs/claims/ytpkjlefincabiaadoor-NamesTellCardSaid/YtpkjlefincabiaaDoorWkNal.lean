/-
  WkNal: the walks of NamesLong and NamesSigns.
-/
import Derived.Test.YtpkjlefincabiaaDoorWkNaw
namespace Go.Sim
set_option linter.unusedSimpArgs false
set_option linter.unusedVariables false
theorem long_rd {R : Type} (w : Bool) (n i : Int) (s : List UInt8) (K : Ex → St → Option R) : roundK (env consN) H.cooperagelaw3_NamesLong 0 (LPof []) V.cooperagelaw3_NamesLong_6 L.cooperagelaw3_NamesLong_6 ⟨[(0, .int .i64 n), (1, .bool w), (6, .str s), (7, .int .i64 i)], [], 0⟩ K =
  bif decide (i < n) then
    bif w then
      bif decide (s.length + 2 ≤ 9223372036854775807) then
        K Ex.normal
          {
            slots :=
              [(0, AV.int IntKind.i64 n), (1, AV.bool w), (6, AV.str (s ++ [(195 : UInt8), (169 : UInt8)])),
                (7, AV.int IntKind.i64 (IntKind.i64.wrap (i + (1 : Int))))],
            objs := [], nx := 0 }
      else none
    else
      bif decide (s.length + 1 ≤ 9223372036854775807) then
        K Ex.normal
          {
            slots :=
              [(0, AV.int IntKind.i64 n), (1, AV.bool w), (6, AV.str (s ++ [(97 : UInt8)])),
                (7, AV.int IntKind.i64 (IntKind.i64.wrap (i + (1 : Int))))],
            objs := [], nx := 0 }
      else none
  else
    K (Ex.exit 0)
      { slots := [(0, AV.int IntKind.i64 n), (1, AV.bool w), (6, AV.str s), (7, AV.int IntKind.i64 i)], objs := [],
        nx := 0 } := by kernel_rfl

def repL (w : Bool) : Nat → List UInt8
  | 0 => []
  | n + 1 => repL w n ++ (bif w then [195, 169] else [97])
theorem repL_length (w : Bool) : ∀ n, (repL w n).length ≤ 2 * n
  | 0 => Nat.le_refl _
  | n + 1 => by
    have := repL_length w n
    cases w <;> simp [repL] <;> omega
def longSt (n i : Int) (w : Bool) (s : List UInt8) : St := ⟨[(0, .int .i64 n), (1, .bool w), (6, .str s), (7, .int .i64 i)], [], 0⟩
theorem long_loop (N : Nat) (w : Bool) (hN : N ≤ 60) {R : Type} (K : Ex → St → Option R) : ∀ (m i : Nat), i + m = N →
    rounds (env consN) H.cooperagelaw3_NamesLong 0 (LPof []) V.cooperagelaw3_NamesLong_6 L.cooperagelaw3_NamesLong_6 (m + 1) (longSt N i w (repL w i)) K = K (.exit 0) (longSt N N w (repL w N))
  | 0, i, h => by
    have : i = N := by omega
    subst this
    rw [rounds_succ']
    unfold longSt
    rw [long_rd, cond_neg (by omega)]
  | m + 1, i, h => by
    have hl := repL_length w i
    have ih := long_loop N w hN K m (i + 1) (by omega)
    rw [rounds_succ']
    unfold longSt at ih ⊢
    rw [show ((i + 1 : Nat) : Int) = (i : Int) + 1 by omega] at ih
    rw [long_rd, cond_pos (by omega), wrap64 (by omega) (by omega)]
    cases w with
    | true =>
      simp only [cond_true]
      rw [cond_pos (by omega)]
      exact ih
    | false =>
      simp only [cond_false]
      rw [cond_pos (by omega)]
      exact ih
def longPat : SPat := ⟨[(0, .int .i64), (1, .bool), (6, .str), (7, .int .i64)], []⟩
def longLC : LoopC := LoopC.of longPat (fun x => decide ((0 : Int) ≤ x.1.1) && decide (x.1.1 ≤ (60 : Int)) && List.isEmpty x.1.2.2.1 && decide (x.1.2.2.2.1 = (0 : Int)))
  fun x => [(true, .exit 0, longSt x.1.1 x.1.1 x.1.2.1 (repL x.1.2.1 (Int.toNat x.1.1)))]
theorem long_all (n : Int) (w : Bool) (h0 : 0 ≤ n) (h1 : n ≤ 60) : ∃ k, rounds (env consN) H.cooperagelaw3_NamesLong 0 (LPof []) V.cooperagelaw3_NamesLong_6 L.cooperagelaw3_NamesLong_6 k (longSt n 0 w []) (fun e s => some (e, s)) = some (.exit 0, longSt n n w (repL w n.toNat)) := by
  obtain ⟨N, rfl⟩ := Int.eq_ofNat_of_zero_le h0
  exact ⟨_, long_loop N w (by omega) (fun e s => some (e, s)) N 0 (by omega)⟩
theorem long_lok : LoopOK P0 H.cooperagelaw3_NamesLong 0 L.cooperagelaw3_NamesLong_6 longLC := loop_ok_of (env_ok consN_ok) glob0 mixed0 noLoops V.cooperagelaw3_NamesLong_6 (by decide) fun ⟨⟨n, w, s, i, _⟩, _⟩ h hw => by
  simp only [Bool.and_eq_true, decide_eq_true_eq, List.isEmpty_iff] at h
  obtain ⟨⟨⟨h1, h2⟩, h3⟩, h4⟩ := h
  subst h3; subst h4
  exact long_all n w h1 h2
theorem long_ev (n : Int) (w : Bool) : evFn (env consN) H.cooperagelaw3_NamesLong (LPof [(6, longLC)]) F.cooperagelaw3_NamesLong [.int .i64 n, .bool w] [] (finK 0) =
  Option.bind (bif decide (n < (0 : Int)) then some true else some (decide (n > (60 : Int)))) fun v =>
    bif v then some (AV.bool true, [])
    else
      bif decide ((0 : Int) ≤ n) && decide (n ≤ (60 : Int)) && true && true && true then
        Option.bind
          (bif decide (n ≥ (1 : Int)) then
            bif validL (repL w n.toNat) == decide (n ≤ (40 : Int)) then
              bif decide ((repL w n.toNat).length ≤ 1048576) then some ((↑(cnt (repL w n.toNat)) : Int) == n) else none
            else some false
          else
            bif validL (repL w n.toNat) == false then
              bif decide ((repL w n.toNat).length ≤ 1048576) then some ((↑(cnt (repL w n.toNat)) : Int) == n) else none
            else some false)
          fun v => some (AV.bool v, [])
      else none := by kernel_rfl

theorem long_tab : ((List.range 61).all fun n => (validL (repL true n) == (decide (1 ≤ n) && decide (n ≤ 40))) && (validL (repL false n) == (decide (1 ≤ n) && decide (n ≤ 40))) && decide (cnt (repL true n) = n) && decide (cnt (repL false n) = n)) = true := by kernel_rfl

theorem long_fact (w : Bool) (n : Nat) (h : n ≤ 60) : validL (repL w n) = (decide (1 ≤ n) && decide (n ≤ 40)) ∧ cnt (repL w n) = n := by
  have := List.all_eq_true.1 long_tab n (List.mem_range.2 (by omega))
  simp only [Bool.and_eq_true, beq_iff_eq, decide_eq_true_eq] at this
  obtain ⟨⟨⟨a, b⟩, c⟩, d⟩ := this
  cases w
  · exact ⟨b, d⟩
  · exact ⟨a, c⟩
theorem long_val (n : Int) (w : Bool) : evFn (env consN) H.cooperagelaw3_NamesLong (LPof [(6, longLC)]) F.cooperagelaw3_NamesLong [.int .i64 n, .bool w] [] (finK 0) = some (.bool true, []) := by
  rw [long_ev]
  by_cases h1 : n < 0
  · rw [cond_pos h1]; rfl
  · rw [cond_neg h1]
    by_cases h2 : n > 60
    · simp only [h2, decide_true, Option.bind_some, cond_true]
    · obtain ⟨N, rfl⟩ := Int.eq_ofNat_of_zero_le (show 0 ≤ n by omega)
      obtain ⟨f1, f2⟩ := long_fact w N (by omega)
      have hl := repL_length w N
      have e1 : decide ((0 : Int) ≤ (N : Int)) = true := decide_eq_true (by omega)
      have e2 : decide ((N : Int) ≤ (60 : Int)) = true := decide_eq_true (by omega)
      have e3 : decide ((N : Int) ≥ (1 : Int)) = decide (1 ≤ N) := decide_eq_decide.2 (by omega)
      have e4 : decide ((N : Int) ≤ (40 : Int)) = decide (N ≤ 40) := decide_eq_decide.2 (by omega)
      have e5 : decide ((repL w N).length ≤ 1048576) = true := decide_eq_true (by omega)
      simp only [h2, decide_false, Option.bind_some, cond_false, e1, e2, e3, e4, e5, Int.toNat_natCast, f1, f2, Bool.and_true, cond_true, beq_self_eq_true]
      cases decide (1 ≤ N) <;> cases decide (N ≤ 40) <;> rfl
def tyLong : List Ty := [.int .i64, .bool]
theorem long_good (x : tysDen tyLong) (hw : tysWf tyLong x) : ∃ o, EffGood P0 I.cooperagelaw3_NamesLong (valsOf tyLong x) [] (.bool true) o :=
  ⟨[], evFn_sound (H := H.cooperagelaw3_NamesLong) (E := env consN) (env_ok consN_ok) glob0 mixed0 G.cooperagelaw3_NamesLong (args := valsOf tyLong x) (by kernel_rfl) Bd.cooperagelaw3_NamesLong
    (loops_good (tab := [(6, longLC)]) (by kernel_rfl) (fun x hx => by simp at hx; subst hx; exact long_lok)) (long_val x.1 x.2.1)⟩

end Go.Sim
