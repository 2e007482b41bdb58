/-
  WkRvl: the walks of the document's own reader of names. · PlSch: what searches in lists come to. · PlSvc: what chapters 10 and 21 say of commands and requests, in plain Lean. · WkS1: walks of leaves of service and command. · WkS2: walks of loops over records. · WkS3: walks of command.Right, of the document's Right and of service.Check. · PlEnc: whole numbers as bytes: the plain side. · WkE1: walks of varint. · WkE2: walks of varint's reader. · PlEnr: records as bytes: the plain side.
-/
import Derived.Test.YtifkijepedhbgaaDoorPartD
namespace Go.Sim
set_option linter.unusedSimpArgs false
set_option linter.unusedVariables false
set_option maxRecDepth 10000
theorem rune1_rd {R : Type} (s : List UInt8) (x2 x3 n le c i : Int) (x4 : Bool) (K : Ex → St → Option R) : roundK (env []) H.cooperageref1_rune1 0 (LPof []) V.cooperageref1_rune1_23 L.cooperageref1_rune1_23 ⟨[(0, .str s), (2, .int .i64 x2), (3, .int .i64 x3), (4, .bool x4), (6, .int .i64 n), (7, .int .i64 le), (8, .int .i64 c), (9, .int .i64 i)], [], 0⟩ K = bif decide (i < n) then bif decide ((0 : Int) ≤ i) && decide (i < (↑s.length : Int)) then Option.bind (bif decide (IntKind.i64.wrap (↑(s.getD i.toNat (0 : UInt8)).toNat : Int) < (128 : Int)) then some true else some (decide (IntKind.i64.wrap (↑(s.getD i.toNat (0 : UInt8)).toNat : Int) > (191 : Int)))) fun v => bif v then K Ex.ret { slots := [(0, AV.str s), (2, AV.int IntKind.i64 (0 : Int)), (3, AV.int IntKind.i64 (1 : Int)), (4, AV.bool false), (6, AV.int IntKind.i64 n), (7, AV.int IntKind.i64 le), (8, AV.int IntKind.i64 c), (9, AV.int IntKind.i64 i)], objs := [], nx := 0 } else K Ex.normal { slots := [(0, AV.str s), (2, AV.int IntKind.i64 x2), (3, AV.int IntKind.i64 x3), (4, AV.bool x4), (6, AV.int IntKind.i64 n), (7, AV.int IntKind.i64 le), (8, AV.int IntKind.i64 (IntKind.i64.wrap (IntKind.i64.wrap (c * (64 : Int)) + IntKind.i64.wrap (↑(BitVec.ofInt 64 (IntKind.i64.wrap (↑(s.getD i.toNat (0 : UInt8)).toNat : Int)) &&& BitVec.ofInt 64 (63 : Int)).toNat : Int)))), (9, AV.int IntKind.i64 (IntKind.i64.wrap (i + (1 : Int))))], objs := [], nx := 0 } else none else K (Ex.exit 1) { slots := [(0, AV.str s), (2, AV.int IntKind.i64 x2), (3, AV.int IntKind.i64 x3), (4, AV.bool x4), (6, AV.int IntKind.i64 n), (7, AV.int IntKind.i64 le), (8, AV.int IntKind.i64 c), (9, AV.int IntKind.i64 i)], objs := [], nx := 0 } := by kernel_rfl

theorem getD_bt (s : List UInt8) (k : Nat) : (s.getD k 0).toNat = bt s k := rfl
theorem wrap_bt (s : List UInt8) (k : Nat) : IntKind.i64.wrap ((bt s k : Nat) : Int) = ((bt s k : Nat) : Int) := by
  have := bt_lt s k
  exact wrap64 (by omega) (by omega)
theorem bad_bif (x : Nat) : (bif decide (((x : Nat) : Int) < (128 : Int)) then some true else some (decide (((x : Nat) : Int) > (191 : Int)))) = some (badB x) := by
  unfold badB
  rw [show decide (((x : Nat) : Int) < (128 : Int)) = decide (x < 128) from decide_eq_decide.2 (by omega), show decide (((x : Nat) : Int) > (191 : Int)) = decide (x > 191) from decide_eq_decide.2 (by omega)]
  cases decide (x < 128) <;> rfl
def runeSt (s : List UInt8) (x2 x3 : Int) (x4 : Bool) (n le : Int) (c i : Nat) : St := ⟨[(0, .str s), (2, .int .i64 x2), (3, .int .i64 x3), (4, .bool x4), (6, .int .i64 n), (7, .int .i64 le), (8, .int .i64 c), (9, .int .i64 i)], [], 0⟩
theorem rune1_loop (s : List UInt8) (le : Int) (N : Nat) (hN : N ≤ s.length) {R : Type} (K : Ex → St → Option R) : ∀ (k i c B : Nat), i + k = N → N ≤ 4 → c < B → B * 64 ^ k ≤ 2 ^ 50 →
    rounds (env []) H.cooperageref1_rune1 0 (LPof []) V.cooperageref1_rune1_23 L.cooperageref1_rune1_23 (k + 1) (runeSt s 0 0 false N le c i) K =
      bif (ctF s k i c).1 then K (.exit 1) (runeSt s 0 0 false N le (ctF s k i c).2.1 (ctF s k i c).2.2) else K .ret (runeSt s 0 1 false N le (ctF s k i c).2.1 (ctF s k i c).2.2)
  | 0, i, c, B, h, _, _, _ => by
    have : i = N := by omega
    subst this
    rw [rounds_succ']
    unfold runeSt
    rw [rune1_rd, cond_neg (by omega)]
    rfl
  | k + 1, i, c, B, h, h4, hc, hB => by
    have h1 := bt_lt s i
    have hB1 : B ≤ 2 ^ 50 := Nat.le_trans (Nat.le_mul_of_pos_right _ (Nat.pow_pos (by decide))) hB
    have ih := rune1_loop s le N hN K k (i + 1) (c * 64 + bt s i % 64) (64 * B) (by omega) h4 (by omega) (by rw [Nat.pow_succ] at hB; rw [Nat.mul_comm 64 B, Nat.mul_assoc, Nat.mul_comm 64]; exact hB)
    rw [rounds_succ']
    unfold runeSt at ih ⊢
    rw [rune1_rd, cond_pos (by omega), cond_pos2 (by omega) (by omega), Int.toNat_natCast, getD_bt, wrap_bt, bad_bif, and_mask _ 63 63 rfl h1 (by simp), wrap64 (n := ((bt s i % (63 + 1) : Nat) : Int)) (by omega) (by omega),
      wrap64 (n := (c : Int) * 64) (by omega) (by omega), wrap64 (n := (c : Int) * 64 + ((bt s i % (63 + 1) : Nat) : Int)) (by omega) (by omega), wrap64 (n := (i : Int) + 1) (by omega) (by omega)]
    simp only [Option.bind_some, ctF]
    cases badB (bt s i) with
    | true => rfl
    | false =>
      simp only [cond_false]
      rw [← ih]
      congr 2
def runePat : SPat := ⟨[(0, .str), (2, .int .i64), (3, .int .i64), (4, .bool), (6, .int .i64), (7, .int .i64), (8, .int .i64), (9, .int .i64)], []⟩
def runeCt (s : List UInt8) (n c : Int) : Bool × Nat × Nat := ctF s (n.toNat - 1) 1 c.toNat
def runeLC : LoopC := LoopC.of runePat (fun ⟨⟨s, x2, x3, x4, n, le, c, i, _⟩, _⟩ => decide (x2 = (0 : Int)) && decide (x3 = (0 : Int)) && !x4 && decide (i = (1 : Int)) && decide ((0 : Int) ≤ c) && decide (c < (256 : Int)) && decide ((2 : Int) ≤ n) && decide (n ≤ (4 : Int)) && decide (n ≤ (List.length s : Int)))
  fun ⟨⟨s, x2, x3, x4, n, le, c, i, _⟩, _⟩ => [((runeCt s n c).1, .exit 1, runeSt s 0 0 false n le (runeCt s n c).2.1 (runeCt s n c).2.2), (true, .ret, runeSt s 0 1 false n le (runeCt s n c).2.1 (runeCt s n c).2.2)]
theorem rune1_all (s : List UInt8) (le n c : Int) (h1 : 0 ≤ c) (h2 : c < 256) (h3 : 2 ≤ n) (h4 : n ≤ 4) (h5 : n ≤ (s.length : Int)) : ∃ k, rounds (env []) H.cooperageref1_rune1 0 (LPof []) V.cooperageref1_rune1_23 L.cooperageref1_rune1_23 k
      ⟨[(0, .str s), (2, .int .i64 0), (3, .int .i64 0), (4, .bool false), (6, .int .i64 n), (7, .int .i64 le), (8, .int .i64 c), (9, .int .i64 1)], [], 0⟩ (fun e s => some (e, s)) =
    pick [((runeCt s n c).1, .exit 1, runeSt s 0 0 false n le (runeCt s n c).2.1 (runeCt s n c).2.2), (true, .ret, runeSt s 0 1 false n le (runeCt s n c).2.1 (runeCt s n c).2.2)] := by
  obtain ⟨N, rfl⟩ := Int.eq_ofNat_of_zero_le (show 0 ≤ n by omega)
  obtain ⟨C, rfl⟩ := Int.eq_ofNat_of_zero_le h1
  have hp : 256 * 64 ^ (N - 1) ≤ 2 ^ 50 := by
    rcases (show N = 2 ∨ N = 3 ∨ N = 4 by omega) with rfl | rfl | rfl <;> decide
  have := rune1_loop s le N (by omega) (fun e s => some (e, s)) (N - 1) 1 C 256 (by omega) (by omega) (by omega) hp
  refine ⟨_, this.trans ?_⟩
  unfold runeCt
  simp only [Int.toNat_natCast, pick]
  cases (ctF s (N - 1) 1 C).1 <;> rfl
theorem rune1_lok : LoopOK P0 H.cooperageref1_rune1 0 L.cooperageref1_rune1_23 runeLC := loop_ok_of (env_ok env_nil) glob0 mixed0 noLoops V.cooperageref1_rune1_23 (by decide) fun ⟨⟨s, x2, x3, x4, n, le, c, i, _⟩, _⟩ h hw => by
  simp only [Bool.and_eq_true, decide_eq_true_eq, Bool.not_eq_true'] at h
  obtain ⟨⟨⟨⟨⟨⟨⟨⟨h1, h2⟩, h3⟩, h4⟩, h5⟩, h6⟩, h7⟩, h8⟩, h9⟩ := h
  subst h1; subst h2; subst h3; subst h4
  exact rune1_all s le n c h5 h6 h7 h8 h9
theorem rune1_ev (s : List UInt8) : evFn (env []) H.cooperageref1_rune1 (LPof [(23, runeLC)]) F.cooperageref1_rune1 [.str s] [] (finK 0) = bif decide ((0 : Int) < (↑s.length : Int)) then bif decide (IntKind.i64.wrap (↑(s.getD 0 (0 : UInt8)).toNat : Int) < (128 : Int)) then some (AV.tup [AV.int IntKind.i64 (IntKind.i64.wrap (↑(s.getD 0 (0 : UInt8)).toNat : Int)), AV.int IntKind.i64 (1 : Int), AV.bool true], []) else Option.bind (bif decide (IntKind.i64.wrap (↑(s.getD 0 (0 : UInt8)).toNat : Int) ≥ (194 : Int)) then some (decide (IntKind.i64.wrap (↑(s.getD 0 (0 : UInt8)).toNat : Int) < (224 : Int))) else some false) fun v => bif v then bif decide ((↑s.length : Int) < (2 : Int)) then some (AV.tup [AV.int IntKind.i64 (0 : Int), AV.int IntKind.i64 (1 : Int), AV.bool false], []) else bif decide ((0 : Int) ≤ IntKind.i64.wrap (↑(BitVec.ofInt 64 (IntKind.i64.wrap (↑(s.getD 0 (0 : UInt8)).toNat : Int)) &&& BitVec.ofInt 64 (31 : Int)).toNat : Int)) && decide (IntKind.i64.wrap (↑(BitVec.ofInt 64 (IntKind.i64.wrap (↑(s.getD 0 (0 : UInt8)).toNat : Int)) &&& BitVec.ofInt 64 (31 : Int)).toNat : Int) < (256 : Int)) && true && true && decide ((2 : Int) ≤ (↑s.length : Int)) && (runeCt s (2 : Int) (IntKind.i64.wrap (↑(BitVec.ofInt 64 (IntKind.i64.wrap (↑(s.getD 0 (0 : UInt8)).toNat : Int)) &&& BitVec.ofInt 64 (31 : Int)).toNat : Int))).fst then Option.bind (bif decide ((↑(runeCt s (2 : Int) (IntKind.i64.wrap (↑(BitVec.ofInt 64 (IntKind.i64.wrap (↑(s.getD 0 (0 : UInt8)).toNat : Int)) &&& BitVec.ofInt 64 (31 : Int)).toNat : Int))).snd.fst : Int) < (128 : Int)) then some true else bif decide ((↑(runeCt s (2 : Int) (IntKind.i64.wrap (↑(BitVec.ofInt 64 (IntKind.i64.wrap (↑(s.getD 0 (0 : UInt8)).toNat : Int)) &&& BitVec.ofInt 64 (31 : Int)).toNat : Int))).snd.fst : Int) > (1114111 : Int)) then some true else bif decide ((↑(runeCt s (2 : Int) (IntKind.i64.wrap (↑(BitVec.ofInt 64 (IntKind.i64.wrap (↑(s.getD 0 (0 : UInt8)).toNat : Int)) &&& BitVec.ofInt 64 (31 : Int)).toNat : Int))).snd.fst : Int) ≥ (55296 : Int)) then some (decide ((↑(runeCt s (2 : Int) (IntKind.i64.wrap (↑(BitVec.ofInt 64 (IntKind.i64.wrap (↑(s.getD 0 (0 : UInt8)).toNat : Int)) &&& BitVec.ofInt 64 (31 : Int)).toNat : Int))).snd.fst : Int) ≤ (57343 : Int))) else some false) fun v => bif v then some (AV.tup [AV.int IntKind.i64 (0 : Int), AV.int IntKind.i64 (1 : Int), AV.bool false], []) else some (AV.tup [AV.int IntKind.i64 (↑(runeCt s (2 : Int) (IntKind.i64.wrap (↑(BitVec.ofInt 64 (IntKind.i64.wrap (↑(s.getD 0 (0 : UInt8)).toNat : Int)) &&& BitVec.ofInt 64 (31 : Int)).toNat : Int))).snd.fst : Int), AV.int IntKind.i64 (2 : Int), AV.bool true], []) else bif decide ((0 : Int) ≤ IntKind.i64.wrap (↑(BitVec.ofInt 64 (IntKind.i64.wrap (↑(s.getD 0 (0 : UInt8)).toNat : Int)) &&& BitVec.ofInt 64 (31 : Int)).toNat : Int)) && decide (IntKind.i64.wrap (↑(BitVec.ofInt 64 (IntKind.i64.wrap (↑(s.getD 0 (0 : UInt8)).toNat : Int)) &&& BitVec.ofInt 64 (31 : Int)).toNat : Int) < (256 : Int)) && true && true && decide ((2 : Int) ≤ (↑s.length : Int)) && true then some (AV.tup [AV.int IntKind.i64 (0 : Int), AV.int IntKind.i64 (1 : Int), AV.bool false], []) else none else Option.bind (bif decide (IntKind.i64.wrap (↑(s.getD 0 (0 : UInt8)).toNat : Int) ≥ (224 : Int)) then some (decide (IntKind.i64.wrap (↑(s.getD 0 (0 : UInt8)).toNat : Int) < (240 : Int))) else some false) fun v => bif v then bif decide ((↑s.length : Int) < (3 : Int)) then some (AV.tup [AV.int IntKind.i64 (0 : Int), AV.int IntKind.i64 (1 : Int), AV.bool false], []) else bif decide ((0 : Int) ≤ IntKind.i64.wrap (↑(BitVec.ofInt 64 (IntKind.i64.wrap (↑(s.getD 0 (0 : UInt8)).toNat : Int)) &&& BitVec.ofInt 64 (15 : Int)).toNat : Int)) && decide (IntKind.i64.wrap (↑(BitVec.ofInt 64 (IntKind.i64.wrap (↑(s.getD 0 (0 : UInt8)).toNat : Int)) &&& BitVec.ofInt 64 (15 : Int)).toNat : Int) < (256 : Int)) && true && true && decide ((3 : Int) ≤ (↑s.length : Int)) && (runeCt s (3 : Int) (IntKind.i64.wrap (↑(BitVec.ofInt 64 (IntKind.i64.wrap (↑(s.getD 0 (0 : UInt8)).toNat : Int)) &&& BitVec.ofInt 64 (15 : Int)).toNat : Int))).fst then Option.bind (bif decide ((↑(runeCt s (3 : Int) (IntKind.i64.wrap (↑(BitVec.ofInt 64 (IntKind.i64.wrap (↑(s.getD 0 (0 : UInt8)).toNat : Int)) &&& BitVec.ofInt 64 (15 : Int)).toNat : Int))).snd.fst : Int) < (2048 : Int)) then some true else bif decide ((↑(runeCt s (3 : Int) (IntKind.i64.wrap (↑(BitVec.ofInt 64 (IntKind.i64.wrap (↑(s.getD 0 (0 : UInt8)).toNat : Int)) &&& BitVec.ofInt 64 (15 : Int)).toNat : Int))).snd.fst : Int) > (1114111 : Int)) then some true else bif decide ((↑(runeCt s (3 : Int) (IntKind.i64.wrap (↑(BitVec.ofInt 64 (IntKind.i64.wrap (↑(s.getD 0 (0 : UInt8)).toNat : Int)) &&& BitVec.ofInt 64 (15 : Int)).toNat : Int))).snd.fst : Int) ≥ (55296 : Int)) then some (decide ((↑(runeCt s (3 : Int) (IntKind.i64.wrap (↑(BitVec.ofInt 64 (IntKind.i64.wrap (↑(s.getD 0 (0 : UInt8)).toNat : Int)) &&& BitVec.ofInt 64 (15 : Int)).toNat : Int))).snd.fst : Int) ≤ (57343 : Int))) else some false) fun v => bif v then some (AV.tup [AV.int IntKind.i64 (0 : Int), AV.int IntKind.i64 (1 : Int), AV.bool false], []) else some (AV.tup [AV.int IntKind.i64 (↑(runeCt s (3 : Int) (IntKind.i64.wrap (↑(BitVec.ofInt 64 (IntKind.i64.wrap (↑(s.getD 0 (0 : UInt8)).toNat : Int)) &&& BitVec.ofInt 64 (15 : Int)).toNat : Int))).snd.fst : Int), AV.int IntKind.i64 (3 : Int), AV.bool true], []) else bif decide ((0 : Int) ≤ IntKind.i64.wrap (↑(BitVec.ofInt 64 (IntKind.i64.wrap (↑(s.getD 0 (0 : UInt8)).toNat : Int)) &&& BitVec.ofInt 64 (15 : Int)).toNat : Int)) && decide (IntKind.i64.wrap (↑(BitVec.ofInt 64 (IntKind.i64.wrap (↑(s.getD 0 (0 : UInt8)).toNat : Int)) &&& BitVec.ofInt 64 (15 : Int)).toNat : Int) < (256 : Int)) && true && true && decide ((3 : Int) ≤ (↑s.length : Int)) && true then some (AV.tup [AV.int IntKind.i64 (0 : Int), AV.int IntKind.i64 (1 : Int), AV.bool false], []) else none else Option.bind (bif decide (IntKind.i64.wrap (↑(s.getD 0 (0 : UInt8)).toNat : Int) ≥ (240 : Int)) then some (decide (IntKind.i64.wrap (↑(s.getD 0 (0 : UInt8)).toNat : Int) < (245 : Int))) else some false) fun v => bif v then bif decide ((↑s.length : Int) < (4 : Int)) then some (AV.tup [AV.int IntKind.i64 (0 : Int), AV.int IntKind.i64 (1 : Int), AV.bool false], []) else bif decide ((0 : Int) ≤ IntKind.i64.wrap (↑(BitVec.ofInt 64 (IntKind.i64.wrap (↑(s.getD 0 (0 : UInt8)).toNat : Int)) &&& BitVec.ofInt 64 (7 : Int)).toNat : Int)) && decide (IntKind.i64.wrap (↑(BitVec.ofInt 64 (IntKind.i64.wrap (↑(s.getD 0 (0 : UInt8)).toNat : Int)) &&& BitVec.ofInt 64 (7 : Int)).toNat : Int) < (256 : Int)) && true && true && decide ((4 : Int) ≤ (↑s.length : Int)) && (runeCt s (4 : Int) (IntKind.i64.wrap (↑(BitVec.ofInt 64 (IntKind.i64.wrap (↑(s.getD 0 (0 : UInt8)).toNat : Int)) &&& BitVec.ofInt 64 (7 : Int)).toNat : Int))).fst then Option.bind (bif decide ((↑(runeCt s (4 : Int) (IntKind.i64.wrap (↑(BitVec.ofInt 64 (IntKind.i64.wrap (↑(s.getD 0 (0 : UInt8)).toNat : Int)) &&& BitVec.ofInt 64 (7 : Int)).toNat : Int))).snd.fst : Int) < (65536 : Int)) then some true else bif decide ((↑(runeCt s (4 : Int) (IntKind.i64.wrap (↑(BitVec.ofInt 64 (IntKind.i64.wrap (↑(s.getD 0 (0 : UInt8)).toNat : Int)) &&& BitVec.ofInt 64 (7 : Int)).toNat : Int))).snd.fst : Int) > (1114111 : Int)) then some true else bif decide ((↑(runeCt s (4 : Int) (IntKind.i64.wrap (↑(BitVec.ofInt 64 (IntKind.i64.wrap (↑(s.getD 0 (0 : UInt8)).toNat : Int)) &&& BitVec.ofInt 64 (7 : Int)).toNat : Int))).snd.fst : Int) ≥ (55296 : Int)) then some (decide ((↑(runeCt s (4 : Int) (IntKind.i64.wrap (↑(BitVec.ofInt 64 (IntKind.i64.wrap (↑(s.getD 0 (0 : UInt8)).toNat : Int)) &&& BitVec.ofInt 64 (7 : Int)).toNat : Int))).snd.fst : Int) ≤ (57343 : Int))) else some false) fun v => bif v then some (AV.tup [AV.int IntKind.i64 (0 : Int), AV.int IntKind.i64 (1 : Int), AV.bool false], []) else some (AV.tup [AV.int IntKind.i64 (↑(runeCt s (4 : Int) (IntKind.i64.wrap (↑(BitVec.ofInt 64 (IntKind.i64.wrap (↑(s.getD 0 (0 : UInt8)).toNat : Int)) &&& BitVec.ofInt 64 (7 : Int)).toNat : Int))).snd.fst : Int), AV.int IntKind.i64 (4 : Int), AV.bool true], []) else bif decide ((0 : Int) ≤ IntKind.i64.wrap (↑(BitVec.ofInt 64 (IntKind.i64.wrap (↑(s.getD 0 (0 : UInt8)).toNat : Int)) &&& BitVec.ofInt 64 (7 : Int)).toNat : Int)) && decide (IntKind.i64.wrap (↑(BitVec.ofInt 64 (IntKind.i64.wrap (↑(s.getD 0 (0 : UInt8)).toNat : Int)) &&& BitVec.ofInt 64 (7 : Int)).toNat : Int) < (256 : Int)) && true && true && decide ((4 : Int) ≤ (↑s.length : Int)) && true then some (AV.tup [AV.int IntKind.i64 (0 : Int), AV.int IntKind.i64 (1 : Int), AV.bool false], []) else none else some (AV.tup [AV.int IntKind.i64 (0 : Int), AV.int IntKind.i64 (1 : Int), AV.bool false], []) else none := by kernel_rfl

def r3 (x : Nat × Nat × Bool) : AV := .tup [.int .i64 (x.1 : Int), .int .i64 (x.2.1 : Int), .bool x.2.2]
theorem tell_bif (s : List UInt8) (N k : Nat) (n leI : Int) (least c0 : Nat) (hn : n = (N : Int)) (hk : N - 1 = k) (hl : leI = (least : Int)) (hc : c0 < 256) :
    (bif decide ((s.length : Int) < n) then some (AV.tup [AV.int IntKind.i64 (0 : Int), AV.int IntKind.i64 (1 : Int), AV.bool false], ([] : List AObj))
     else bif decide ((0 : Int) ≤ (c0 : Int)) && decide ((c0 : Int) < (256 : Int)) && true && true && decide (n ≤ (s.length : Int)) && (runeCt s n (c0 : Int)).fst then
       Option.bind (bif decide (((runeCt s n (c0 : Int)).snd.fst : Int) < leI) then some true else bif decide (((runeCt s n (c0 : Int)).snd.fst : Int) > (1114111 : Int)) then some true
         else some (decide (((runeCt s n (c0 : Int)).snd.fst : Int) ≥ (55296 : Int)) && decide (((runeCt s n (c0 : Int)).snd.fst : Int) ≤ (57343 : Int))))
         fun v => bif v then some (AV.tup [AV.int IntKind.i64 (0 : Int), AV.int IntKind.i64 (1 : Int), AV.bool false], []) else some (AV.tup [AV.int IntKind.i64 ((runeCt s n (c0 : Int)).snd.fst : Int), AV.int IntKind.i64 n, AV.bool true], [])
     else bif decide ((0 : Int) ≤ (c0 : Int)) && decide ((c0 : Int) < (256 : Int)) && true && true && decide (n ≤ (s.length : Int)) && true then some (AV.tup [AV.int IntKind.i64 (0 : Int), AV.int IntKind.i64 (1 : Int), AV.bool false], []) else none)
    = some (r3 (tellR s N k least c0), []) := by
  subst hn; subst hl
  unfold runeCt tellR
  rw [Int.toNat_natCast, Int.toNat_natCast, hk]
  by_cases l : s.length < N
  · rw [cond_pos (by omega), cond_pos l]; rfl
  · have e1 : (decide ((0 : Int) ≤ (c0 : Int)) && decide ((c0 : Int) < (256 : Int)) && true && true && decide ((N : Int) ≤ (s.length : Int))) = true := by simp; omega
    rw [cond_neg (by omega), cond_neg l, e1]
    cases hb : (ctF s k 1 c0).1 with
    | false => rfl
    | true =>
      simp only [Bool.and_self, cond_true]
      have e2 : (bif decide (((ctF s k 1 c0).2.1 : Int) < (least : Int)) then some true else bif decide (((ctF s k 1 c0).2.1 : Int) > (1114111 : Int)) then some true
         else some (decide (((ctF s k 1 c0).2.1 : Int) ≥ (55296 : Int)) && decide (((ctF s k 1 c0).2.1 : Int) ≤ (57343 : Int)))) = some (farB (ctF s k 1 c0).2.1 least) := by
        generalize (ctF s k 1 c0).2.1 = c
        unfold farB
        rw [show decide ((c : Int) < (least : Int)) = decide (c < least) from decide_eq_decide.2 (by omega), show decide ((c : Int) > (1114111 : Int)) = decide (c > 1114111) from decide_eq_decide.2 (by omega),
          show decide ((c : Int) ≥ (55296 : Int)) = decide (c ≥ 55296) from decide_eq_decide.2 (by omega), show decide ((c : Int) ≤ (57343 : Int)) = decide (c ≤ 57343) from decide_eq_decide.2 (by omega)]
        cases decide (c < least) <;> cases decide (c > 1114111) <;> cases decide (c ≥ 55296) <;> cases decide (c ≤ 57343) <;> rfl
      rw [e2]
      cases farB (ctF s k 1 c0).2.1 least <;> rfl
theorem rune1_val (s : List UInt8) (h : s ≠ []) : evFn (env []) H.cooperageref1_rune1 (LPof [(23, runeLC)]) F.cooperageref1_rune1 [.str s] [] (finK 0) = some (r3 (r1 s), []) := by
  have hx := bt_lt s 0
  have hl : 0 < s.length := List.length_pos_iff.2 h
  have m31 := and_mask (bt s 0) 31 31 rfl hx (by simp)
  have m15 := and_mask (bt s 0) 15 15 rfl hx (by simp)
  have m7 := and_mask (bt s 0) 7 7 rfl hx (by simp)
  have w31 : IntKind.i64.wrap ((bt s 0 % (31 + 1) : Nat) : Int) = ((bt s 0 % (31 + 1) : Nat) : Int) := wrap64 (by omega) (by omega)
  have w15 : IntKind.i64.wrap ((bt s 0 % (15 + 1) : Nat) : Int) = ((bt s 0 % (15 + 1) : Nat) : Int) := wrap64 (by omega) (by omega)
  have w7 : IntKind.i64.wrap ((bt s 0 % (7 + 1) : Nat) : Int) = ((bt s 0 % (7 + 1) : Nat) : Int) := wrap64 (by omega) (by omega)
  rw [rune1_ev, cond_pos (by omega)]
  simp only [getD_bt, wrap_bt, m31, m15, m7, w31, w15, w7, and_bif, Option.bind_some]
  rw [tell_bif s 2 1 2 128 128 _ rfl rfl rfl (by omega), tell_bif s 3 2 3 2048 2048 _ rfl rfl rfl (by omega), tell_bif s 4 3 4 65536 65536 _ rfl rfl rfl (by omega), ← r1_eq]
  unfold r1R
  rw [show decide (((bt s 0 : Nat) : Int) < (128 : Int)) = decide (bt s 0 < 128) from decide_eq_decide.2 (by omega), show decide (((bt s 0 : Nat) : Int) ≥ (194 : Int)) = decide (bt s 0 ≥ 194) from decide_eq_decide.2 (by omega),
    show decide (((bt s 0 : Nat) : Int) < (224 : Int)) = decide (bt s 0 < 224) from decide_eq_decide.2 (by omega), show decide (((bt s 0 : Nat) : Int) ≥ (224 : Int)) = decide (bt s 0 ≥ 224) from decide_eq_decide.2 (by omega),
    show decide (((bt s 0 : Nat) : Int) < (240 : Int)) = decide (bt s 0 < 240) from decide_eq_decide.2 (by omega), show decide (((bt s 0 : Nat) : Int) ≥ (240 : Int)) = decide (bt s 0 ≥ 240) from decide_eq_decide.2 (by omega),
    show decide (((bt s 0 : Nat) : Int) < (245 : Int)) = decide (bt s 0 < 245) from decide_eq_decide.2 (by omega)]
  cases decide (bt s 0 < 128) with
  | true => rfl
  | false =>
    simp only [cond_false]
    cases decide (bt s 0 ≥ 194) && decide (bt s 0 < 224) with
    | true => rfl
    | false =>
      simp only [cond_false]
      cases decide (bt s 0 ≥ 224) && decide (bt s 0 < 240) with
      | true => rfl
      | false =>
        simp only [cond_false]
        cases decide (bt s 0 ≥ 240) && decide (bt s 0 < 245) <;> rfl
def caseRune1 : PCase := ⟨[.ty .str], [.int .i64, .int .i64, .bool], fun x => [(!x.1.isEmpty, (((r1 x.1).1 : Int), (((r1 x.1).2.1 : Nat) : Int), (r1 x.1).2.2, ()))]⟩
theorem rune1_ok : caseRune1.ok P0 I.cooperageref1_rune1 := case_ok (H := H.cooperageref1_rune1) (E := env []) (env_ok env_nil) glob0 mixed0 G.cooperageref1_rune1 Bd.cooperageref1_rune1 (by kernel_rfl) (loops_good (tab := [(23, runeLC)]) (by kernel_rfl) (fun x hx => by simp at hx; subst hx; exact rune1_lok)) fun ⟨s, ()⟩ y h hw => by
  obtain ⟨hc, rfl⟩ := pick_pre h
  exact ⟨[], rune1_val s (by intro e; subst e; simp at hc)⟩
noncomputable abbrev consR : List (FuncId × Con) := [(I.cooperageref1_rune1, .pure (pureOf [caseRune1]))]
theorem consR_ok : ∀ x ∈ consR, HoldsC P0 x.1 x.2 := by
  intro x hx
  simp at hx
  subst hx
  exact ⟨pureOf_holds (by simp; exact rune1_ok), C.cooperageref1_rune1⟩
theorem rvalid_rd {R : Type} (s : List UInt8) (b : Bool) (n i : Int) (K : Ex → St → Option R) : roundK (env consR) H.cooperageref1_Valid 0 (LPof []) V.cooperageref1_Valid_3 L.cooperageref1_Valid_3 ⟨[(0, .str s), (2, .bool b), (3, .int .i64 n), (4, .int .i64 i)], [], 0⟩ K = bif decide (i < (↑s.length : Int)) then bif decide ((0 : Int) ≤ i) && decide (i ≤ (↑s.length : Int)) then bif !(List.drop i.toNat s).isEmpty then Option.bind (bif (↑(r1 (List.drop i.toNat s)).fst : Int) == (45 : Int) then some true else bif (↑(r1 (List.drop i.toNat s)).fst : Int) == (95 : Int) then some true else some ((↑(r1 (List.drop i.toNat s)).fst : Int) == (46 : Int))) fun v => Option.bind (bif decide ((↑(r1 (List.drop i.toNat s)).fst : Int) ≥ (97 : Int)) then bif decide ((↑(r1 (List.drop i.toNat s)).fst : Int) ≤ (122 : Int)) then some true else bif decide ((↑(r1 (List.drop i.toNat s)).fst : Int) ≥ (48 : Int)) then some (decide ((↑(r1 (List.drop i.toNat s)).fst : Int) ≤ (57 : Int))) else some false else bif decide ((↑(r1 (List.drop i.toNat s)).fst : Int) ≥ (48 : Int)) then some (decide ((↑(r1 (List.drop i.toNat s)).fst : Int) ≤ (57 : Int))) else some false) fun v_1 => Option.bind (bif decide ((↑(r1 (List.drop i.toNat s)).fst : Int) ≥ (161 : Int)) then bif decide ((↑(r1 (List.drop i.toNat s)).fst : Int) ≤ (65535 : Int)) then bif (↑(r1 (List.drop i.toNat s)).fst : Int) != (173 : Int) then some ((↑(r1 (List.drop i.toNat s)).fst : Int) != (65279 : Int)) else some false else some false else some false) fun v_2 => Option.bind (bif !(r1 (List.drop i.toNat s)).snd.snd then some true else bif v_1 then some false else bif v_2 then some false else bif v then some !decide (i > (0 : Int)) else some true) fun v => bif v then K Ex.ret { slots := [(0, AV.str s), (2, AV.bool false), (3, AV.int IntKind.i64 n), (4, AV.int IntKind.i64 i)], objs := [], nx := 0 } else K Ex.normal { slots := [(0, AV.str s), (2, AV.bool b), (3, AV.int IntKind.i64 (IntKind.i64.wrap (n + (1 : Int)))), (4, AV.int IntKind.i64 (IntKind.i64.wrap (i + (↑(r1 (List.drop i.toNat s)).snd.fst : Int))))], objs := [], nx := 0 } else none else none else K (Ex.exit 0) { slots := [(0, AV.str s), (2, AV.bool b), (3, AV.int IntKind.i64 n), (4, AV.int IntKind.i64 i)], objs := [], nx := 0 } := by kernel_rfl

theorem drop_em {s : List UInt8} {pos : Nat} (h : pos < s.length) : (!(s.drop pos).isEmpty) = true := by
  have := drop_ne h
  cases hd : s.drop pos with
  | nil => exact absurd hd this
  | cons a b => rfl
def rvSt (s : List UInt8) (b : Bool) (n i : Int) : St := ⟨[(0, .str s), (2, .bool b), (3, .int .i64 n), (4, .int .i64 i)], [], 0⟩
/-- One test of the document's. -/
theorem bar_eq (x : Nat × Nat × Bool) (i : Int) {Q : Type} (f : Bool → Option Q) :
    (Option.bind (bif (x.1 : Int) == (45 : Int) then some true else bif (x.1 : Int) == (95 : Int) then some true else some ((x.1 : Int) == (46 : Int))) fun v =>
      Option.bind (bif decide ((x.1 : Int) ≥ (97 : Int)) then bif decide ((x.1 : Int) ≤ (122 : Int)) then some true else bif decide ((x.1 : Int) ≥ (48 : Int)) then some (decide ((x.1 : Int) ≤ (57 : Int))) else some false
        else bif decide ((x.1 : Int) ≥ (48 : Int)) then some (decide ((x.1 : Int) ≤ (57 : Int))) else some false) fun v_1 =>
        Option.bind (bif decide ((x.1 : Int) ≥ (161 : Int)) then bif decide ((x.1 : Int) ≤ (65535 : Int)) then bif (x.1 : Int) != (173 : Int) then some ((x.1 : Int) != (65279 : Int)) else some false else some false else some false) fun v_2 =>
          Option.bind (bif !x.2.2 then some true else bif v_1 then some false else bif v_2 then some false else bif v then some !decide (i > (0 : Int)) else some true) f)
    = f (barR x (!decide (i > (0 : Int)))) := by
  unfold barR smallR bigR markR
  simp only [and_bif, or_bif, nand_bif, nor_bif, Option.bind_some]
  have e1 : (bif decide ((x.1 : Int) ≥ (97 : Int)) then bif decide ((x.1 : Int) ≤ (122 : Int)) then some true else some (decide ((x.1 : Int) ≥ (48 : Int)) && decide ((x.1 : Int) ≤ (57 : Int))) else some (decide ((x.1 : Int) ≥ (48 : Int)) && decide ((x.1 : Int) ≤ (57 : Int)))) =
      some (decide ((x.1 : Int) ≥ (97 : Int)) && decide ((x.1 : Int) ≤ (122 : Int)) || decide ((x.1 : Int) ≥ (48 : Int)) && decide ((x.1 : Int) ≤ (57 : Int))) := by
    cases decide ((x.1 : Int) ≥ (97 : Int)) <;> cases decide ((x.1 : Int) ≤ (122 : Int)) <;> rfl
  simp only [or_bif] at e1
  rw [e1]
  simp only [Option.bind_some]
theorem rvalid_loop (s : List UInt8) (hs : s.length ≤ 9223372036854775807) (b : Bool) {R : Type} (K : Ex → St → Option R) : ∀ (m pos n : Nat), s.length ≤ pos + m → pos ≤ s.length → n ≤ pos →
    rounds (env consR) H.cooperageref1_Valid 0 (LPof []) V.cooperageref1_Valid_3 L.cooperageref1_Valid_3 (m + 1) (rvSt s b n pos) K =
      match failR m (s.drop pos) (!decide ((pos : Int) > (0 : Int))) with
      | some p => K .ret (rvSt s false ((n + p.1 : Nat) : Int) ((pos + p.2 : Nat) : Int))
      | none => K (.exit 0) (rvSt s b ((n + cnt (s.drop pos) : Nat) : Int) s.length)
  | m, pos, n, h, hp, h1 => by
    rw [rounds_succ']
    unfold rvSt
    by_cases hlt : pos < s.length
    · have hw := dec1_pos (s.drop pos)
      have hle := dec1_le _ (drop_ne hlt)
      rw [List.length_drop] at hle
      obtain ⟨m, rfl⟩ : ∃ j, m = j + 1 := ⟨m - 1, by omega⟩
      have ih := rvalid_loop s hs b K m (pos + (dec1 (s.drop pos)).2) (n + 1) (by omega) (by omega) (by omega)
      have hem := drop_em hlt
      rw [rvalid_rd, cond_pos (by omega), cond_pos2 (by omega) (by omega), Int.toNat_natCast, hem, r1_w, wrap64 (by omega) (by omega), wrap64 (by omega) (by omega)]
      simp only [cond_true]
      rw [bar_eq]
      rw [Bool.not_eq_true'] at hem
      rw [failR, hem]
      simp only [cond_false]
      cases barR (r1 (s.drop pos)) (!decide ((pos : Int) > (0 : Int))) with
      | true => rfl
      | false =>
        simp only [cond_false]
        rw [show (!decide (((pos + (dec1 (s.drop pos)).2 : Nat) : Int) > (0 : Int))) = false by rw [decide_eq_true (by omega)]; rfl] at ih
        rw [List.drop_drop]
        refine Eq.trans ih ?_
        cases failR m (s.drop (pos + (dec1 (s.drop pos)).2)) false with
        | none =>
          simp only [Option.map_none]
          rw [cnt_cons _ (drop_ne hlt), List.drop_drop, show n + 1 + cnt (s.drop (pos + (dec1 (s.drop pos)).2)) = n + (cnt (s.drop (pos + (dec1 (s.drop pos)).2)) + 1) by omega]
          rfl
        | some p =>
          simp only [Option.map_some]
          rw [show n + 1 + p.1 = n + (p.1 + 1) by omega, Nat.add_assoc]
          rfl
    · have : pos = s.length := by omega
      subst this
      have e : failR m [] (!decide (((s.length : Nat) : Int) > (0 : Int))) = none := by cases m <;> rfl
      rw [rvalid_rd, cond_neg (by omega), List.drop_length, e]
      simp [cnt_nil]
def rvPat : SPat := ⟨[(0, .str), (2, .bool), (3, .int .i64), (4, .int .i64)], []⟩
def rvLC : LoopC := LoopC.of rvPat (fun ⟨⟨s, b, n, i, _⟩, _⟩ => decide (n = (0 : Int)) && decide (i = (0 : Int)))
  fun ⟨⟨s, b, n, i, _⟩, _⟩ => [((failR (List.length s) s true).isSome, .ret, rvSt s false ((failR (List.length s) s true).getD (0, 0)).1 ((failR (List.length s) s true).getD (0, 0)).2), (true, .exit 0, rvSt s b (cnt s : Nat) (List.length s))]
theorem rvalid_all (s : List UInt8) (b : Bool) (h1 : s.length ≤ 9223372036854775807) : ∃ k, rounds (env consR) H.cooperageref1_Valid 0 (LPof []) V.cooperageref1_Valid_3 L.cooperageref1_Valid_3 k ⟨[(0, .str s), (2, .bool b), (3, .int .i64 0), (4, .int .i64 0)], [], 0⟩ (fun e s => some (e, s)) =
    pick [((failR s.length s true).isSome, .ret, rvSt s false ((failR s.length s true).getD (0, 0)).1 ((failR s.length s true).getD (0, 0)).2), (true, .exit 0, rvSt s b (cnt s : Nat) s.length)] := by
  have := rvalid_loop s h1 b (fun e s => some (e, s)) s.length 0 0 (by omega) (Nat.zero_le _) (Nat.le_refl _)
  rw [List.drop_zero, show (!decide (((0 : Nat) : Int) > (0 : Int))) = true from rfl] at this
  refine ⟨_, this.trans ?_⟩
  cases failR s.length s true with
  | none => simp [pick]
  | some p => simp [pick]
theorem rvalid_lok : LoopOK P0 H.cooperageref1_Valid 0 L.cooperageref1_Valid_3 rvLC := loop_ok_of (env_ok consR_ok) glob0 mixed0 noLoops V.cooperageref1_Valid_3 (by decide) fun ⟨⟨s, b, n, i, _⟩, _⟩ h hw => by
  simp only [Bool.and_eq_true, decide_eq_true_eq] at h
  obtain ⟨h2, h3⟩ := h
  subst h2; subst h3
  exact rvalid_all s b hw.1.1
theorem rvalid_ev (s : List UInt8) : evFn (env consR) H.cooperageref1_Valid (LPof [(3, rvLC)]) F.cooperageref1_Valid [.str s] [] (finK 0) = bif (failR s.length s true).isSome then some (AV.bool false, []) else Option.bind (bif decide ((↑(cnt s) : Int) > (0 : Int)) then some (decide ((↑(cnt s) : Int) ≤ (40 : Int))) else some false) fun v => some (AV.bool v, []) := by kernel_rfl

def caseRValid : PCase := ⟨[.ty .str], [.bool], fun x => [(true, (validL x.1, ()))]⟩
theorem rvalid_val (s : List UInt8) : evFn (env consR) H.cooperageref1_Valid (LPof [(3, rvLC)]) F.cooperageref1_Valid [.str s] [] (finK 0) = some (.bool (validL s), []) := by
  rw [rvalid_ev, ← valid_both]
  unfold validR
  cases (failR s.length s true).isSome with
  | true => rfl
  | false =>
    cases decide (((cnt s : Nat) : Int) > 0) <;> rfl
theorem rvalid_ok : caseRValid.ok P0 I.cooperageref1_Valid := case_ok (H := H.cooperageref1_Valid) (E := env consR) (env_ok consR_ok) glob0 mixed0 G.cooperageref1_Valid Bd.cooperageref1_Valid (by kernel_rfl) (loops_good (tab := [(3, rvLC)]) (by kernel_rfl) (fun x hx => by simp at hx; subst hx; exact rvalid_lok)) fun ⟨s, ()⟩ y h hw => by
  obtain ⟨hc, rfl⟩ := pick_pre h
  exact ⟨[], rvalid_val s⟩
end Go.Sim
namespace Go.Sim
theorem firstFrom_eq {α : Type} [DecidableEq α] {q : α → α → Bool} (hq : ∀ x y, q x y = decide (x = y)) (d : α) {a b : List α} (h : b.length = a.length) : (firstFrom (fun i => !(q (a.getD i d) (b.getD i d))) 0 a.length).isSome = !decide (a = b) := by
  cases hf : firstFrom (fun i => !(q (a.getD i d) (b.getD i d))) 0 a.length with
  | none =>
    have hn := firstFrom_none hf
    have : a = b := List.ext_getElem h.symm fun i h1 h2 => by
      have := hn i (Nat.zero_le _) (by omega)
      simp only [hq, Bool.not_eq_false', decide_eq_true_eq, List.getD_eq_getElem?_getD, List.getElem?_eq_getElem h1, List.getElem?_eq_getElem h2, Option.getD_some] at this
      exact this
    simp [this]
  | some j =>
    obtain ⟨_, h2, h3, _⟩ := firstFrom_spec hf
    have hne : a ≠ b := fun e => by
      subst e
      simp [hq] at h3
    simp [hne]
def recEqB (a b : Rec) : Bool := a.1 == b.1 && (a.2.1 == b.2.1 && (a.2.2.1 == b.2.2.1 && (a.2.2.2.1 == b.2.2.2.1 && (a.2.2.2.2 == b.2.2.2.2 && true))))
theorem recEqB_eq (a b : Rec) : recEqB a b = decide (a = b) := by
  obtain ⟨a1, a2, a3, a4, a5⟩ := a
  obtain ⟨b1, b2, b3, b4, b5⟩ := b
  unfold recEqB
  apply Bool.eq_iff_iff.2
  simp [Prod.ext_iff]
/-- Is a command too great? -/
def bigQ (r : Rec) : Bool := decide (((List.length r.2.2.1 : Nat) : Int) > 250) || decide (((List.length r.2.2.2.1 : Nat) : Int) > 2100)
abbrev atR (q : Rec → Bool) (a : List Rec) (i : Nat) : Bool := q (a.getD i recTy.zero)
def bigC (c : cmdT.den) : Bool := (firstFrom (atR bigQ c.2.2.2.1) 0 (min (List.length c.2.2.2.1) 70)).isSome || (decide (((List.length c.2.2.2.1 : Nat) : Int) > 60) || decide (((List.length c.2.2.2.2.1 : Nat) : Int) > 300))
theorem bigC_small {c : cmdT.den} (h : bigC c = false) : List.length c.2.2.2.1 ≤ 60 ∧ List.length c.2.2.2.2.1 ≤ 300 ∧ ∀ r ∈ c.2.2.2.1, List.length r.2.2.1 ≤ 250 ∧ List.length r.2.2.2.1 ≤ 2100 := by
  unfold bigC at h
  simp only [Bool.or_eq_false_iff, decide_eq_false_iff_not] at h
  obtain ⟨h1, h2, h3⟩ := h
  refine ⟨by omega, by omega, fun r hr => ?_⟩
  rw [Nat.min_eq_left (by omega)] at h1
  have := firstFrom_any0 (q := bigQ) (d := recTy.zero) c.2.2.2.1
  have e : (firstFrom (fun i => bigQ (c.2.2.2.1.getD i recTy.zero)) 0 c.2.2.2.1.length).isSome = false := h1
  rw [e] at this
  have hq := List.any_eq_false.1 this.symm r hr
  unfold bigQ at hq
  simp only [Bool.or_eq_true, decide_eq_true_eq, not_or] at hq
  omega
end Go.Sim
namespace Go.Sim
/-- May a record be (P401)? -/
def recR (r : Rec) : Bool := decide (r.1 ≥ 0) && (decide (r.1 ≤ 1125899906842624) && (decide (r.2.1 ≥ -1099511627776) && (decide (r.2.1 ≤ 1099511627776) && (decide (((List.length r.2.2.1 : Nat) : Int) ≥ 1) &&
  (decide (((List.length r.2.2.1 : Nat) : Int) ≤ 200) && (decide (((List.length r.2.2.2.1 : Nat) : Int) ≤ 2000) && (!r.2.2.2.2 || r.2.2.2.1 == [])))))))
theorem recR_key (l : List UInt8) : (!(l == [])) = decide (((List.length l : Nat) : Int) ≥ 1) := by
  cases l with
  | nil => rfl
  | cons a b => simp; omega
def plainC (c : Cmd) : Bool := !(!c.1 == 1 && (c.2.1 != 0 || decide (((List.length c.2.2.2.1 : Nat) : Int) > 0)) || (!c.1 == 1 && (!c.1 == 11 && c.2.2.1 != 0) || !(c.1 == 3 || c.1 == 4) && !c.2.2.2.2.1 == [])) &&
  (!(!(c.1 == 2 || (c.1 == 3 || (c.1 == 8 || c.1 == 11))) && c.2.2.2.2.2.1 != 0 || (c.1 != 2 && (!c.1 == 11 && c.2.2.2.2.2.2.1 != 0) || (!(c.1 == 5 || (c.1 == 8 || c.1 == 9)) && c.2.2.2.2.2.2.2.1 != 0 || !c.1 == 11 && c.2.2.2.2.2.2.2.2.1 != 0))) &&
    (c.1 == 6 || c.2.2.2.2.2.2.2.2.2.1 == 0 && (c.2.2.2.2.2.2.2.2.2.2.1 == 0 && (c.2.2.2.2.2.2.2.2.2.2.2.1 == 0 && (c.2.2.2.2.2.2.2.2.2.2.2.2 == 0 && true)))))
def withinB (n a b : Int) : Bool := decide (n ≥ a) && decide (n ≤ b)
def outC (c : Cmd) : Bool := (c.1 == 2 || c.1 == 3) && (decide (c.2.2.2.2.2.1 < 0) || decide (c.2.2.2.2.2.1 > 1125899906842624))
def longR (r : Rec) : Bool := decide (((List.length r.2.2.1 : Nat) : Int) > 200) || decide (((List.length r.2.2.2.1 : Nat) : Int) > 2000)
/-- A command that has just what its kind names. -/
def bareC (c : Cmd) : Cmd × Bool :=
  let z : Cmd := (c.1, 0, 0, [], [], 0, 0, 0, 0, 0, 0, 0, 0)
  bif c.1 == 0 || (c.1 == 7 || c.1 == 10) then (z, true)
  else bif c.1 == 1 then ((c.1, c.2.1, c.2.2.1, c.2.2.2.1, [], 0, 0, 0, 0, 0, 0, 0, 0), true)
  else bif c.1 == 2 then ((c.1, 0, 0, [], [], c.2.2.2.2.2.1, c.2.2.2.2.2.2.1, 0, 0, 0, 0, 0, 0), true)
  else bif c.1 == 3 then ((c.1, 0, 0, [], c.2.2.2.2.1, c.2.2.2.2.2.1, 0, 0, 0, 0, 0, 0, 0), true)
  else bif c.1 == 4 then ((c.1, 0, 0, [], c.2.2.2.2.1, 0, 0, 0, 0, 0, 0, 0, 0), true)
  else bif c.1 == 5 || c.1 == 9 then ((c.1, 0, 0, [], [], 0, 0, c.2.2.2.2.2.2.2.1, 0, 0, 0, 0, 0), true)
  else bif c.1 == 6 then ((c.1, 0, 0, [], [], 0, 0, 0, 0, c.2.2.2.2.2.2.2.2.2), true)
  else bif c.1 == 8 then ((c.1, 0, 0, [], [], c.2.2.2.2.2.1, 0, c.2.2.2.2.2.2.2.1, 0, 0, 0, 0, 0), true)
  else bif c.1 == 11 then ((c.1, 0, c.2.2.1, [], [], c.2.2.2.2.2.1, c.2.2.2.2.2.2.1, 0, c.2.2.2.2.2.2.2.2.1, 0, 0, 0, 0), true)
  else (z, false)
/-- What is wrong with a record of a batch. -/
def badR1 (r : Rec) : Bool := r.1 != 0 || !recR r
def recsB (a : List Rec) : Bool := withinB (List.length a) 1 50 && !a.any badR1
def confB (c : Cnf) : Bool := withinB c.1 1 1000 && (withinB c.2.1 0 1099511627776 && (withinB c.2.2.1 0 1099511627776 && withinB c.2.2.2 0 1099511627776))
theorem cmd_eq (a b : Cmd) : (a.1 == b.1 && (a.2.1 == b.2.1 && (a.2.2.1 == b.2.2.1 && (a.2.2.2.2.1 == b.2.2.2.2.1 && (a.2.2.2.2.2.1 == b.2.2.2.2.2.1 && (a.2.2.2.2.2.2.1 == b.2.2.2.2.2.2.1 && (a.2.2.2.2.2.2.2.1 == b.2.2.2.2.2.2.2.1 &&
    (a.2.2.2.2.2.2.2.2.1 == b.2.2.2.2.2.2.2.2.1 && ((a.2.2.2.2.2.2.2.2.2.1 == b.2.2.2.2.2.2.2.2.2.1 && (a.2.2.2.2.2.2.2.2.2.2.1 == b.2.2.2.2.2.2.2.2.2.2.1 && (a.2.2.2.2.2.2.2.2.2.2.2.1 == b.2.2.2.2.2.2.2.2.2.2.2.1 &&
    (a.2.2.2.2.2.2.2.2.2.2.2.2 == b.2.2.2.2.2.2.2.2.2.2.2.2 && true)))) && decide (a.2.2.2.1 = b.2.2.2.1)))))))))) = decide (a = b) := by
  obtain ⟨a1, a2, a3, a4, a5, a6, a7, a8, a9, a10, a11, a12, a13⟩ := a
  obtain ⟨b1, b2, b3, b4, b5, b6, b7, b8, b9, b10, b11, b12, b13⟩ := b
  apply Bool.eq_iff_iff.2
  simp only [Bool.and_eq_true, beq_iff_eq, decide_eq_true_eq, Prod.mk.injEq, and_true]
  constructor
  · rintro ⟨h1, h2, h3, h5, h6, h7, h8, h9, ⟨h10, h11, h12, h13⟩, h4⟩
    exact ⟨h1, h2, h3, h4, h5, h6, h7, h8, h9, h10, h11, h12, h13⟩
  · rintro ⟨h1, h2, h3, h4, h5, h6, h7, h8, h9, h10, h11, h12, h13⟩
    exact ⟨h1, h2, h3, h5, h6, h7, h8, h9, ⟨h10, h11, h12, h13⟩, h4⟩
def rightC (c : Cmd) : Bool := plainC c && (bif c.1 == 0 || (c.1 == 7 || c.1 == 10) then true
  else bif c.1 == 1 then withinB c.2.1 0 1099511627776 && (withinB c.2.2.1 0 1099511627776 && ((decide (c.2.1 > 0) || c.2.2.1 == 0) && recsB c.2.2.2.1))
  else bif c.1 == 2 then withinB c.2.2.2.2.2.1 0 1125899906842624 && withinB c.2.2.2.2.2.2.1 1 100
  else bif c.1 == 3 then withinB c.2.2.2.2.2.1 0 1125899906842624 && validL c.2.2.2.2.1
  else bif c.1 == 4 then validL c.2.2.2.2.1
  else bif c.1 == 5 || c.1 == 9 then withinB c.2.2.2.2.2.2.2.1 (-1099511627776) 1099511627776
  else bif c.1 == 8 then withinB c.2.2.2.2.2.2.2.1 (-1099511627776) 1099511627776 && withinB c.2.2.2.2.2.1 0 1125899906842624
  else bif c.1 == 6 then confB c.2.2.2.2.2.2.2.2.2
  else bif c.1 == 11 then withinB c.2.2.2.2.2.1 0 1125899906842624 && (withinB c.2.2.1 0 1099511627776 && withinB c.2.2.2.2.2.2.1 0 1099511627776)
  else false)
def knownK (k : Int) : Bool := k == 0 || (k == 7 || k == 10) || k == 1 || k == 2 || k == 3 || k == 4 || (k == 5 || k == 9) || k == 6 || k == 8 || k == 11
theorem len_pos_nil {α : Type} (r : List α) : decide (((List.length r : Nat) : Int) > 0) = !decide (r = []) := by cases r <;> simp
theorem bare_plain (c : Cmd) : ((bareC c).2 && decide ((bareC c).1 = c)) = (knownK c.1 && plainC c) := by
  obtain ⟨k, p, s, r, g, o, m, n, u, c1, c2, c3, c4⟩ := c
  unfold bareC plainC knownK
  simp only [len_pos_nil]
  apply Bool.eq_iff_iff.2
  by_cases h0 : k = 0
  · subst h0; simp <;> grind
  · by_cases h7 : k = 7
    · subst h7; simp <;> grind
    · by_cases h10 : k = 10
      · subst h10; simp <;> grind
      · by_cases h1 : k = 1
        · subst h1; simp <;> grind
        · by_cases h2 : k = 2
          · subst h2; simp <;> grind
          · by_cases h3 : k = 3
            · subst h3; simp <;> grind
            · by_cases h4 : k = 4
              · subst h4; simp <;> grind
              · by_cases h5 : k = 5
                · subst h5; simp <;> grind
                · by_cases h9 : k = 9
                  · subst h9; simp <;> grind
                  · by_cases h6 : k = 6
                    · subst h6; simp <;> grind
                    · by_cases h8 : k = 8
                      · subst h8; simp <;> grind
                      · by_cases h11 : k = 11
                        · subst h11; simp <;> grind
                        · simp [beq_false_of_ne h0, beq_false_of_ne h7, beq_false_of_ne h10, beq_false_of_ne h1, beq_false_of_ne h2, beq_false_of_ne h3, beq_false_of_ne h4, beq_false_of_ne h5, beq_false_of_ne h9, beq_false_of_ne h6, beq_false_of_ne h8, beq_false_of_ne h11]
theorem right_bare (c : Cmd) (h : plainC c = true) : (c.1 = 0 ∨ c.1 = 7 ∨ c.1 = 10 → c.2.2.2.2.2.2.2.1 = 0 ∧ c.2.2.2.2.2.1 = 0) ∧ (c.1 = 5 ∨ c.1 = 9 → c.2.2.2.2.2.1 = 0) := by
  obtain ⟨k, p, s, r, g, o, m, n, u, c1, c2, c3, c4⟩ := c
  unfold plainC at h
  constructor
  · rintro (e | e | e) <;> simp only at e <;> subst e <;> simp at h ⊢ <;> grind
  · rintro (e | e) <;> simp only at e <;> subst e <;> simp at h ⊢ <;> grind
/-- What the program's Right comes to, behind its look at the bare command. -/
def tailC (c : Cmd) : Bool :=
  bif c.1 == 1 then withinB c.2.1 0 1099511627776 && (withinB c.2.2.1 0 1099511627776 && ((decide (c.2.1 > 0) || c.2.2.1 == 0) && recsB c.2.2.2.1))
  else bif c.1 == 2 then withinB c.2.2.2.2.2.1 0 1125899906842624 && withinB c.2.2.2.2.2.2.1 1 100
  else bif c.1 == 3 then withinB c.2.2.2.2.2.1 0 1125899906842624 && validL c.2.2.2.2.1
  else bif c.1 == 4 then validL c.2.2.2.2.1
  else bif c.1 == 6 then confB c.2.2.2.2.2.2.2.2.2
  else bif c.1 == 11 then withinB c.2.2.2.2.2.1 0 1125899906842624 && (withinB c.2.2.1 0 1099511627776 && withinB c.2.2.2.2.2.2.1 0 1099511627776)
  else withinB c.2.2.2.2.2.2.2.1 (-1099511627776) 1099511627776 && withinB c.2.2.2.2.2.1 0 1125899906842624
theorem prog_right (c : Cmd) : ((bareC c).2 && decide ((bareC c).1 = c) && tailC c) = rightC c := by
  rw [bare_plain]
  unfold rightC
  cases hp : plainC c with
  | false => simp
  | true =>
    obtain ⟨a1, a2⟩ := right_bare c hp
    simp only [Bool.and_true, Bool.true_and]
    unfold knownK tailC
    obtain ⟨k, p, s, r, g, o, m, n, u, c1, c2, c3, c4⟩ := c
    simp only at a1 a2 ⊢
    have w0 : withinB 0 (-1099511627776) 1099511627776 = true := by decide
    have w1 : withinB 0 0 1125899906842624 = true := by decide
    by_cases h0 : k = 0
    · subst h0; obtain ⟨e1, e2⟩ := a1 (by simp); subst e1; subst e2; simp [w0, w1]
    · by_cases h7 : k = 7
      · subst h7; obtain ⟨e1, e2⟩ := a1 (by simp); subst e1; subst e2; simp [w0, w1]
      · by_cases h10 : k = 10
        · subst h10; obtain ⟨e1, e2⟩ := a1 (by simp); subst e1; subst e2; simp [w0, w1]
        · by_cases h1 : k = 1
          · subst h1; simp
          · by_cases h2 : k = 2
            · subst h2; simp
            · by_cases h3 : k = 3
              · subst h3; simp
              · by_cases h4 : k = 4
                · subst h4; simp
                · by_cases h5 : k = 5
                  · subst h5; obtain e2 := a2 (by simp); subst e2; simp [w1]
                  · by_cases h9 : k = 9
                    · subst h9; obtain e2 := a2 (by simp); subst e2; simp [w1]
                    · by_cases h6 : k = 6
                      · subst h6; simp
                      · by_cases h8 : k = 8
                        · subst h8; simp
                        · by_cases h11 : k = 11
                          · subst h11; simp
                          · simp [beq_false_of_ne h0, beq_false_of_ne h7, beq_false_of_ne h10, beq_false_of_ne h1, beq_false_of_ne h2, beq_false_of_ne h3, beq_false_of_ne h4, beq_false_of_ne h5, beq_false_of_ne h9, beq_false_of_ne h6, beq_false_of_ne h8, beq_false_of_ne h11]
theorem within_pos {x m : Int} (h : withinB x 0 m = true) : decide (x > 0) = !(x == 0) := by
  unfold withinB at h
  simp only [Bool.and_eq_true, decide_eq_true_eq] at h
  apply Bool.eq_iff_iff.2
  simp; omega
def longC (c : Cmd) : Bool := bif c.1 == 2 then decide (c.2.2.2.2.2.2.1 > 100) else c.1 == 1 && (decide (((List.length c.2.2.2.1 : Nat) : Int) > 50) || List.any c.2.2.2.1 longR)
/-- Why a request is not right. -/
def checkC (c : Cmd) : Int := bif !withinB c.1 1 6 then 1 else bif (c.1 == 3 || c.1 == 4) && !validL c.2.2.2.2.1 then 6 else bif longC c then 3 else bif outC c then 11 else bif !rightC c then 1 else 0
theorem check_right (c : Cmd) : (checkC c == 0) = (withinB c.1 1 6 && rightC c) := by
  unfold checkC
  cases hw : withinB c.1 1 6 with
  | false => rfl
  | true =>
    cases hr : rightC c with
    | false =>
      cases (c.1 == 3 || c.1 == 4) && !validL c.2.2.2.2.1 <;> cases longC c <;> cases outC c <;> rfl
    | true =>
      have hr' := hr
      unfold rightC at hr'
      simp only [Bool.and_eq_true] at hr'
      obtain ⟨hp, hr'⟩ := hr'
      have a1 : ((c.1 == 3 || c.1 == 4) && !validL c.2.2.2.2.1) = false := by
        cases h3 : c.1 == 3 with
        | true => have := eq_of_beq h3; rw [this] at hr'; simp at hr'; simp [hr'.2]
        | false => cases h4 : c.1 == 4 with
          | true => have := eq_of_beq h4; rw [this] at hr'; simp at hr'; simp [hr']
          | false => rfl
      have a2 : longC c = false := by
        unfold longC
        cases h2 : c.1 == 2 with
        | true =>
          have := eq_of_beq h2; rw [this] at hr'; simp [withinB] at hr'; simp; omega
        | false => cases h1 : c.1 == 1 with
          | true =>
            have := eq_of_beq h1; rw [this] at hr'
            have hrec : recsB c.2.2.2.1 = true := by simp at hr'; exact hr'.2.2.2
            unfold recsB withinB at hrec
            simp only [Bool.and_eq_true, Bool.not_eq_true', decide_eq_true_eq] at hrec
            simp only [cond_false, Bool.true_and, Bool.or_eq_false_iff, decide_eq_false_iff_not, List.any_eq_false, Bool.not_eq_true]
            refine ⟨by omega, fun r hr => ?_⟩
            have := List.any_eq_false.1 hrec.2 r hr
            simp [badR1, recR] at this
            simp [longR]; omega
          | false => rfl
      have a3 : outC c = false := by
        unfold outC
        cases h2 : c.1 == 2 with
        | true =>
          have := eq_of_beq h2; rw [this] at hr'; simp [withinB] at hr'; simp; omega
        | false => cases h3 : c.1 == 3 with
          | true => have := eq_of_beq h3; rw [this] at hr'; simp [withinB] at hr'; simp; omega
          | false => rfl
      rw [a1, a2, a3]; rfl
end Go.Sim
namespace Go.Sim
set_option linter.unusedSimpArgs false
set_option linter.unusedVariables false
theorem within10_ev (n m : Int) : evFn (env []) H.cooperageref10_within (LPof []) F.cooperageref10_within [.int .i64 n, .int .i64 m] [] (finT [.bool]) = Option.bind (bif decide (n ≥ (0 : Int)) then some (decide (n ≤ m)) else some false) fun v => some (v, ()) := by kernel_rfl

def caseWithin10 : PCase := ⟨[.ty (.int .i64), .ty (.int .i64)], [.bool], fun x => (fun (n m : Int) => [(true, (withinB n 0 m, ()))]) x.1 x.2.1⟩
theorem within10_val (n m : Int) : evFn (env []) H.cooperageref10_within (LPof []) F.cooperageref10_within [.int .i64 n, .int .i64 m] [] (finT [.bool]) = some (withinB n 0 m, ()) := by
  rw [within10_ev]; simp only [and_bif, Option.bind_some, withinB]
theorem within10_ok : caseWithin10.ok P0 I.cooperageref10_within := case_ok2 (H := H.cooperageref10_within) (E := env []) (env_ok env_nil) glob0 mixed0 G.cooperageref10_within Bd.cooperageref10_within (by kernel_rfl) noLoops fun ⟨n, m, ()⟩ y h hw => by
  obtain ⟨hc, rfl⟩ := pick_pre h
  exact within10_val n m
theorem time10_ev (n : Int) : evFn (env []) H.cooperageref10_time (LPof []) F.cooperageref10_time [.int .i64 n] [] (finT [.bool]) = Option.bind (bif decide (n ≥ (-1099511627776 : Int)) then some (decide (n ≤ (1099511627776 : Int))) else some false) fun v => some (v, ()) := by kernel_rfl

def caseTime10 : PCase := ⟨[.ty (.int .i64)], [.bool], fun x => (fun (n : Int) => [(true, (withinB n (-1099511627776) 1099511627776, ()))]) x.1⟩
theorem time10_val (n : Int) : evFn (env []) H.cooperageref10_time (LPof []) F.cooperageref10_time [.int .i64 n] [] (finT [.bool]) = some (withinB n (-1099511627776) 1099511627776, ()) := by
  rw [time10_ev]; simp only [and_bif, Option.bind_some, withinB]
theorem time10_ok : caseTime10.ok P0 I.cooperageref10_time := case_ok2 (H := H.cooperageref10_time) (E := env []) (env_ok env_nil) glob0 mixed0 G.cooperageref10_time Bd.cooperageref10_time (by kernel_rfl) noLoops fun ⟨n, ()⟩ y h hw => by
  obtain ⟨hc, rfl⟩ := pick_pre h
  exact time10_val n
theorem plain_ev (c : cmdT.den) : evFn (env []) H.cooperageref10_plain (LPof []) F.cooperageref10_plain [valOf cmdT c] [] (finT [.bool]) = Option.bind (bif c.fst == (3 : Int) then some true else some (c.fst == (4 : Int))) fun v => Option.bind (bif c.fst == (2 : Int) then some true else bif c.fst == (3 : Int) then some true else bif c.fst == (8 : Int) then some true else some (c.fst == (11 : Int))) fun v_1 => Option.bind (bif c.fst == (5 : Int) then some true else bif c.fst == (8 : Int) then some true else some (c.fst == (9 : Int))) fun v_2 => Option.bind (bif !c.fst == (1 : Int) then bif c.snd.fst != (0 : Int) then some true else bif decide ((↑(List.length c.snd.snd.snd.fst) : Int) > (0 : Int)) then some true else bif !c.fst == (1 : Int) then bif !c.fst == (11 : Int) then bif c.snd.snd.fst != (0 : Int) then some true else bif !v then some !c.snd.snd.snd.snd.fst == [] else some false else bif !v then some !c.snd.snd.snd.snd.fst == [] else some false else bif !v then some !c.snd.snd.snd.snd.fst == [] else some false else bif !c.fst == (1 : Int) then bif !c.fst == (11 : Int) then bif c.snd.snd.fst != (0 : Int) then some true else bif !v then some !c.snd.snd.snd.snd.fst == [] else some false else bif !v then some !c.snd.snd.snd.snd.fst == [] else some false else bif !v then some !c.snd.snd.snd.snd.fst == [] else some false) fun v => bif v then some (false, ()) else Option.bind (bif !v_1 then bif c.snd.snd.snd.snd.snd.fst != (0 : Int) then some true else bif c.fst != (2 : Int) then bif !c.fst == (11 : Int) then bif c.snd.snd.snd.snd.snd.snd.fst != (0 : Int) then some true else bif !v_2 then bif c.snd.snd.snd.snd.snd.snd.snd.fst != (0 : Int) then some true else bif !c.fst == (11 : Int) then some (c.snd.snd.snd.snd.snd.snd.snd.snd.fst != (0 : Int)) else some false else bif !c.fst == (11 : Int) then some (c.snd.snd.snd.snd.snd.snd.snd.snd.fst != (0 : Int)) else some false else bif !v_2 then bif c.snd.snd.snd.snd.snd.snd.snd.fst != (0 : Int) then some true else bif !c.fst == (11 : Int) then some (c.snd.snd.snd.snd.snd.snd.snd.snd.fst != (0 : Int)) else some false else bif !c.fst == (11 : Int) then some (c.snd.snd.snd.snd.snd.snd.snd.snd.fst != (0 : Int)) else some false else bif !v_2 then bif c.snd.snd.snd.snd.snd.snd.snd.fst != (0 : Int) then some true else bif !c.fst == (11 : Int) then some (c.snd.snd.snd.snd.snd.snd.snd.snd.fst != (0 : Int)) else some false else bif !c.fst == (11 : Int) then some (c.snd.snd.snd.snd.snd.snd.snd.snd.fst != (0 : Int)) else some false else bif c.fst != (2 : Int) then bif !c.fst == (11 : Int) then bif c.snd.snd.snd.snd.snd.snd.fst != (0 : Int) then some true else bif !v_2 then bif c.snd.snd.snd.snd.snd.snd.snd.fst != (0 : Int) then some true else bif !c.fst == (11 : Int) then some (c.snd.snd.snd.snd.snd.snd.snd.snd.fst != (0 : Int)) else some false else bif !c.fst == (11 : Int) then some (c.snd.snd.snd.snd.snd.snd.snd.snd.fst != (0 : Int)) else some false else bif !v_2 then bif c.snd.snd.snd.snd.snd.snd.snd.fst != (0 : Int) then some true else bif !c.fst == (11 : Int) then some (c.snd.snd.snd.snd.snd.snd.snd.snd.fst != (0 : Int)) else some false else bif !c.fst == (11 : Int) then some (c.snd.snd.snd.snd.snd.snd.snd.snd.fst != (0 : Int)) else some false else bif !v_2 then bif c.snd.snd.snd.snd.snd.snd.snd.fst != (0 : Int) then some true else bif !c.fst == (11 : Int) then some (c.snd.snd.snd.snd.snd.snd.snd.snd.fst != (0 : Int)) else some false else bif !c.fst == (11 : Int) then some (c.snd.snd.snd.snd.snd.snd.snd.snd.fst != (0 : Int)) else some false) fun v => bif v then some (false, ()) else Option.bind (bif c.fst == (6 : Int) then some true else some (c.snd.snd.snd.snd.snd.snd.snd.snd.snd.fst == (0 : Int) && (c.snd.snd.snd.snd.snd.snd.snd.snd.snd.snd.fst == (0 : Int) && (c.snd.snd.snd.snd.snd.snd.snd.snd.snd.snd.snd.fst == (0 : Int) && (c.snd.snd.snd.snd.snd.snd.snd.snd.snd.snd.snd.snd == (0 : Int) && true))))) fun v => some (v, ()) := by kernel_rfl

def casePlain : PCase := ⟨[.ty cmdT], [.bool], fun x => (fun (c : Cmd) => [(true, (plainC c, ()))]) x.1⟩
theorem plain_val (c : Cmd) : evFn (env []) H.cooperageref10_plain (LPof []) F.cooperageref10_plain [valOf cmdT c] [] (finT [.bool]) = some (plainC c, ()) := by
  rw [plain_ev]; simp only [and_bif, or_bif, nand_bif, nor_bif, ors_bif, ors2_bif, rfu_bif, Option.bind_some]; rfl
theorem plain_ok : casePlain.ok P0 I.cooperageref10_plain := case_ok2 (H := H.cooperageref10_plain) (E := env []) (env_ok env_nil) glob0 mixed0 G.cooperageref10_plain Bd.cooperageref10_plain (by kernel_rfl) noLoops fun ⟨c, ()⟩ y h hw => by
  obtain ⟨hc, rfl⟩ := pick_pre h
  exact plain_val c
theorem right1_ev (r : recT.den) : evFn (env []) H.cooperageref1_Right (LPof []) F.cooperageref1_Right [valOf recT r] [] (finT [.bool]) = Option.bind (bif decide (r.fst ≥ (0 : Int)) then bif decide (r.fst ≤ (1125899906842624 : Int)) then bif decide (r.snd.fst ≥ (-1099511627776 : Int)) then bif decide (r.snd.fst ≤ (1099511627776 : Int)) then bif decide ((↑(List.length r.snd.snd.fst) : Int) ≥ (1 : Int)) then bif decide ((↑(List.length r.snd.snd.fst) : Int) ≤ (200 : Int)) then bif decide ((↑(List.length r.snd.snd.snd.fst) : Int) ≤ (2000 : Int)) then bif !r.snd.snd.snd.snd then some true else some (r.snd.snd.snd.fst == []) else some false else some false else some false else some false else some false else some false else some false) fun v => some (v, ()) := by kernel_rfl

def caseRight1 : PCase := ⟨[.ty recT], [.bool], fun x => (fun (r : Rec) => [(true, (recR r, ()))]) x.1⟩
theorem right1_val (r : Rec) : evFn (env []) H.cooperageref1_Right (LPof []) F.cooperageref1_Right [valOf recT r] [] (finT [.bool]) = some (recR r, ()) := by
  rw [right1_ev]; simp only [and_bif, or_bif, nand_bif, nor_bif, Option.bind_some]; rfl
theorem right1_ok : caseRight1.ok P0 I.cooperageref1_Right := case_ok2 (H := H.cooperageref1_Right) (E := env []) (env_ok env_nil) glob0 mixed0 G.cooperageref1_Right Bd.cooperageref1_Right (by kernel_rfl) noLoops fun ⟨r, ()⟩ y h hw => by
  obtain ⟨hc, rfl⟩ := pick_pre h
  exact right1_val r
theorem recright_ev (r : recT.den) : evFn (env []) H.record_Right (LPof []) F.record_Right [valOf recT r] [] (finT [.bool]) = Option.bind (bif decide (r.fst ≥ (0 : Int)) then bif decide (r.fst ≤ (1125899906842624 : Int)) then bif decide (r.snd.fst ≥ (-1099511627776 : Int)) then bif decide (r.snd.fst ≤ (1099511627776 : Int)) then bif !r.snd.snd.fst == [] then bif decide ((↑(List.length r.snd.snd.fst) : Int) ≤ (200 : Int)) then bif decide ((↑(List.length r.snd.snd.snd.fst) : Int) ≤ (2000 : Int)) then bif r.snd.snd.snd.snd then some !!r.snd.snd.snd.fst == [] else some true else some false else some false else some false else some false else some false else some false else some false) fun v => some (v, ()) := by kernel_rfl

def caseRecright : PCase := ⟨[.ty recT], [.bool], fun x => (fun (r : Rec) => [(true, (recR r, ()))]) x.1⟩
theorem recright_val (r : Rec) : evFn (env []) H.record_Right (LPof []) F.record_Right [valOf recT r] [] (finT [.bool]) = some (recR r, ()) := by
  rw [recright_ev]; simp only [and_bif, or_bif, nand_bif, nor_bif, Option.bind_some, Bool.not_not, recR_key r.2.2.1]; rfl
theorem recright_ok : caseRecright.ok P0 I.record_Right := case_ok2 (H := H.record_Right) (E := env []) (env_ok env_nil) glob0 mixed0 G.record_Right Bd.record_Right (by kernel_rfl) noLoops fun ⟨r, ()⟩ y h hw => by
  obtain ⟨hc, rfl⟩ := pick_pre h
  exact recright_val r
theorem asked_ev (n : Int) : evFn (env []) H.service_asked (LPof []) F.service_asked [.int .i64 n] [] (finT [.bool]) = Option.bind (bif decide (n ≥ (1 : Int)) then some (decide (n ≤ (6 : Int))) else some false) fun v => some (v, ()) := by kernel_rfl

def caseAsked : PCase := ⟨[.ty (.int .i64)], [.bool], fun x => (fun (n : Int) => [(true, (withinB n 1 6, ()))]) x.1⟩
theorem asked_val (n : Int) : evFn (env []) H.service_asked (LPof []) F.service_asked [.int .i64 n] [] (finT [.bool]) = some (withinB n 1 6, ()) := by
  rw [asked_ev]; simp only [and_bif, Option.bind_some, withinB]
theorem asked_ok : caseAsked.ok P0 I.service_asked := case_ok2 (H := H.service_asked) (E := env []) (env_ok env_nil) glob0 mixed0 G.service_asked Bd.service_asked (by kernel_rfl) noLoops fun ⟨n, ()⟩ y h hw => by
  obtain ⟨hc, rfl⟩ := pick_pre h
  exact asked_val n
theorem named_ev (n : Int) : evFn (env []) H.service_named (LPof []) F.service_named [.int .i64 n] [] (finT [.bool]) = Option.bind (bif n == (3 : Int) then some true else some (n == (4 : Int))) fun v => some (v, ()) := by kernel_rfl

def caseNamed : PCase := ⟨[.ty (.int .i64)], [.bool], fun x => (fun (n : Int) => [(true, ((n == 3 || n == 4), ()))]) x.1⟩
theorem named_val (n : Int) : evFn (env []) H.service_named (LPof []) F.service_named [.int .i64 n] [] (finT [.bool]) = some ((n == 3 || n == 4), ()) := by
  rw [named_ev]; simp only [or_bif, Option.bind_some]
theorem named_ok : caseNamed.ok P0 I.service_named := case_ok2 (H := H.service_named) (E := env []) (env_ok env_nil) glob0 mixed0 G.service_named Bd.service_named (by kernel_rfl) noLoops fun ⟨n, ()⟩ y h hw => by
  obtain ⟨hc, rfl⟩ := pick_pre h
  exact named_val n
theorem out_ev (c : cmdT.den) : evFn (env []) H.service_out (LPof []) F.service_out [valOf cmdT c] [] (finT [.bool]) = Option.bind (bif c.fst == (2 : Int) then bif decide (c.snd.snd.snd.snd.snd.fst < (0 : Int)) then some true else some (decide (c.snd.snd.snd.snd.snd.fst > (1125899906842624 : Int))) else bif c.fst == (3 : Int) then bif decide (c.snd.snd.snd.snd.snd.fst < (0 : Int)) then some true else some (decide (c.snd.snd.snd.snd.snd.fst > (1125899906842624 : Int))) else some false) fun v => some (v, ()) := by kernel_rfl

def caseOut : PCase := ⟨[.ty cmdT], [.bool], fun x => (fun (c : Cmd) => [(true, (outC c, ()))]) x.1⟩
theorem out_val (c : Cmd) : evFn (env []) H.service_out (LPof []) F.service_out [valOf cmdT c] [] (finT [.bool]) = some (outC c, ()) := by
  rw [out_ev]; simp only [and_bif, or_bif, nand_bif, nor_bif, Option.bind_some]; unfold outC; cases c.1 == 2 <;> rfl
theorem out_ok : caseOut.ok P0 I.service_out := case_ok2 (H := H.service_out) (E := env []) (env_ok env_nil) glob0 mixed0 G.service_out Bd.service_out (by kernel_rfl) noLoops fun ⟨c, ()⟩ y h hw => by
  obtain ⟨hc, rfl⟩ := pick_pre h
  exact out_val c
theorem changes_ev (c : cmdT.den) : evFn (env []) H.service_Changes (LPof []) F.service_Changes [valOf cmdT c] [] (finT [.bool]) = Option.bind (bif c.fst == (1 : Int) then some true else bif c.fst == (3 : Int) then some true else some (c.fst == (6 : Int))) fun v => some (v, ()) := by kernel_rfl

def caseChanges : PCase := ⟨[.ty cmdT], [.bool], fun x => (fun (c : Cmd) => [(true, ((c.1 == 1 || (c.1 == 3 || c.1 == 6)), ()))]) x.1⟩
theorem changes_val (c : Cmd) : evFn (env []) H.service_Changes (LPof []) F.service_Changes [valOf cmdT c] [] (finT [.bool]) = some ((c.1 == 1 || (c.1 == 3 || c.1 == 6)), ()) := by
  rw [changes_ev]; simp only [or_bif, Option.bind_some]
theorem changes_ok : caseChanges.ok P0 I.service_Changes := case_ok2 (H := H.service_Changes) (E := env []) (env_ok env_nil) glob0 mixed0 G.service_Changes Bd.service_Changes (by kernel_rfl) noLoops fun ⟨c, ()⟩ y h hw => by
  obtain ⟨hc, rfl⟩ := pick_pre h
  exact changes_val c
theorem long1_ev (r : recT.den) : evFn (env []) H.service_long_1 (LPof []) F.service_long_1 [valOf recT r] [] (finT [.bool]) = Option.bind (bif decide ((↑(List.length r.snd.snd.fst) : Int) > (200 : Int)) then some true else some (decide ((↑(List.length r.snd.snd.snd.fst) : Int) > (2000 : Int)))) fun v => some (v, ()) := by kernel_rfl

def caseLong1 : PCase := ⟨[.ty recT], [.bool], fun x => (fun (r : Rec) => [(true, (longR r, ()))]) x.1⟩
theorem long1_val (r : Rec) : evFn (env []) H.service_long_1 (LPof []) F.service_long_1 [valOf recT r] [] (finT [.bool]) = some (longR r, ()) := by
  rw [long1_ev]; simp only [or_bif, Option.bind_some]; rfl
theorem long1_ok : caseLong1.ok P0 I.service_long_1 := case_ok2 (H := H.service_long_1) (E := env []) (env_ok env_nil) glob0 mixed0 G.service_long_1 Bd.service_long_1 (by kernel_rfl) noLoops fun ⟨r, ()⟩ y h hw => by
  obtain ⟨hc, rfl⟩ := pick_pre h
  exact long1_val r
theorem within_ev (n m k : Int) : evFn (env []) H.command_within (LPof []) F.command_within [.int .i64 n, .int .i64 m, .int .i64 k] [] (finT [.bool]) = Option.bind (bif decide (n ≥ m) then some (decide (n ≤ k)) else some false) fun v => some (v, ()) := by kernel_rfl

def caseWithin : PCase := ⟨[.ty (.int .i64), .ty (.int .i64), .ty (.int .i64)], [.bool], fun x => (fun (n a b : Int) => [(true, (withinB n a b, ()))]) x.1 x.2.1 x.2.2.1⟩
theorem within_val (n a b : Int) : evFn (env []) H.command_within (LPof []) F.command_within [.int .i64 n, .int .i64 a, .int .i64 b] [] (finT [.bool]) = some (withinB n a b, ()) := by
  rw [within_ev]; simp only [and_bif, Option.bind_some, withinB]
theorem within_ok : caseWithin.ok P0 I.command_within := case_ok2 (H := H.command_within) (E := env []) (env_ok env_nil) glob0 mixed0 G.command_within Bd.command_within (by kernel_rfl) noLoops fun ⟨n, a, b, ()⟩ y h hw => by
  obtain ⟨hc, rfl⟩ := pick_pre h
  exact within_val n a b
theorem bare_ev (c : cmdT.den) : evFn (env []) H.command_bare (LPof []) F.command_bare [valOf cmdT c] [] (finT [cmdT, .bool]) = Option.bind (bif c.fst == (0 : Int) then some (c.fst == (0 : Int), ()) else bif c.fst == (7 : Int) then some (c.fst == (7 : Int), ()) else some (c.fst == (10 : Int), ())) fun v => bif v.fst then some ((c.fst, (0 : Int), (0 : Int), [], [], (0 : Int), (0 : Int), (0 : Int), (0 : Int), (0 : Int), (0 : Int), (0 : Int), (0 : Int)), true, ()) else bif c.fst == (1 : Int) then some ((c.fst, c.snd.fst, c.snd.snd.fst, c.snd.snd.snd.fst, [], (0 : Int), (0 : Int), (0 : Int), (0 : Int), (0 : Int), (0 : Int), (0 : Int), (0 : Int)), true, ()) else bif c.fst == (2 : Int) then some ((c.fst, (0 : Int), (0 : Int), [], [], c.snd.snd.snd.snd.snd.fst, c.snd.snd.snd.snd.snd.snd.fst, (0 : Int), (0 : Int), (0 : Int), (0 : Int), (0 : Int), (0 : Int)), true, ()) else bif c.fst == (3 : Int) then some ((c.fst, (0 : Int), (0 : Int), [], c.snd.snd.snd.snd.fst, c.snd.snd.snd.snd.snd.fst, (0 : Int), (0 : Int), (0 : Int), (0 : Int), (0 : Int), (0 : Int), (0 : Int)), true, ()) else bif c.fst == (4 : Int) then some ((c.fst, (0 : Int), (0 : Int), [], c.snd.snd.snd.snd.fst, (0 : Int), (0 : Int), (0 : Int), (0 : Int), (0 : Int), (0 : Int), (0 : Int), (0 : Int)), true, ()) else Option.bind (bif c.fst == (5 : Int) then some (c.fst == (5 : Int), ()) else some (c.fst == (9 : Int), ())) fun v => bif v.fst then some ((c.fst, (0 : Int), (0 : Int), [], [], (0 : Int), (0 : Int), c.snd.snd.snd.snd.snd.snd.snd.fst, (0 : Int), (0 : Int), (0 : Int), (0 : Int), (0 : Int)), true, ()) else bif c.fst == (6 : Int) then some ((c.fst, (0 : Int), (0 : Int), [], [], (0 : Int), (0 : Int), (0 : Int), (0 : Int), c.snd.snd.snd.snd.snd.snd.snd.snd.snd), true, ()) else bif c.fst == (8 : Int) then some ((c.fst, (0 : Int), (0 : Int), [], [], c.snd.snd.snd.snd.snd.fst, (0 : Int), c.snd.snd.snd.snd.snd.snd.snd.fst, (0 : Int), (0 : Int), (0 : Int), (0 : Int), (0 : Int)), true, ()) else bif c.fst == (11 : Int) then some ((c.fst, (0 : Int), c.snd.snd.fst, [], [], c.snd.snd.snd.snd.snd.fst, c.snd.snd.snd.snd.snd.snd.fst, (0 : Int), c.snd.snd.snd.snd.snd.snd.snd.snd.fst, (0 : Int), (0 : Int), (0 : Int), (0 : Int)), true, ()) else some ((c.fst, (0 : Int), (0 : Int), [], [], (0 : Int), (0 : Int), (0 : Int), (0 : Int), (0 : Int), (0 : Int), (0 : Int), (0 : Int)), false, ()) := by kernel_rfl

def caseBare : PCase := ⟨[.ty cmdT], [cmdT, .bool], fun x => (fun (c : Cmd) => [(true, ((bareC c).1, (bareC c).2, ()))]) x.1⟩
theorem bare_val (c : Cmd) : evFn (env []) H.command_bare (LPof []) F.command_bare [valOf cmdT c] [] (finT [cmdT, .bool]) = some ((bareC c).1, (bareC c).2, ()) := by
  rw [bare_ev]
  unfold bareC
  have e1 : (bif c.fst == (0 : Int) then some (c.fst == (0 : Int), ()) else bif c.fst == (7 : Int) then some (c.fst == (7 : Int), ()) else some (c.fst == (10 : Int), ())) = some (c.1 == 0 || (c.1 == 7 || c.1 == 10), ()) := by
    cases h0 : c.1 == 0 <;> cases h7 : c.1 == 7 <;> simp [h0, h7]
  have e2 : (bif c.fst == (5 : Int) then some (c.fst == (5 : Int), ()) else some (c.fst == (9 : Int), ())) = some (c.1 == 5 || c.1 == 9, ()) := by
    cases h0 : c.1 == 5 <;> simp [h0]
  rw [e1, e2]
  simp only [Option.bind_some]
  cases c.1 == 0 || (c.1 == 7 || c.1 == 10) with
  | true => rfl
  | false => cases c.1 == 1 with
    | true => rfl
    | false => cases c.1 == 2 with
      | true => rfl
      | false => cases c.1 == 3 with
        | true => rfl
        | false => cases c.1 == 4 with
          | true => rfl
          | false => cases c.1 == 5 || c.1 == 9 with
            | true => rfl
            | false => cases c.1 == 6 with
              | true => rfl
              | false => cases c.1 == 8 with
                | true => rfl
                | false => cases c.1 == 11 <;> rfl
theorem bare_ok : caseBare.ok P0 I.command_bare := case_ok2 (H := H.command_bare) (E := env []) (env_ok env_nil) glob0 mixed0 G.command_bare Bd.command_bare (by kernel_rfl) noLoops fun ⟨c, ()⟩ y h hw => by
  obtain ⟨hc, rfl⟩ := pick_pre h
  exact bare_val c

end Go.Sim
namespace Go.Sim
set_option linter.unusedSimpArgs false
set_option linter.unusedVariables false
noncomputable abbrev consA1 : List (FuncId × Con) := [(I.record_Right, .pure (pureOf [caseRecright]))]
theorem consA1_ok : ∀ x ∈ consA1, HoldsC P0 x.1 x.2 := by
  intro x hx
  simp at hx
  subst hx
  exact ⟨pureOf_holds (by simp; exact recright_ok), C.record_Right⟩
theorem rec1_ev (r : recT.den) : evFn (env consA1) H.command_records_1 (LPof []) F.command_records_1 [valOf recT r] [] (finT [.bool]) = Option.bind (bif r.fst != (0 : Int) then some true else some !recR r) fun v => some (v, ()) := by kernel_rfl

def caseRec1 : PCase := ⟨[.ty recT], [.bool], fun x => (fun (r : Rec) => [(true, ((r.1 != 0 || !recR r), ()))]) x.1⟩
theorem rec1_val (r : Rec) : evFn (env consA1) H.command_records_1 (LPof []) F.command_records_1 [valOf recT r] [] (finT [.bool]) = some ((r.1 != 0 || !recR r), ()) := by
  rw [rec1_ev]; simp only [or_bif, Option.bind_some]
theorem rec1_ok : caseRec1.ok P0 I.command_records_1 := case_ok2 (H := H.command_records_1) (E := env consA1) (env_ok consA1_ok) glob0 mixed0 G.command_records_1 Bd.command_records_1 (by kernel_rfl) noLoops fun ⟨r, ()⟩ y h hw => by
  obtain ⟨hc, rfl⟩ := pick_pre h
  exact rec1_val r
noncomputable abbrev consA2 : List (FuncId × Con) := [(I.command_records_1, .pure (pureOf [caseRec1])), (I.service_long_1, .pure (pureOf [caseLong1]))]
theorem consA2_ok : ∀ x ∈ consA2, HoldsC P0 x.1 x.2 := by
  intro x hx
  simp at hx
  rcases hx with rfl | rfl
  · exact ⟨pureOf_holds (by simp; exact rec1_ok), C.command_records_1⟩
  · exact ⟨pureOf_holds (by simp; exact long1_ok), C.service_long_1⟩
theorem same_rd {R : Type} (a b : List Rec) (f : Bool) (i : Int) (K : Ex → St → Option R) : roundK (env []) H.cooperageref1_SameRecords 0 (LPof []) V.cooperageref1_SameRecords_4 L.cooperageref1_SameRecords_4 ⟨[(0, .vl recT a), (1, .vl recT b), (4, .bool f), (5, .int .i64 i)], [], 0⟩ K = bif decide (i < (↑a.length : Int)) then bif decide ((0 : Int) ≤ i) && decide (i < (↑a.length : Int)) then bif decide ((0 : Int) ≤ i) && decide (i < (↑b.length : Int)) then bif !((a.getD i.toNat recTy.zero).fst == (b.getD i.toNat recTy.zero).fst && ((a.getD i.toNat recTy.zero).snd.fst == (b.getD i.toNat recTy.zero).snd.fst && ((a.getD i.toNat recTy.zero).snd.snd.fst == (b.getD i.toNat recTy.zero).snd.snd.fst && ((a.getD i.toNat recTy.zero).snd.snd.snd.fst == (b.getD i.toNat recTy.zero).snd.snd.snd.fst && ((a.getD i.toNat recTy.zero).snd.snd.snd.snd == (b.getD i.toNat recTy.zero).snd.snd.snd.snd && true))))) then K Ex.ret { slots := [(0, AV.vl recTy a), (1, AV.vl recTy b), (4, AV.bool false), (5, AV.int IntKind.i64 i)], objs := [], nx := 0 } else K Ex.normal { slots := [(0, AV.vl recTy a), (1, AV.vl recTy b), (4, AV.bool f), (5, AV.int IntKind.i64 (IntKind.i64.wrap (i + (1 : Int))))], objs := [], nx := 0 } else none else none else K (Ex.exit 0) { slots := [(0, AV.vl recTy a), (1, AV.vl recTy b), (4, AV.bool f), (5, AV.int IntKind.i64 i)], objs := [], nx := 0 } := by kernel_rfl

def sameSt (a b : List Rec) (f : Bool) (i : Nat) : St := ⟨[(0, .vl recT a), (1, .vl recT b), (4, .bool f), (5, .int .i64 i)], [], 0⟩
def difB (a b : List Rec) (i : Nat) : Bool := !(recEqB (a.getD i recTy.zero) (b.getD i recTy.zero))
abbrev sameLC : LoopC := LoopC.of ⟨[(0, .vl recT), (1, .vl recT), (4, .bool), (5, .int .i64)], []⟩ (fun x => decide (List.length x.1.2.1 = List.length x.1.1) && decide (x.1.2.2.2.1 = (0 : Int)))
    fun x => [((firstFrom (difB x.1.1 x.1.2.1) 0 (List.length x.1.1)).isSome, .ret, sameSt x.1.1 x.1.2.1 false ((firstFrom (difB x.1.1 x.1.2.1) 0 (List.length x.1.1)).getD 0)), (true, .exit 0, sameSt x.1.1 x.1.2.1 x.1.2.2.1 (List.length x.1.1))]
theorem same_lok : LoopOK P0 H.cooperageref1_SameRecords 0 L.cooperageref1_SameRecords_4 sameLC :=
  loop_ok_of (env_ok env_nil) glob0 mixed0 noLoops V.cooperageref1_SameRecords_4 (by decide) fun ⟨⟨a, b, f, i, _⟩, _⟩ h hw => by
    simp only [Bool.and_eq_true, decide_eq_true_eq] at h
    obtain ⟨h1, h2⟩ := h
    subst h2
    have hm : List.length a ≤ maxL := hw.1.1.1
    unfold maxL at hm
    refine ⟨_, Eq.trans (search_rounds (S := sameSt a b f) (T := sameSt a b false) (p := difB a b) (n := List.length a) (e1 := .ret) (e2 := .exit 0) (s2 := sameSt a b f (List.length a)) (by simp) (by simp) (fun i hi K => ?_) (fun K => ?_) _ (List.length a) 0 (by omega)) search_pick⟩
    · unfold sameSt
      rw [same_rd, cond_pos (by omega), cond_pos2 (by omega) (by omega), cond_pos2 (by omega) (by omega), Int.toNat_natCast, wrap64 (by omega) (by omega)]
      rfl
    · unfold sameSt
      rw [same_rd, cond_neg (by omega)]
theorem same_ev (a b : List Rec) : evFn (env []) H.cooperageref1_SameRecords (LPof [(4, sameLC)]) F.cooperageref1_SameRecords [.vl recT a, .vl recT b] [] (finT [.bool]) = bif (↑a.length : Int) != (↑b.length : Int) then some (false, ()) else bif decide (b.length = a.length) && true && (firstFrom (difB a b) 0 a.length).isSome then some (false, ()) else bif decide (b.length = a.length) && true && true then some (true, ()) else none := by kernel_rfl

theorem equal_rd {R : Type} (a b : List Rec) (f : Bool) (n i : Int) (K : Ex → St → Option R) : roundK (env []) H.slices_Equal_api_Record_api_Record 0 (LPof []) V.slices_Equal_api_Record_api_Record_4 L.slices_Equal_api_Record_api_Record_4 ⟨[(0, .vl recT a), (1, .vl recT b), (4, .bool f), (12, .int .i64 n), (13, .int .i64 i)], [], 0⟩ K = bif decide (i < n) then bif decide ((0 : Int) ≤ i) && decide (i < (↑a.length : Int)) then bif decide ((0 : Int) ≤ i) && decide (i < (↑b.length : Int)) then bif !((a.getD i.toNat recTy.zero).fst == (b.getD i.toNat recTy.zero).fst && ((a.getD i.toNat recTy.zero).snd.fst == (b.getD i.toNat recTy.zero).snd.fst && ((a.getD i.toNat recTy.zero).snd.snd.fst == (b.getD i.toNat recTy.zero).snd.snd.fst && ((a.getD i.toNat recTy.zero).snd.snd.snd.fst == (b.getD i.toNat recTy.zero).snd.snd.snd.fst && ((a.getD i.toNat recTy.zero).snd.snd.snd.snd == (b.getD i.toNat recTy.zero).snd.snd.snd.snd && true))))) then K Ex.ret { slots := [(0, AV.vl recTy a), (1, AV.vl recTy b), (4, AV.bool false), (12, AV.int IntKind.i64 n), (13, AV.int IntKind.i64 i)], objs := [], nx := 0 } else K Ex.normal { slots := [(0, AV.vl recTy a), (1, AV.vl recTy b), (4, AV.bool f), (12, AV.int IntKind.i64 n), (13, AV.int IntKind.i64 (IntKind.i64.wrap (i + (1 : Int))))], objs := [], nx := 0 } else none else none else K (Ex.exit 0) { slots := [(0, AV.vl recTy a), (1, AV.vl recTy b), (4, AV.bool f), (12, AV.int IntKind.i64 n), (13, AV.int IntKind.i64 i)], objs := [], nx := 0 } := by kernel_rfl

theorem index1_rd {R : Type} (a : List Rec) (f n i : Int) (K : Ex → St → Option R) : roundK (env consA2) H.slices_IndexFunc_api_Record_api_Record 0 (LPof []) V.slices_IndexFunc_api_Record_api_Record_2 L.slices_IndexFunc_api_Record_api_Record_2 ⟨[(0, .vl recT a), (1, .fn (.func I.command_records_1) [] []), (4, .int .i64 f), (7, .int .i64 n), (8, .int .i64 i)], [], 0⟩ K = bif decide (i < n) then bif decide ((0 : Int) ≤ i) && decide (i < (↑a.length : Int)) then bif (a.getD i.toNat recTy.zero).fst != (0 : Int) || !recR (a.getD i.toNat recTy.zero) then K Ex.ret { slots := [(0, AV.vl recTy a), (1, AV.fn (Fn.func 86) [] []), (4, AV.int IntKind.i64 i), (7, AV.int IntKind.i64 n), (8, AV.int IntKind.i64 i)], objs := [], nx := 0 } else K Ex.normal { slots := [(0, AV.vl recTy a), (1, AV.fn (Fn.func 86) [] []), (4, AV.int IntKind.i64 f), (7, AV.int IntKind.i64 n), (8, AV.int IntKind.i64 (IntKind.i64.wrap (i + (1 : Int))))], objs := [], nx := 0 } else none else K (Ex.exit 0) { slots := [(0, AV.vl recTy a), (1, AV.fn (Fn.func 86) [] []), (4, AV.int IntKind.i64 f), (7, AV.int IntKind.i64 n), (8, AV.int IntKind.i64 i)], objs := [], nx := 0 } := by kernel_rfl

theorem index2_rd {R : Type} (a : List Rec) (f n i : Int) (K : Ex → St → Option R) : roundK (env consA2) H.slices_IndexFunc_api_Record_api_Record 0 (LPof []) V.slices_IndexFunc_api_Record_api_Record_2 L.slices_IndexFunc_api_Record_api_Record_2 ⟨[(0, .vl recT a), (1, .fn (.func I.service_long_1) [] []), (4, .int .i64 f), (7, .int .i64 n), (8, .int .i64 i)], [], 0⟩ K = bif decide (i < n) then bif decide ((0 : Int) ≤ i) && decide (i < (↑a.length : Int)) then bif longR (a.getD i.toNat recTy.zero) then K Ex.ret { slots := [(0, AV.vl recTy a), (1, AV.fn (Fn.func 84) [] []), (4, AV.int IntKind.i64 i), (7, AV.int IntKind.i64 n), (8, AV.int IntKind.i64 i)], objs := [], nx := 0 } else K Ex.normal { slots := [(0, AV.vl recTy a), (1, AV.fn (Fn.func 84) [] []), (4, AV.int IntKind.i64 f), (7, AV.int IntKind.i64 n), (8, AV.int IntKind.i64 (IntKind.i64.wrap (i + (1 : Int))))], objs := [], nx := 0 } else none else K (Ex.exit 0) { slots := [(0, AV.vl recTy a), (1, AV.fn (Fn.func 84) [] []), (4, AV.int IntKind.i64 f), (7, AV.int IntKind.i64 n), (8, AV.int IntKind.i64 i)], objs := [], nx := 0 } := by kernel_rfl

theorem big_rd {R : Type} (c : Cmd) (f : Bool) (i : Int) (K : Ex → St → Option R) : roundK (env []) H.cooperagelaw10_Big 0 (LPof []) V.cooperagelaw10_Big_2 L.cooperagelaw10_Big_2 ⟨[(1, .ptr 0 (.tl 0) 0), (2, .bool f), (3, .int .i64 i)], [(0, .arr 13 .bool [] [enc cmdT c])], 1⟩ K = Option.bind (bif decide (i < (↑(List.length c.snd.snd.snd.fst) : Int)) then some (decide (i < (70 : Int))) else some false) fun v => bif v then Option.bind (bif decide ((0 : Int) ≤ i) && decide (i < (↑(List.length c.snd.snd.snd.fst) : Int)) then bif decide ((↑(List.length (List.getD c.snd.snd.snd.fst i.toNat recTy.zero).snd.snd.fst) : Int) > (250 : Int)) then some true else bif decide ((0 : Int) ≤ i) && decide (i < (↑(List.length c.snd.snd.snd.fst) : Int)) then some (decide ((↑(List.length (List.getD c.snd.snd.snd.fst i.toNat recTy.zero).snd.snd.snd.fst) : Int) > (2100 : Int))) else none else none) fun v => bif v then K Ex.ret { slots := [(1, AV.ptr 0 (Elt.tl 0) 0), (2, AV.bool true), (3, AV.int IntKind.i64 i)], objs := [(0, AObj.arr 13 Ty.bool [] [[AV.int IntKind.i64 c.fst, AV.int IntKind.i64 c.snd.fst, AV.int IntKind.i64 c.snd.snd.fst, AV.vl recTy c.snd.snd.snd.fst, AV.str c.snd.snd.snd.snd.fst, AV.int IntKind.i64 c.snd.snd.snd.snd.snd.fst, AV.int IntKind.i64 c.snd.snd.snd.snd.snd.snd.fst, AV.int IntKind.i64 c.snd.snd.snd.snd.snd.snd.snd.fst, AV.int IntKind.u32 c.snd.snd.snd.snd.snd.snd.snd.snd.fst, AV.int IntKind.i64 c.snd.snd.snd.snd.snd.snd.snd.snd.snd.fst, AV.int IntKind.i64 c.snd.snd.snd.snd.snd.snd.snd.snd.snd.snd.fst, AV.int IntKind.i64 c.snd.snd.snd.snd.snd.snd.snd.snd.snd.snd.snd.fst, AV.int IntKind.i64 c.snd.snd.snd.snd.snd.snd.snd.snd.snd.snd.snd.snd]])], nx := 1 } else K Ex.normal { slots := [(1, AV.ptr 0 (Elt.tl 0) 0), (2, AV.bool f), (3, AV.int IntKind.i64 (IntKind.i64.wrap (i + (1 : Int))))], objs := [(0, AObj.arr 13 Ty.bool [] [[AV.int IntKind.i64 c.fst, AV.int IntKind.i64 c.snd.fst, AV.int IntKind.i64 c.snd.snd.fst, AV.vl recTy c.snd.snd.snd.fst, AV.str c.snd.snd.snd.snd.fst, AV.int IntKind.i64 c.snd.snd.snd.snd.snd.fst, AV.int IntKind.i64 c.snd.snd.snd.snd.snd.snd.fst, AV.int IntKind.i64 c.snd.snd.snd.snd.snd.snd.snd.fst, AV.int IntKind.u32 c.snd.snd.snd.snd.snd.snd.snd.snd.fst, AV.int IntKind.i64 c.snd.snd.snd.snd.snd.snd.snd.snd.snd.fst, AV.int IntKind.i64 c.snd.snd.snd.snd.snd.snd.snd.snd.snd.snd.fst, AV.int IntKind.i64 c.snd.snd.snd.snd.snd.snd.snd.snd.snd.snd.snd.fst, AV.int IntKind.i64 c.snd.snd.snd.snd.snd.snd.snd.snd.snd.snd.snd.snd]])], nx := 1 } else K (Ex.exit 0) { slots := [(1, AV.ptr 0 (Elt.tl 0) 0), (2, AV.bool f), (3, AV.int IntKind.i64 i)], objs := [(0, AObj.arr 13 Ty.bool [] [[AV.int IntKind.i64 c.fst, AV.int IntKind.i64 c.snd.fst, AV.int IntKind.i64 c.snd.snd.fst, AV.vl recTy c.snd.snd.snd.fst, AV.str c.snd.snd.snd.snd.fst, AV.int IntKind.i64 c.snd.snd.snd.snd.snd.fst, AV.int IntKind.i64 c.snd.snd.snd.snd.snd.snd.fst, AV.int IntKind.i64 c.snd.snd.snd.snd.snd.snd.snd.fst, AV.int IntKind.u32 c.snd.snd.snd.snd.snd.snd.snd.snd.fst, AV.int IntKind.i64 c.snd.snd.snd.snd.snd.snd.snd.snd.snd.fst, AV.int IntKind.i64 c.snd.snd.snd.snd.snd.snd.snd.snd.snd.snd.fst, AV.int IntKind.i64 c.snd.snd.snd.snd.snd.snd.snd.snd.snd.snd.snd.fst, AV.int IntKind.i64 c.snd.snd.snd.snd.snd.snd.snd.snd.snd.snd.snd.snd]])], nx := 1 } := by kernel_rfl

def equalSt (a b : List Rec) (f : Bool) (n : Int) (i : Nat) : St := ⟨[(0, .vl recT a), (1, .vl recT b), (4, .bool f), (12, .int .i64 n), (13, .int .i64 i)], [], 0⟩
abbrev equalLC : LoopC := LoopC.of ⟨[(0, .vl recT), (1, .vl recT), (4, .bool), (12, .int .i64), (13, .int .i64)], []⟩ (fun x => decide (List.length x.1.2.1 = List.length x.1.1) && decide (x.1.2.2.2.1 = (List.length x.1.1 : Int)) && decide (x.1.2.2.2.2.1 = (0 : Int)))
    fun x => [((firstFrom (difB x.1.1 x.1.2.1) 0 (List.length x.1.1)).isSome, .ret, equalSt x.1.1 x.1.2.1 false (List.length x.1.1) ((firstFrom (difB x.1.1 x.1.2.1) 0 (List.length x.1.1)).getD 0)), (true, .exit 0, equalSt x.1.1 x.1.2.1 x.1.2.2.1 (List.length x.1.1) (List.length x.1.1))]
theorem equal_lok : LoopOK P0 H.slices_Equal_api_Record_api_Record 0 L.slices_Equal_api_Record_api_Record_4 equalLC :=
  loop_ok_of (env_ok env_nil) glob0 mixed0 noLoops V.slices_Equal_api_Record_api_Record_4 (by decide) fun ⟨⟨a, b, f, n, i, _⟩, _⟩ h hw => by
    simp only [Bool.and_eq_true, decide_eq_true_eq] at h
    obtain ⟨⟨h1, h3⟩, h2⟩ := h
    subst h2; subst h3
    have hm : List.length a ≤ maxL := hw.1.1.1
    unfold maxL at hm
    refine ⟨_, Eq.trans (search_rounds (S := equalSt a b f (List.length a)) (T := equalSt a b false (List.length a)) (p := difB a b) (n := List.length a) (e1 := .ret) (e2 := .exit 0) (s2 := equalSt a b f (List.length a) (List.length a)) (by simp) (by simp) (fun i hi K => ?_) (fun K => ?_) _ (List.length a) 0 (by omega)) search_pick⟩
    · unfold equalSt
      rw [equal_rd, cond_pos (by omega), cond_pos2 (by omega) (by omega), cond_pos2 (by omega) (by omega), Int.toNat_natCast, wrap64 (by omega) (by omega)]
      rfl
    · unfold equalSt
      rw [equal_rd, cond_neg (by omega)]
theorem equal_ev (a b : List Rec) : evFn (env []) H.slices_Equal_api_Record_api_Record (LPof [(4, equalLC)]) F.slices_Equal_api_Record_api_Record [.vl recT a, .vl recT b] [] (finT [.bool]) = bif (↑a.length : Int) != (↑b.length : Int) then some (false, ()) else bif decide (b.length = a.length) && decide ((↑a.length : Int) = (↑a.length : Int)) && true && (firstFrom (difB a b) 0 a.length).isSome then some (false, ()) else bif decide (b.length = a.length) && decide ((↑a.length : Int) = (↑a.length : Int)) && true && true then some (true, ()) else none := by kernel_rfl

def idx1St (a : List Rec) (f n : Int) (i : Nat) : St := ⟨[(0, .vl recT a), (1, .fn (.func I.command_records_1) [] []), (4, .int .i64 f), (7, .int .i64 n), (8, .int .i64 i)], [], 0⟩
def idx2St (a : List Rec) (f n : Int) (i : Nat) : St := ⟨[(0, .vl recT a), (1, .fn (.func I.service_long_1) [] []), (4, .int .i64 f), (7, .int .i64 n), (8, .int .i64 i)], [], 0⟩
abbrev idx1LC : LoopC := LoopC.of ⟨[(0, .vl recT), (1, .fn I.command_records_1 []), (4, .int .i64), (7, .int .i64), (8, .int .i64)], []⟩ (fun x => decide (x.1.2.2.2.1 = (List.length x.1.1 : Int)) && decide (x.1.2.2.2.2.1 = (0 : Int)))
    fun x => [((firstFrom (atR badR1 x.1.1) 0 (List.length x.1.1)).isSome, .ret, idx1St x.1.1 ((firstFrom (atR badR1 x.1.1) 0 (List.length x.1.1)).getD 0 : Nat) (List.length x.1.1) ((firstFrom (atR badR1 x.1.1) 0 (List.length x.1.1)).getD 0)), (true, .exit 0, idx1St x.1.1 x.1.2.2.1 (List.length x.1.1) (List.length x.1.1))]
abbrev idx2LC : LoopC := LoopC.of ⟨[(0, .vl recT), (1, .fn I.service_long_1 []), (4, .int .i64), (7, .int .i64), (8, .int .i64)], []⟩ (fun x => decide (x.1.2.2.2.1 = (List.length x.1.1 : Int)) && decide (x.1.2.2.2.2.1 = (0 : Int)))
    fun x => [((firstFrom (atR longR x.1.1) 0 (List.length x.1.1)).isSome, .ret, idx2St x.1.1 ((firstFrom (atR longR x.1.1) 0 (List.length x.1.1)).getD 0 : Nat) (List.length x.1.1) ((firstFrom (atR longR x.1.1) 0 (List.length x.1.1)).getD 0)), (true, .exit 0, idx2St x.1.1 x.1.2.2.1 (List.length x.1.1) (List.length x.1.1))]
theorem idx1_lok : LoopOK P0 H.slices_IndexFunc_api_Record_api_Record 0 L.slices_IndexFunc_api_Record_api_Record_2 idx1LC :=
  loop_ok_of (env_ok consA2_ok) glob0 mixed0 noLoops V.slices_IndexFunc_api_Record_api_Record_2 (by decide) fun ⟨⟨a, _, f, n, i, _⟩, _⟩ h hw => by
    simp only [Bool.and_eq_true, decide_eq_true_eq] at h
    obtain ⟨h3, h2⟩ := h
    subst h2; subst h3
    have hm : List.length a ≤ maxL := hw.1.1.1
    unfold maxL at hm
    refine ⟨_, Eq.trans (search_rounds (S := idx1St a f (List.length a)) (T := fun i => idx1St a i (List.length a) i) (p := atR badR1 a) (n := List.length a) (e1 := .ret) (e2 := .exit 0) (s2 := idx1St a f (List.length a) (List.length a)) (by simp) (by simp) (fun i hi K => ?_) (fun K => ?_) _ (List.length a) 0 (by omega)) search_pick⟩
    · unfold idx1St
      rw [index1_rd, cond_pos (by omega), cond_pos2 (by omega) (by omega), Int.toNat_natCast, wrap64 (by omega) (by omega)]
      rfl
    · unfold idx1St
      rw [index1_rd, cond_neg (by omega)]
theorem idx2_lok : LoopOK P0 H.slices_IndexFunc_api_Record_api_Record 0 L.slices_IndexFunc_api_Record_api_Record_2 idx2LC :=
  loop_ok_of (env_ok consA2_ok) glob0 mixed0 noLoops V.slices_IndexFunc_api_Record_api_Record_2 (by decide) fun ⟨⟨a, _, f, n, i, _⟩, _⟩ h hw => by
    simp only [Bool.and_eq_true, decide_eq_true_eq] at h
    obtain ⟨h3, h2⟩ := h
    subst h2; subst h3
    have hm : List.length a ≤ maxL := hw.1.1.1
    unfold maxL at hm
    refine ⟨_, Eq.trans (search_rounds (S := idx2St a f (List.length a)) (T := fun i => idx2St a i (List.length a) i) (p := atR longR a) (n := List.length a) (e1 := .ret) (e2 := .exit 0) (s2 := idx2St a f (List.length a) (List.length a)) (by simp) (by simp) (fun i hi K => ?_) (fun K => ?_) _ (List.length a) 0 (by omega)) search_pick⟩
    · unfold idx2St
      rw [index2_rd, cond_pos (by omega), cond_pos2 (by omega) (by omega), Int.toNat_natCast, wrap64 (by omega) (by omega)]
      rfl
    · unfold idx2St
      rw [index2_rd, cond_neg (by omega)]
theorem idx1_ev (a : List Rec) : evFn (env consA2) H.slices_IndexFunc_api_Record_api_Record (LPof [(2, idx1LC)]) F.slices_IndexFunc_api_Record_api_Record [.vl recT a, .fn (.func I.command_records_1) [] []] [] (finT [.int .i64]) = bif decide ((↑a.length : Int) = (↑a.length : Int)) && true && (firstFrom (atR badR1 a) 0 a.length).isSome then some ((↑((firstFrom (atR badR1 a) 0 a.length).getD 0) : Int), ()) else bif decide ((↑a.length : Int) = (↑a.length : Int)) && true && true then some ((-1 : Int), ()) else none := by kernel_rfl

theorem idx2_ev (a : List Rec) : evFn (env consA2) H.slices_IndexFunc_api_Record_api_Record (LPof [(2, idx2LC)]) F.slices_IndexFunc_api_Record_api_Record [.vl recT a, .fn (.func I.service_long_1) [] []] [] (finT [.int .i64]) = bif decide ((↑a.length : Int) = (↑a.length : Int)) && true && (firstFrom (atR longR a) 0 a.length).isSome then some ((↑((firstFrom (atR longR a) 0 a.length).getD 0) : Int), ()) else bif decide ((↑a.length : Int) = (↑a.length : Int)) && true && true then some ((-1 : Int), ()) else none := by kernel_rfl

abbrev cmdP : List Pat := [.int .i64, .int .i64, .int .i64, .vl recT, .str, .int .i64, .int .i64, .int .i64, .int .u32, .int .i64, .int .i64, .int .i64, .int .i64]
def bigSt (y : patsDen cmdP) (f : Bool) (i : Nat) : St := ⟨[(1, .ptr 0 (.tl 0) 0), (2, .bool f), (3, .int .i64 i)], [(0, .arr 13 .bool [] [patsMk cmdP y])], 1⟩
abbrev bigLC : LoopC := LoopC.of ⟨[(1, .lit (.ptr 0 (.tl 0) 0)), (2, .bool), (3, .int .i64)], [.box 13 [cmdP]]⟩ (fun x => decide (x.1.2.2.1 = (0 : Int)))
    fun x => [((firstFrom (atR bigQ x.2.1.1.2.2.2.1) 0 (min (List.length x.2.1.1.2.2.2.1) 70)).isSome, .ret, bigSt x.2.1.1 true ((firstFrom (atR bigQ x.2.1.1.2.2.2.1) 0 (min (List.length x.2.1.1.2.2.2.1) 70)).getD 0)),
      (true, .exit 0, bigSt x.2.1.1 x.1.2.1 (min (List.length x.2.1.1.2.2.2.1) 70))]
theorem big_lok : LoopOK P0 H.cooperagelaw10_Big 0 L.cooperagelaw10_Big_2 bigLC :=
  loop_ok_of (env_ok env_nil) glob0 mixed0 noLoops V.cooperagelaw10_Big_2 (by decide) fun ⟨⟨_, f, i, _⟩, ⟨⟨k, p, s, r, g, o, m, n, u, c1, c2, c3, c4, _⟩, _⟩, _⟩ h hw => by
    obtain rfl := of_decide_eq_true h
    have hm : List.length r ≤ maxL := hw.2.1.1.2.2.2.1.1
    unfold maxL at hm
    have hmin : min (List.length r) 70 ≤ List.length r ∧ min (List.length r) 70 ≤ 70 := ⟨Nat.min_le_left _ _, Nat.min_le_right _ _⟩
    have rd := fun (f : Bool) (i : Int) (K : Ex → St → Option (Ex × St)) => big_rd (k, p, s, r, g, o, m, n, u, c1, c2, c3, c4) f i K
    refine ⟨_, Eq.trans (search_rounds (S := bigSt (k, p, s, r, g, o, m, n, u, c1, c2, c3, c4, ()) f) (T := bigSt (k, p, s, r, g, o, m, n, u, c1, c2, c3, c4, ()) true) (p := atR bigQ r) (n := min (List.length r) 70) (e1 := .ret) (e2 := .exit 0) (s2 := bigSt (k, p, s, r, g, o, m, n, u, c1, c2, c3, c4, ()) f (min (List.length r) 70)) (by simp) (by simp) (fun i hi K => ?_) (fun K => ?_) _ (min (List.length r) 70) 0 (by omega)) search_pick⟩
    · refine (rd f i K).trans ?_
      simp only
      rw [cond_pos (by omega), decide_eq_true (show (i : Int) < 70 by omega)]
      simp only [Option.bind_some, cond_true]
      rw [cond_pos2 (by omega) (by omega), cond_pos2 (by omega) (by omega), or_bif, Int.toNat_natCast, wrap64 (by omega) (by omega)]
      rfl
    · refine (rd f _ K).trans ?_
      rw [and_bif]
      have : (decide (((min (List.length r) 70 : Nat) : Int) < (List.length r : Int)) && decide (((min (List.length r) 70 : Nat) : Int) < 70)) = false := by simp; omega
      rw [this]
      rfl
theorem big_ev (c : Cmd) : evFn (env []) H.cooperagelaw10_Big (LPof [(2, bigLC)]) F.cooperagelaw10_Big [valOf cmdT c] [] (finT [.bool]) = bif (firstFrom (atR bigQ c.snd.snd.snd.fst) 0 (min (List.length c.snd.snd.snd.fst) 70)).isSome then some (true, ()) else Option.bind (bif decide ((↑(List.length c.snd.snd.snd.fst) : Int) > (60 : Int)) then some true else some (decide ((↑(List.length c.snd.snd.snd.snd.fst) : Int) > (300 : Int)))) fun v => some (v, ()) := by kernel_rfl
def caseSame : PCase := ⟨[.ty (.sl recT), .ty (.sl recT)], [.bool], fun x => (fun (a b : List Rec) => [(true, (decide (a = b), ()))]) x.1 x.2.1⟩
theorem same_val (a b : List Rec) : evFn (env []) H.cooperageref1_SameRecords (LPof [(4, sameLC)]) F.cooperageref1_SameRecords [.vl recT a, .vl recT b] [] (finT [.bool]) = some (decide (a = b), ()) := by
  rw [same_ev]
  by_cases h : b.length = a.length
  · have h1 : ((a.length : Int) != (b.length : Int)) = false := by simp; omega
    have := firstFrom_eq recEqB_eq recTy.zero h
    unfold difB
    rw [h1, this, decide_eq_true h]
    cases decide (a = b) <;> rfl
  · have h1 : ((a.length : Int) != (b.length : Int)) = true := by simp; omega
    have h2 : a ≠ b := fun e => h (by rw [e])
    rw [h1, decide_eq_false h2]; rfl
theorem same_ok : caseSame.ok P0 I.cooperageref1_SameRecords := case_ok2 (H := H.cooperageref1_SameRecords) (E := env []) (env_ok env_nil) glob0 mixed0 G.cooperageref1_SameRecords Bd.cooperageref1_SameRecords (by kernel_rfl) (loops_good (tab := [(4, sameLC)]) (by kernel_rfl) (fun x hx => by simp at hx; subst hx; exact same_lok)) fun ⟨a, b, ()⟩ y h hw => by
  obtain ⟨hc, rfl⟩ := pick_pre h
  exact same_val a b
def caseEqual : PCase := ⟨[.ty (.sl recT), .ty (.sl recT)], [.bool], fun x => (fun (a b : List Rec) => [(true, (decide (a = b), ()))]) x.1 x.2.1⟩
theorem equal_val (a b : List Rec) : evFn (env []) H.slices_Equal_api_Record_api_Record (LPof [(4, equalLC)]) F.slices_Equal_api_Record_api_Record [.vl recT a, .vl recT b] [] (finT [.bool]) = some (decide (a = b), ()) := by
  rw [equal_ev]
  by_cases h : b.length = a.length
  · have h1 : ((a.length : Int) != (b.length : Int)) = false := by simp; omega
    have := firstFrom_eq recEqB_eq recTy.zero h
    unfold difB
    rw [h1, this, decide_eq_true h]
    cases decide (a = b) <;> simp
  · have h1 : ((a.length : Int) != (b.length : Int)) = true := by simp; omega
    have h2 : a ≠ b := fun e => h (by rw [e])
    rw [h1, decide_eq_false h2]; rfl
theorem equal_ok : caseEqual.ok P0 I.slices_Equal_api_Record_api_Record := case_ok2 (H := H.slices_Equal_api_Record_api_Record) (E := env []) (env_ok env_nil) glob0 mixed0 G.slices_Equal_api_Record_api_Record Bd.slices_Equal_api_Record_api_Record (by kernel_rfl) (loops_good (tab := [(4, equalLC)]) (by kernel_rfl) (fun x hx => by simp at hx; subst hx; exact equal_lok)) fun ⟨a, b, ()⟩ y h hw => by
  obtain ⟨hc, rfl⟩ := pick_pre h
  exact equal_val a b
def caseIdx1 : PCase := ⟨[.ty (.sl recT), .fn I.command_records_1 []], [.int .i64], fun x => (fun (a : List Rec) (u : Unit) => [(true, ((((firstFrom (atR badR1 a) 0 (List.length a)).map fun j => (j : Int)).getD (-1)), ()))]) x.1 x.2.1⟩
theorem idx1_val (a : List Rec) (u : Unit) : evFn (env consA2) H.slices_IndexFunc_api_Record_api_Record (LPof [(2, idx1LC)]) F.slices_IndexFunc_api_Record_api_Record [.vl recT a, .fn (.func I.command_records_1) [] []] [] (finT [.int .i64]) = some ((((firstFrom (atR badR1 a) 0 (List.length a)).map fun j => (j : Int)).getD (-1)), ()) := by
  rw [idx1_ev]
  cases firstFrom (atR badR1 a) 0 a.length <;> simp
theorem idx1_ok : caseIdx1.ok P0 I.slices_IndexFunc_api_Record_api_Record := case_ok2 (H := H.slices_IndexFunc_api_Record_api_Record) (E := env consA2) (env_ok consA2_ok) glob0 mixed0 G.slices_IndexFunc_api_Record_api_Record Bd.slices_IndexFunc_api_Record_api_Record (by kernel_rfl) (loops_good (tab := [(2, idx1LC)]) (by kernel_rfl) (fun x hx => by simp at hx; subst hx; exact idx1_lok)) fun ⟨a, u, ()⟩ y h hw => by
  obtain ⟨hc, rfl⟩ := pick_pre h
  exact idx1_val a u
def caseIdx2 : PCase := ⟨[.ty (.sl recT), .fn I.service_long_1 []], [.int .i64], fun x => (fun (a : List Rec) (u : Unit) => [(true, ((((firstFrom (atR longR a) 0 (List.length a)).map fun j => (j : Int)).getD (-1)), ()))]) x.1 x.2.1⟩
theorem idx2_val (a : List Rec) (u : Unit) : evFn (env consA2) H.slices_IndexFunc_api_Record_api_Record (LPof [(2, idx2LC)]) F.slices_IndexFunc_api_Record_api_Record [.vl recT a, .fn (.func I.service_long_1) [] []] [] (finT [.int .i64]) = some ((((firstFrom (atR longR a) 0 (List.length a)).map fun j => (j : Int)).getD (-1)), ()) := by
  rw [idx2_ev]
  cases firstFrom (atR longR a) 0 a.length <;> simp
theorem idx2_ok : caseIdx2.ok P0 I.slices_IndexFunc_api_Record_api_Record := case_ok2 (H := H.slices_IndexFunc_api_Record_api_Record) (E := env consA2) (env_ok consA2_ok) glob0 mixed0 G.slices_IndexFunc_api_Record_api_Record Bd.slices_IndexFunc_api_Record_api_Record (by kernel_rfl) (loops_good (tab := [(2, idx2LC)]) (by kernel_rfl) (fun x hx => by simp at hx; subst hx; exact idx2_lok)) fun ⟨a, u, ()⟩ y h hw => by
  obtain ⟨hc, rfl⟩ := pick_pre h
  exact idx2_val a u
noncomputable abbrev consA3 : List (FuncId × Con) := [(I.slices_IndexFunc_api_Record_api_Record, .pure (pureOf [caseIdx1, caseIdx2]))]
theorem consA3_ok : ∀ x ∈ consA3, HoldsC P0 x.1 x.2 := by
  intro x hx
  simp at hx
  subst hx
  exact ⟨pureOf_holds (by simp; exact ⟨idx1_ok, idx2_ok⟩), C.slices_IndexFunc_api_Record_api_Record⟩
theorem has1_ev (a : List Rec) : evFn (env consA3) H.slices_ContainsFunc_api_Record_api_Record (LPof []) F.slices_ContainsFunc_api_Record_api_Record [.vl recT a, .fn (.func I.command_records_1) [] []] [] (finT [.bool]) =
  some
    (decide
        ((Option.map (fun j => j) do
                let a ← firstFrom (atR badR1 a) 0 a.length
                pure (↑a : Int)).getD
            (-1 : Int) ≥
          (0 : Int)),
      ()) := by kernel_rfl

theorem has2_ev (a : List Rec) : evFn (env consA3) H.slices_ContainsFunc_api_Record_api_Record (LPof []) F.slices_ContainsFunc_api_Record_api_Record [.vl recT a, .fn (.func I.service_long_1) [] []] [] (finT [.bool]) =
  some
    (decide
        ((Option.map (fun j => j) do
                let a ← firstFrom (atR longR a) 0 a.length
                pure (↑a : Int)).getD
            (-1 : Int) ≥
          (0 : Int)),
      ()) := by kernel_rfl

theorem idx_any (q : Rec → Bool) (a : List Rec) : decide ((((firstFrom (atR q a) 0 (List.length a)).map fun j => (j : Int)).getD (-1)) ≥ 0) = a.any q := by
  rw [← firstFrom_any0 (q := q) (d := recTy.zero) a]
  show _ = (firstFrom (atR q a) 0 a.length).isSome
  cases firstFrom (atR q a) 0 a.length with
  | none => rfl
  | some j => simp
def caseHas1 : PCase := ⟨[.ty (.sl recT), .fn I.command_records_1 []], [.bool], fun x => (fun (a : List Rec) (u : Unit) => [(true, (a.any badR1, ()))]) x.1 x.2.1⟩
theorem has1_val (a : List Rec) (u : Unit) : evFn (env consA3) H.slices_ContainsFunc_api_Record_api_Record (LPof []) F.slices_ContainsFunc_api_Record_api_Record [.vl recT a, .fn (.func I.command_records_1) [] []] [] (finT [.bool]) = some (a.any badR1, ()) := by
  rw [has1_ev, idx_any]
theorem has1_ok : caseHas1.ok P0 I.slices_ContainsFunc_api_Record_api_Record := case_ok2 (H := H.slices_ContainsFunc_api_Record_api_Record) (E := env consA3) (env_ok consA3_ok) glob0 mixed0 G.slices_ContainsFunc_api_Record_api_Record Bd.slices_ContainsFunc_api_Record_api_Record (by kernel_rfl) noLoops fun ⟨a, u, ()⟩ y h hw => by
  obtain ⟨hc, rfl⟩ := pick_pre h
  exact has1_val a u
def caseHas2 : PCase := ⟨[.ty (.sl recT), .fn I.service_long_1 []], [.bool], fun x => (fun (a : List Rec) (u : Unit) => [(true, (a.any longR, ()))]) x.1 x.2.1⟩
theorem has2_val (a : List Rec) (u : Unit) : evFn (env consA3) H.slices_ContainsFunc_api_Record_api_Record (LPof []) F.slices_ContainsFunc_api_Record_api_Record [.vl recT a, .fn (.func I.service_long_1) [] []] [] (finT [.bool]) = some (a.any longR, ()) := by
  rw [has2_ev, idx_any]
theorem has2_ok : caseHas2.ok P0 I.slices_ContainsFunc_api_Record_api_Record := case_ok2 (H := H.slices_ContainsFunc_api_Record_api_Record) (E := env consA3) (env_ok consA3_ok) glob0 mixed0 G.slices_ContainsFunc_api_Record_api_Record Bd.slices_ContainsFunc_api_Record_api_Record (by kernel_rfl) noLoops fun ⟨a, u, ()⟩ y h hw => by
  obtain ⟨hc, rfl⟩ := pick_pre h
  exact has2_val a u
def caseBig : PCase := ⟨[.ty cmdT], [.bool], fun x => (fun (c : Cmd) => [(true, (bigC c, ()))]) x.1⟩
theorem big_val (c : Cmd) : evFn (env []) H.cooperagelaw10_Big (LPof [(2, bigLC)]) F.cooperagelaw10_Big [valOf cmdT c] [] (finT [.bool]) = some (bigC c, ()) := by
  rw [big_ev]; simp only [or_bif, Option.bind_some, rtu_bif]; rfl
theorem big_ok : caseBig.ok P0 I.cooperagelaw10_Big := case_ok2 (H := H.cooperagelaw10_Big) (E := env []) (env_ok env_nil) glob0 mixed0 G.cooperagelaw10_Big Bd.cooperagelaw10_Big (by kernel_rfl) (loops_good (tab := [(2, bigLC)]) (by kernel_rfl) (fun x hx => by simp at hx; subst hx; exact big_lok)) fun ⟨c, ()⟩ y h hw => by
  obtain ⟨hc, rfl⟩ := pick_pre h
  exact big_val c

end Go.Sim
namespace Go.Sim
set_option linter.unusedSimpArgs false
set_option linter.unusedVariables false
noncomputable abbrev consB1 : List (FuncId × Con) := [(I.command_within, .pure (pureOf [caseWithin])), (I.slices_ContainsFunc_api_Record_api_Record, .pure (pureOf [caseHas1])), (I.slices_Equal_api_Record_api_Record, .pure (pureOf [caseEqual]))]
theorem consB1_ok : ∀ x ∈ consB1, HoldsC P0 x.1 x.2 := by
  intro x hx
  simp at hx
  rcases hx with rfl | rfl | rfl
  · exact ⟨pureOf_holds (by simp; exact within_ok), C.command_within⟩
  · exact ⟨pureOf_holds (by simp; exact has1_ok), C.slices_ContainsFunc_api_Record_api_Record⟩
  · exact ⟨pureOf_holds (by simp; exact equal_ok), C.slices_Equal_api_Record_api_Record⟩
theorem records_ev (a : List Rec) : evFn (env consB1) H.command_records (LPof []) F.command_records [.vl recT a] [] (finT [.bool]) = Option.bind (bif withinB (↑a.length : Int) (1 : Int) (50 : Int) then some !a.any badR1 else some false) fun v => some (v, ()) := by kernel_rfl

theorem conf_ev (c : confT.den) : evFn (env consB1) H.command_conf (LPof []) F.command_conf [valOf confT c] [] (finT [.bool]) = Option.bind (bif withinB c.fst (1 : Int) (1000 : Int) then bif withinB c.snd.fst (0 : Int) (1099511627776 : Int) then bif withinB c.snd.snd.fst (0 : Int) (1099511627776 : Int) then some (withinB c.snd.snd.snd (0 : Int) (1099511627776 : Int)) else some false else some false else some false) fun v => some (v, ()) := by kernel_rfl

theorem csame_ev (a b : Cmd) : evFn (env consB1) H.command_Same (LPof []) F.command_Same [valOf cmdT a, valOf cmdT b] [] (finT [.bool]) = Option.bind (bif a.fst == b.fst then bif a.snd.fst == b.snd.fst then bif a.snd.snd.fst == b.snd.snd.fst then bif a.snd.snd.snd.snd.fst == b.snd.snd.snd.snd.fst then bif a.snd.snd.snd.snd.snd.fst == b.snd.snd.snd.snd.snd.fst then bif a.snd.snd.snd.snd.snd.snd.fst == b.snd.snd.snd.snd.snd.snd.fst then bif a.snd.snd.snd.snd.snd.snd.snd.fst == b.snd.snd.snd.snd.snd.snd.snd.fst then bif a.snd.snd.snd.snd.snd.snd.snd.snd.fst == b.snd.snd.snd.snd.snd.snd.snd.snd.fst then bif a.snd.snd.snd.snd.snd.snd.snd.snd.snd.fst == b.snd.snd.snd.snd.snd.snd.snd.snd.snd.fst && (a.snd.snd.snd.snd.snd.snd.snd.snd.snd.snd.fst == b.snd.snd.snd.snd.snd.snd.snd.snd.snd.snd.fst && (a.snd.snd.snd.snd.snd.snd.snd.snd.snd.snd.snd.fst == b.snd.snd.snd.snd.snd.snd.snd.snd.snd.snd.snd.fst && (a.snd.snd.snd.snd.snd.snd.snd.snd.snd.snd.snd.snd == b.snd.snd.snd.snd.snd.snd.snd.snd.snd.snd.snd.snd && true))) then some (decide (a.snd.snd.snd.fst = b.snd.snd.snd.fst)) else some false else some false else some false else some false else some false else some false else some false else some false else some false) fun v => some (v, ()) := by kernel_rfl

noncomputable abbrev consB2 : List (FuncId × Con) := [(I.cooperageref10_within, .pure (pureOf [caseWithin10])), (I.cooperageref10_time, .pure (pureOf [caseTime10])), (I.cooperageref10_plain, .pure (pureOf [casePlain])), (I.cooperageref1_Right, .pure (pureOf [caseRight1])), (I.cooperageref1_Valid, .pure (pureOf [caseRValid]))]
theorem consB2_ok : ∀ x ∈ consB2, HoldsC P0 x.1 x.2 := by
  intro x hx
  simp at hx
  rcases hx with rfl | rfl | rfl | rfl | rfl
  · exact ⟨pureOf_holds (by simp; exact within10_ok), C.cooperageref10_within⟩
  · exact ⟨pureOf_holds (by simp; exact time10_ok), C.cooperageref10_time⟩
  · exact ⟨pureOf_holds (by simp; exact plain_ok), C.cooperageref10_plain⟩
  · exact ⟨pureOf_holds (by simp; exact right1_ok), C.cooperageref1_Right⟩
  · exact ⟨pureOf_holds (by simp; exact rvalid_ok), C.cooperageref1_Valid⟩
theorem rright_rd {R : Type} (c : Cmd) (f : Bool) (i : Int) (K : Ex → St → Option R) : roundK (env consB2) H.cooperageref10_Right 0 (LPof []) V.cooperageref10_Right_12 L.cooperageref10_Right_12 ⟨[(1, .ptr 0 (.tl 0) 0), (2, .bool f), (3, .int .i64 i)], [(0, .arr 13 .bool [] [enc cmdT c])], 1⟩ K = bif decide (i < (↑(List.length c.snd.snd.snd.fst) : Int)) then Option.bind (bif decide ((0 : Int) ≤ i) && decide (i < (↑(List.length c.snd.snd.snd.fst) : Int)) then bif (List.getD c.snd.snd.snd.fst i.toNat recTy.zero).fst != (0 : Int) then some true else bif decide ((0 : Int) ≤ i) && decide (i < (↑(List.length c.snd.snd.snd.fst) : Int)) then some !recR (List.getD c.snd.snd.snd.fst i.toNat recTy.zero) else none else none) fun v => bif v then K Ex.ret { slots := [(1, AV.ptr 0 (Elt.tl 0) 0), (2, AV.bool false), (3, AV.int IntKind.i64 i)], objs := [(0, AObj.arr 13 Ty.bool [] [[AV.int IntKind.i64 c.fst, AV.int IntKind.i64 c.snd.fst, AV.int IntKind.i64 c.snd.snd.fst, AV.vl recTy c.snd.snd.snd.fst, AV.str c.snd.snd.snd.snd.fst, AV.int IntKind.i64 c.snd.snd.snd.snd.snd.fst, AV.int IntKind.i64 c.snd.snd.snd.snd.snd.snd.fst, AV.int IntKind.i64 c.snd.snd.snd.snd.snd.snd.snd.fst, AV.int IntKind.u32 c.snd.snd.snd.snd.snd.snd.snd.snd.fst, AV.int IntKind.i64 c.snd.snd.snd.snd.snd.snd.snd.snd.snd.fst, AV.int IntKind.i64 c.snd.snd.snd.snd.snd.snd.snd.snd.snd.snd.fst, AV.int IntKind.i64 c.snd.snd.snd.snd.snd.snd.snd.snd.snd.snd.snd.fst, AV.int IntKind.i64 c.snd.snd.snd.snd.snd.snd.snd.snd.snd.snd.snd.snd]])], nx := 1 } else K Ex.normal { slots := [(1, AV.ptr 0 (Elt.tl 0) 0), (2, AV.bool f), (3, AV.int IntKind.i64 (IntKind.i64.wrap (i + (1 : Int))))], objs := [(0, AObj.arr 13 Ty.bool [] [[AV.int IntKind.i64 c.fst, AV.int IntKind.i64 c.snd.fst, AV.int IntKind.i64 c.snd.snd.fst, AV.vl recTy c.snd.snd.snd.fst, AV.str c.snd.snd.snd.snd.fst, AV.int IntKind.i64 c.snd.snd.snd.snd.snd.fst, AV.int IntKind.i64 c.snd.snd.snd.snd.snd.snd.fst, AV.int IntKind.i64 c.snd.snd.snd.snd.snd.snd.snd.fst, AV.int IntKind.u32 c.snd.snd.snd.snd.snd.snd.snd.snd.fst, AV.int IntKind.i64 c.snd.snd.snd.snd.snd.snd.snd.snd.snd.fst, AV.int IntKind.i64 c.snd.snd.snd.snd.snd.snd.snd.snd.snd.snd.fst, AV.int IntKind.i64 c.snd.snd.snd.snd.snd.snd.snd.snd.snd.snd.snd.fst, AV.int IntKind.i64 c.snd.snd.snd.snd.snd.snd.snd.snd.snd.snd.snd.snd]])], nx := 1 } else K (Ex.exit 1) { slots := [(1, AV.ptr 0 (Elt.tl 0) 0), (2, AV.bool f), (3, AV.int IntKind.i64 i)], objs := [(0, AObj.arr 13 Ty.bool [] [[AV.int IntKind.i64 c.fst, AV.int IntKind.i64 c.snd.fst, AV.int IntKind.i64 c.snd.snd.fst, AV.vl recTy c.snd.snd.snd.fst, AV.str c.snd.snd.snd.snd.fst, AV.int IntKind.i64 c.snd.snd.snd.snd.snd.fst, AV.int IntKind.i64 c.snd.snd.snd.snd.snd.snd.fst, AV.int IntKind.i64 c.snd.snd.snd.snd.snd.snd.snd.fst, AV.int IntKind.u32 c.snd.snd.snd.snd.snd.snd.snd.snd.fst, AV.int IntKind.i64 c.snd.snd.snd.snd.snd.snd.snd.snd.snd.fst, AV.int IntKind.i64 c.snd.snd.snd.snd.snd.snd.snd.snd.snd.snd.fst, AV.int IntKind.i64 c.snd.snd.snd.snd.snd.snd.snd.snd.snd.snd.snd.fst, AV.int IntKind.i64 c.snd.snd.snd.snd.snd.snd.snd.snd.snd.snd.snd.snd]])], nx := 1 } := by kernel_rfl
def caseRecords : PCase := ⟨[.ty (.sl recT)], [.bool], fun x => (fun (a : List Rec) => [(true, (recsB a, ()))]) x.1⟩
theorem records_val (a : List Rec) : evFn (env consB1) H.command_records (LPof []) F.command_records [.vl recT a] [] (finT [.bool]) = some (recsB a, ()) := by
  rw [records_ev]; simp only [and_bif, Option.bind_some]; rfl
theorem records_ok : caseRecords.ok P0 I.command_records := case_ok2 (H := H.command_records) (E := env consB1) (env_ok consB1_ok) glob0 mixed0 G.command_records Bd.command_records (by kernel_rfl) noLoops fun ⟨a, ()⟩ y h hw => by
  obtain ⟨hc, rfl⟩ := pick_pre h
  exact records_val a
def caseConf : PCase := ⟨[.ty confT], [.bool], fun x => (fun (c : Cnf) => [(true, (confB c, ()))]) x.1⟩
theorem conf_val (c : Cnf) : evFn (env consB1) H.command_conf (LPof []) F.command_conf [valOf confT c] [] (finT [.bool]) = some (confB c, ()) := by
  rw [conf_ev]; simp only [and_bif, Option.bind_some]; rfl
theorem conf_ok : caseConf.ok P0 I.command_conf := case_ok2 (H := H.command_conf) (E := env consB1) (env_ok consB1_ok) glob0 mixed0 G.command_conf Bd.command_conf (by kernel_rfl) noLoops fun ⟨c, ()⟩ y h hw => by
  obtain ⟨hc, rfl⟩ := pick_pre h
  exact conf_val c
def caseCsame : PCase := ⟨[.ty cmdT, .ty cmdT], [.bool], fun x => (fun (a b : Cmd) => [(true, (decide (a = b), ()))]) x.1 x.2.1⟩
theorem csame_val (a b : Cmd) : evFn (env consB1) H.command_Same (LPof []) F.command_Same [valOf cmdT a, valOf cmdT b] [] (finT [.bool]) = some (decide (a = b), ()) := by
  rw [csame_ev]; simp only [and_bif, Option.bind_some]; rw [cmd_eq]
theorem csame_ok : caseCsame.ok P0 I.command_Same := case_ok2 (H := H.command_Same) (E := env consB1) (env_ok consB1_ok) glob0 mixed0 G.command_Same Bd.command_Same (by kernel_rfl) noLoops fun ⟨a, b, ()⟩ y h hw => by
  obtain ⟨hc, rfl⟩ := pick_pre h
  exact csame_val a b
noncomputable abbrev consB3 : List (FuncId × Con) := [(I.command_bare, .pure (pureOf [caseBare])), (I.command_within, .pure (pureOf [caseWithin])), (I.command_records, .pure (pureOf [caseRecords])), (I.command_conf, .pure (pureOf [caseConf])), (I.command_Same, .pure (pureOf [caseCsame])), (I.names_Valid, .pure (pureOf [caseValid]))]
theorem consB3_ok : ∀ x ∈ consB3, HoldsC P0 x.1 x.2 := by
  intro x hx
  simp at hx
  rcases hx with rfl | rfl | rfl | rfl | rfl | rfl
  · exact ⟨pureOf_holds (by simp; exact bare_ok), C.command_bare⟩
  · exact ⟨pureOf_holds (by simp; exact within_ok), C.command_within⟩
  · exact ⟨pureOf_holds (by simp; exact records_ok), C.command_records⟩
  · exact ⟨pureOf_holds (by simp; exact conf_ok), C.command_conf⟩
  · exact ⟨pureOf_holds (by simp; exact csame_ok), C.command_Same⟩
  · exact ⟨pureOf_holds (by simp; exact valid_ok), C.names_Valid⟩
theorem cright_ev (c : Cmd) : evFn (env consB3) H.command_Right (LPof []) F.command_Right [valOf cmdT c] [] (finT [.bool]) = Option.bind (bif !(bareC c).snd then some true else some !decide ((bareC c).fst = c)) fun v => bif v then some (false, ()) else bif c.fst == (1 : Int) then Option.bind (bif withinB c.snd.fst (0 : Int) (1099511627776 : Int) then bif withinB c.snd.snd.fst (0 : Int) (1099511627776 : Int) then bif decide (c.snd.fst > (0 : Int)) then some (recsB c.snd.snd.snd.fst) else bif c.snd.snd.fst == (0 : Int) then some (recsB c.snd.snd.snd.fst) else some false else some false else some false) fun v => some (v, ()) else bif c.fst == (2 : Int) then Option.bind (bif withinB c.snd.snd.snd.snd.snd.fst (0 : Int) (1125899906842624 : Int) then some (withinB c.snd.snd.snd.snd.snd.snd.fst (1 : Int) (100 : Int)) else some false) fun v => some (v, ()) else bif c.fst == (3 : Int) then Option.bind (bif withinB c.snd.snd.snd.snd.snd.fst (0 : Int) (1125899906842624 : Int) then some (validL c.snd.snd.snd.snd.fst) else some false) fun v => some (v, ()) else bif c.fst == (4 : Int) then some (validL c.snd.snd.snd.snd.fst, ()) else bif c.fst == (6 : Int) then some (confB c.snd.snd.snd.snd.snd.snd.snd.snd.snd, ()) else bif c.fst == (11 : Int) then Option.bind (bif withinB c.snd.snd.snd.snd.snd.fst (0 : Int) (1125899906842624 : Int) then bif withinB c.snd.snd.fst (0 : Int) (1099511627776 : Int) then some (withinB c.snd.snd.snd.snd.snd.snd.fst (0 : Int) (1099511627776 : Int)) else some false else some false) fun v => some (v, ()) else Option.bind (bif withinB c.snd.snd.snd.snd.snd.snd.snd.fst (-1099511627776 : Int) (1099511627776 : Int) then some (withinB c.snd.snd.snd.snd.snd.fst (0 : Int) (1125899906842624 : Int)) else some false) fun v => some (v, ()) := by kernel_rfl

def rrSt (y : patsDen cmdP) (f : Bool) (i : Nat) : St := ⟨[(1, .ptr 0 (.tl 0) 0), (2, .bool f), (3, .int .i64 i)], [(0, .arr 13 .bool [] [patsMk cmdP y])], 1⟩
abbrev rrLC : LoopC := LoopC.of ⟨[(1, .lit (.ptr 0 (.tl 0) 0)), (2, .bool), (3, .int .i64)], [.box 13 [cmdP]]⟩ (fun x => decide (x.1.2.2.1 = (0 : Int)))
    fun x => [((firstFrom (atR badR1 x.2.1.1.2.2.2.1) 0 (List.length x.2.1.1.2.2.2.1)).isSome, .ret, rrSt x.2.1.1 false ((firstFrom (atR badR1 x.2.1.1.2.2.2.1) 0 (List.length x.2.1.1.2.2.2.1)).getD 0)),
      (true, .exit 1, rrSt x.2.1.1 x.1.2.1 (List.length x.2.1.1.2.2.2.1))]
theorem rr_lok : LoopOK P0 H.cooperageref10_Right 0 L.cooperageref10_Right_12 rrLC :=
  loop_ok_of (env_ok consB2_ok) glob0 mixed0 noLoops V.cooperageref10_Right_12 (by decide) fun ⟨⟨_, f, i, _⟩, ⟨⟨k, p, s, r, g, o, m, n, u, c1, c2, c3, c4, _⟩, _⟩, _⟩ h hw => by
    obtain rfl := of_decide_eq_true h
    have hm : List.length r ≤ maxL := hw.2.1.1.2.2.2.1.1
    unfold maxL at hm
    have rd := fun (f : Bool) (i : Int) (K : Ex → St → Option (Ex × St)) => rright_rd (k, p, s, r, g, o, m, n, u, c1, c2, c3, c4) f i K
    refine ⟨_, Eq.trans (search_rounds (S := rrSt (k, p, s, r, g, o, m, n, u, c1, c2, c3, c4, ()) f) (T := rrSt (k, p, s, r, g, o, m, n, u, c1, c2, c3, c4, ()) false) (p := atR badR1 r) (n := List.length r) (e1 := .ret) (e2 := .exit 1) (s2 := rrSt (k, p, s, r, g, o, m, n, u, c1, c2, c3, c4, ()) f (List.length r)) (by simp) (by simp) (fun i hi K => ?_) (fun K => ?_) _ (List.length r) 0 (by omega)) search_pick⟩
    · refine (rd f i K).trans ?_
      simp only
      rw [cond_pos (by omega), cond_pos2 (by omega) (by omega), cond_pos2 (by omega) (by omega), or_bif, Int.toNat_natCast, wrap64 (by omega) (by omega)]
      rfl
    · refine (rd f _ K).trans ?_
      rw [cond_neg (by simp)]
      rfl
theorem rright_ev (c : Cmd) : evFn (env consB2) H.cooperageref10_Right (LPof [(12, rrLC)]) F.cooperageref10_Right [valOf cmdT c] [] (finT [.bool]) = bif !plainC c then some (false, ()) else Option.bind (bif c.fst == (0 : Int) then some (c.fst == (0 : Int), ()) else bif c.fst == (7 : Int) then some (c.fst == (7 : Int), ()) else some (c.fst == (10 : Int), ())) fun v => bif v.fst then some (true, ()) else bif c.fst == (1 : Int) then Option.bind (bif !withinB c.snd.fst (0 : Int) (1099511627776 : Int) then some true else bif !withinB c.snd.snd.fst (0 : Int) (1099511627776 : Int) then some true else bif c.snd.fst == (0 : Int) then bif c.snd.snd.fst != (0 : Int) then some true else bif decide ((↑(List.length c.snd.snd.snd.fst) : Int) < (1 : Int)) then some true else some (decide ((↑(List.length c.snd.snd.snd.fst) : Int) > (50 : Int))) else bif decide ((↑(List.length c.snd.snd.snd.fst) : Int) < (1 : Int)) then some true else some (decide ((↑(List.length c.snd.snd.snd.fst) : Int) > (50 : Int)))) fun v => bif v then some (false, ()) else bif (firstFrom (atR badR1 c.snd.snd.snd.fst) 0 (List.length c.snd.snd.snd.fst)).isSome then some (false, ()) else some (true, ()) else bif c.fst == (2 : Int) then Option.bind (bif withinB c.snd.snd.snd.snd.snd.fst (0 : Int) (1125899906842624 : Int) then bif decide (c.snd.snd.snd.snd.snd.snd.fst ≥ (1 : Int)) then some (decide (c.snd.snd.snd.snd.snd.snd.fst ≤ (100 : Int))) else some false else some false) fun v => some (v, ()) else bif c.fst == (3 : Int) then Option.bind (bif withinB c.snd.snd.snd.snd.snd.fst (0 : Int) (1125899906842624 : Int) then some (validL c.snd.snd.snd.snd.fst) else some false) fun v => some (v, ()) else bif c.fst == (4 : Int) then some (validL c.snd.snd.snd.snd.fst, ()) else Option.bind (bif c.fst == (5 : Int) then some (c.fst == (5 : Int), ()) else some (c.fst == (9 : Int), ())) fun v => bif v.fst then some (withinB c.snd.snd.snd.snd.snd.snd.snd.fst (-1099511627776 : Int) (1099511627776 : Int), ()) else bif c.fst == (8 : Int) then Option.bind (bif withinB c.snd.snd.snd.snd.snd.snd.snd.fst (-1099511627776 : Int) (1099511627776 : Int) then some (withinB c.snd.snd.snd.snd.snd.fst (0 : Int) (1125899906842624 : Int)) else some false) fun v => some (v, ()) else bif c.fst == (6 : Int) then Option.bind (bif decide (c.snd.snd.snd.snd.snd.snd.snd.snd.snd.fst ≥ (1 : Int)) then bif decide (c.snd.snd.snd.snd.snd.snd.snd.snd.snd.fst ≤ (1000 : Int)) then bif withinB c.snd.snd.snd.snd.snd.snd.snd.snd.snd.snd.fst (0 : Int) (1099511627776 : Int) then bif withinB c.snd.snd.snd.snd.snd.snd.snd.snd.snd.snd.snd.fst (0 : Int) (1099511627776 : Int) then some (withinB c.snd.snd.snd.snd.snd.snd.snd.snd.snd.snd.snd.snd (0 : Int) (1099511627776 : Int)) else some false else some false else some false else some false) fun v => some (v, ()) else bif c.fst == (11 : Int) then Option.bind (bif withinB c.snd.snd.snd.snd.snd.fst (0 : Int) (1125899906842624 : Int) then bif withinB c.snd.snd.fst (0 : Int) (1099511627776 : Int) then some (withinB c.snd.snd.snd.snd.snd.snd.fst (0 : Int) (1099511627776 : Int)) else some false else some false) fun v => some (v, ()) else some (false, ()) := by kernel_rfl
theorem recs_lens (r : List Rec) : (decide (((List.length r : Nat) : Int) < 1) || decide (((List.length r : Nat) : Int) > 50)) = !withinB (List.length r) 1 50 := by
  unfold withinB
  apply Bool.eq_iff_iff.2
  simp
def caseCright : PCase := ⟨[.ty cmdT], [.bool], fun x => (fun (c : Cmd) => [(true, (rightC c, ()))]) x.1⟩
theorem cright_val (c : Cmd) : evFn (env consB3) H.command_Right (LPof []) F.command_Right [valOf cmdT c] [] (finT [.bool]) = some (rightC c, ()) := by
  rw [cright_ev, ← prog_right]
  simp only [and_bif, or_bif, nand_bif, nor_bif, ors_bif, ors2_bif, oand_bif, selfor, someu_bif, Option.bind_some]
  unfold tailC
  cases (bareC c).2 <;> cases decide ((bareC c).1 = c) <;> rfl
theorem cright_ok : caseCright.ok P0 I.command_Right := case_ok2 (H := H.command_Right) (E := env consB3) (env_ok consB3_ok) glob0 mixed0 G.command_Right Bd.command_Right (by kernel_rfl) noLoops fun ⟨c, ()⟩ y h hw => by
  obtain ⟨hc, rfl⟩ := pick_pre h
  exact cright_val c
def caseRright : PCase := ⟨[.ty cmdT], [.bool], fun x => (fun (c : Cmd) => [(true, (rightC c, ()))]) x.1⟩
theorem rright_val (c : Cmd) : evFn (env consB2) H.cooperageref10_Right (LPof [(12, rrLC)]) F.cooperageref10_Right [valOf cmdT c] [] (finT [.bool]) = some (rightC c, ()) := by
  rw [rright_ev]
  unfold rightC
  have e1 : (bif (firstFrom (atR badR1 c.2.2.2.1) 0 (List.length c.2.2.2.1)).isSome then some (false, ()) else some (true, ())) = some (!List.any c.2.2.2.1 badR1, ()) := by
    have := firstFrom_any0 (q := badR1) (d := recTy.zero) c.2.2.2.1
    rw [← this]
    show _ = some (!(firstFrom (atR badR1 c.2.2.2.1) 0 (List.length c.2.2.2.1)).isSome, ())
    cases (firstFrom (atR badR1 c.2.2.2.1) 0 (List.length c.2.2.2.1)).isSome <;> rfl
  simp only [recs_lens, e1, and_bif, or_bif, nand_bif, nor_bif, ors_bif, ors2_bif, oand_bif, selfor, someu_bif, Option.bind_some]
  cases plainC c with
  | false => rfl
  | true =>
    cases c.1 == 0 || (c.1 == 7 || c.1 == 10) with
    | true => rfl
    | false =>
      cases c.1 == 1 with
      | true =>
        unfold recsB
        cases hp : withinB c.2.1 0 1099511627776 with
        | false => rfl
        | true =>
          rw [within_pos hp]
          cases withinB c.2.2.1 0 1099511627776 <;> cases c.2.1 == 0 <;> cases h : c.2.2.1 == 0 <;> cases withinB (List.length c.2.2.2.1) 1 50 <;> simp [bne, h]
      | false =>
        cases c.1 == 2 with
        | true => rfl
        | false =>
          cases c.1 == 3 with
          | true => rfl
          | false =>
            cases c.1 == 4 with
            | true => rfl
            | false =>
              cases c.1 == 5 || c.1 == 9 with
              | true => rfl
              | false =>
                cases c.1 == 8 with
                | true => rfl
                | false =>
                  cases c.1 == 6 with
                  | true =>
                    unfold confB withinB
                    simp only [cond_true, cond_false, Bool.true_and, Bool.and_assoc, Bool.not_true]
                  | false => cases c.1 == 11 <;> rfl
theorem rright_ok : caseRright.ok P0 I.cooperageref10_Right := case_ok2 (H := H.cooperageref10_Right) (E := env consB2) (env_ok consB2_ok) glob0 mixed0 G.cooperageref10_Right Bd.cooperageref10_Right (by kernel_rfl) (loops_good (tab := [(12, rrLC)]) (by kernel_rfl) (fun x hx => by simp at hx; subst hx; exact rr_lok)) fun ⟨c, ()⟩ y h hw => by
  obtain ⟨hc, rfl⟩ := pick_pre h
  exact rright_val c
noncomputable abbrev consB4 : List (FuncId × Con) := [(I.service_asked, .pure (pureOf [caseAsked])), (I.service_named, .pure (pureOf [caseNamed])), (I.service_out, .pure (pureOf [caseOut])), (I.names_Valid, .pure (pureOf [caseValid])), (I.command_Right, .pure (pureOf [caseCright])), (I.slices_ContainsFunc_api_Record_api_Record, .pure (pureOf [caseHas2]))]
theorem consB4_ok : ∀ x ∈ consB4, HoldsC P0 x.1 x.2 := by
  intro x hx
  simp at hx
  rcases hx with rfl | rfl | rfl | rfl | rfl | rfl
  · exact ⟨pureOf_holds (by simp; exact asked_ok), C.service_asked⟩
  · exact ⟨pureOf_holds (by simp; exact named_ok), C.service_named⟩
  · exact ⟨pureOf_holds (by simp; exact out_ok), C.service_out⟩
  · exact ⟨pureOf_holds (by simp; exact valid_ok), C.names_Valid⟩
  · exact ⟨pureOf_holds (by simp; exact cright_ok), C.command_Right⟩
  · exact ⟨pureOf_holds (by simp; exact has2_ok), C.slices_ContainsFunc_api_Record_api_Record⟩
theorem long_ev (c : Cmd) : evFn (env consB4) H.service_long (LPof []) F.service_long [valOf cmdT c] [] (finT [.bool]) = bif c.fst == (2 : Int) then some (decide (c.snd.snd.snd.snd.snd.snd.fst > (100 : Int)), ()) else Option.bind (bif c.fst == (1 : Int) then bif decide ((↑(List.length c.snd.snd.snd.fst) : Int) > (50 : Int)) then some true else some (List.any c.snd.snd.snd.fst longR) else some false) fun v => some (v, ()) := by kernel_rfl

def caseLong : PCase := ⟨[.ty cmdT], [.bool], fun x => (fun (c : Cmd) => [(true, (longC c, ()))]) x.1⟩
theorem long_val (c : Cmd) : evFn (env consB4) H.service_long (LPof []) F.service_long [valOf cmdT c] [] (finT [.bool]) = some (longC c, ()) := by
  rw [long_ev]; simp only [and_bif, or_bif, nand_bif, nor_bif, ors_bif, ors2_bif, oand_bif, selfor, someu_bif, Option.bind_some]; rfl
theorem long_ok : caseLong.ok P0 I.service_long := case_ok2 (H := H.service_long) (E := env consB4) (env_ok consB4_ok) glob0 mixed0 G.service_long Bd.service_long (by kernel_rfl) noLoops fun ⟨c, ()⟩ y h hw => by
  obtain ⟨hc, rfl⟩ := pick_pre h
  exact long_val c
noncomputable abbrev consB5 : List (FuncId × Con) := [(I.service_long, .pure (pureOf [caseLong]))] ++ consB4
theorem consB5_ok : ∀ x ∈ consB5, HoldsC P0 x.1 x.2 := by
  intro x hx
  rcases List.mem_append.1 hx with hx | hx
  · simp at hx
    subst hx
    exact ⟨pureOf_holds (by simp; exact long_ok), C.service_long⟩
  · exact consB4_ok x hx
theorem check_ev (c : Cmd) : evFn (env consB5) H.service_Check (LPof []) F.service_Check [valOf cmdT c] [] (finT [.int .i64]) = bif !withinB c.fst (1 : Int) (6 : Int) then some ((1 : Int), ()) else Option.bind (bif c.fst == (3 : Int) || c.fst == (4 : Int) then some !validL c.snd.snd.snd.snd.fst else some false) fun v => bif v then some ((6 : Int), ()) else bif longC c then some ((3 : Int), ()) else bif outC c then some ((11 : Int), ()) else bif !rightC c then some ((1 : Int), ()) else some ((0 : Int), ()) := by kernel_rfl

def caseCheck : PCase := ⟨[.ty cmdT], [.int .i64], fun x => (fun (c : Cmd) => [(true, (checkC c, ()))]) x.1⟩
theorem check_val (c : Cmd) : evFn (env consB5) H.service_Check (LPof []) F.service_Check [valOf cmdT c] [] (finT [.int .i64]) = some (checkC c, ()) := by
  rw [check_ev]
  simp only [and_bif, or_bif, nand_bif, nor_bif, ors_bif, ors2_bif, oand_bif, selfor, someu_bif, Option.bind_some]
  unfold checkC
  cases withinB c.1 1 6 with
  | false => rfl
  | true => cases (c.1 == 3 || c.1 == 4) && !validL c.2.2.2.2.1 with
    | true => rfl
    | false => cases longC c with
      | true => rfl
      | false => cases outC c with
        | true => rfl
        | false => cases rightC c <;> rfl
theorem check_ok : caseCheck.ok P0 I.service_Check := case_ok2 (H := H.service_Check) (E := env consB5) (env_ok consB5_ok) glob0 mixed0 G.service_Check Bd.service_Check (by kernel_rfl) noLoops fun ⟨c, ()⟩ y h hw => by
  obtain ⟨hc, rfl⟩ := pick_pre h
  exact check_val c
noncomputable abbrev consB6 : List (FuncId × Con) := [(I.cooperageref10_within, .pure (pureOf [caseWithin10])), (I.cooperageref1_Valid, .pure (pureOf [caseRValid])), (I.cooperageref10_Right, .pure (pureOf [caseRright]))]
theorem consB6_ok : ∀ x ∈ consB6, HoldsC P0 x.1 x.2 := by
  intro x hx
  simp at hx
  rcases hx with rfl | rfl | rfl
  · exact ⟨pureOf_holds (by simp; exact within10_ok), C.cooperageref10_within⟩
  · exact ⟨pureOf_holds (by simp; exact rvalid_ok), C.cooperageref1_Valid⟩
  · exact ⟨pureOf_holds (by simp; exact rright_ok), C.cooperageref10_Right⟩
theorem rcheck_rd {R : Type} (c : Cmd) (f i : Int) (K : Ex → St → Option R) : roundK (env consB6) H.cooperageref10_Check 0 (LPof []) V.cooperageref10_Check_15 L.cooperageref10_Check_15 ⟨[(1, .ptr 0 (.tl 0) 0), (2, .int .i64 f), (3, .int .i64 i)], [(0, .arr 13 .bool [] [enc cmdT c])], 1⟩ K = bif decide (i < (↑(List.length c.snd.snd.snd.fst) : Int)) then Option.bind (bif decide ((0 : Int) ≤ i) && decide (i < (↑(List.length c.snd.snd.snd.fst) : Int)) then bif decide ((↑(List.length (List.getD c.snd.snd.snd.fst i.toNat recTy.zero).snd.snd.fst) : Int) > (200 : Int)) then some true else bif decide ((0 : Int) ≤ i) && decide (i < (↑(List.length c.snd.snd.snd.fst) : Int)) then some (decide ((↑(List.length (List.getD c.snd.snd.snd.fst i.toNat recTy.zero).snd.snd.snd.fst) : Int) > (2000 : Int))) else none else none) fun v => bif v then K Ex.ret { slots := [(1, AV.ptr 0 (Elt.tl 0) 0), (2, AV.int IntKind.i64 (3 : Int)), (3, AV.int IntKind.i64 i)], objs := [(0, AObj.arr 13 Ty.bool [] [[AV.int IntKind.i64 c.fst, AV.int IntKind.i64 c.snd.fst, AV.int IntKind.i64 c.snd.snd.fst, AV.vl recTy c.snd.snd.snd.fst, AV.str c.snd.snd.snd.snd.fst, AV.int IntKind.i64 c.snd.snd.snd.snd.snd.fst, AV.int IntKind.i64 c.snd.snd.snd.snd.snd.snd.fst, AV.int IntKind.i64 c.snd.snd.snd.snd.snd.snd.snd.fst, AV.int IntKind.u32 c.snd.snd.snd.snd.snd.snd.snd.snd.fst, AV.int IntKind.i64 c.snd.snd.snd.snd.snd.snd.snd.snd.snd.fst, AV.int IntKind.i64 c.snd.snd.snd.snd.snd.snd.snd.snd.snd.snd.fst, AV.int IntKind.i64 c.snd.snd.snd.snd.snd.snd.snd.snd.snd.snd.snd.fst, AV.int IntKind.i64 c.snd.snd.snd.snd.snd.snd.snd.snd.snd.snd.snd.snd]])], nx := 1 } else K Ex.normal { slots := [(1, AV.ptr 0 (Elt.tl 0) 0), (2, AV.int IntKind.i64 f), (3, AV.int IntKind.i64 (IntKind.i64.wrap (i + (1 : Int))))], objs := [(0, AObj.arr 13 Ty.bool [] [[AV.int IntKind.i64 c.fst, AV.int IntKind.i64 c.snd.fst, AV.int IntKind.i64 c.snd.snd.fst, AV.vl recTy c.snd.snd.snd.fst, AV.str c.snd.snd.snd.snd.fst, AV.int IntKind.i64 c.snd.snd.snd.snd.snd.fst, AV.int IntKind.i64 c.snd.snd.snd.snd.snd.snd.fst, AV.int IntKind.i64 c.snd.snd.snd.snd.snd.snd.snd.fst, AV.int IntKind.u32 c.snd.snd.snd.snd.snd.snd.snd.snd.fst, AV.int IntKind.i64 c.snd.snd.snd.snd.snd.snd.snd.snd.snd.fst, AV.int IntKind.i64 c.snd.snd.snd.snd.snd.snd.snd.snd.snd.snd.fst, AV.int IntKind.i64 c.snd.snd.snd.snd.snd.snd.snd.snd.snd.snd.snd.fst, AV.int IntKind.i64 c.snd.snd.snd.snd.snd.snd.snd.snd.snd.snd.snd.snd]])], nx := 1 } else K (Ex.exit 1) { slots := [(1, AV.ptr 0 (Elt.tl 0) 0), (2, AV.int IntKind.i64 f), (3, AV.int IntKind.i64 i)], objs := [(0, AObj.arr 13 Ty.bool [] [[AV.int IntKind.i64 c.fst, AV.int IntKind.i64 c.snd.fst, AV.int IntKind.i64 c.snd.snd.fst, AV.vl recTy c.snd.snd.snd.fst, AV.str c.snd.snd.snd.snd.fst, AV.int IntKind.i64 c.snd.snd.snd.snd.snd.fst, AV.int IntKind.i64 c.snd.snd.snd.snd.snd.snd.fst, AV.int IntKind.i64 c.snd.snd.snd.snd.snd.snd.snd.fst, AV.int IntKind.u32 c.snd.snd.snd.snd.snd.snd.snd.snd.fst, AV.int IntKind.i64 c.snd.snd.snd.snd.snd.snd.snd.snd.snd.fst, AV.int IntKind.i64 c.snd.snd.snd.snd.snd.snd.snd.snd.snd.snd.fst, AV.int IntKind.i64 c.snd.snd.snd.snd.snd.snd.snd.snd.snd.snd.snd.fst, AV.int IntKind.i64 c.snd.snd.snd.snd.snd.snd.snd.snd.snd.snd.snd.snd]])], nx := 1 } := by kernel_rfl

def rkSt (y : patsDen cmdP) (f : Int) (i : Nat) : St := ⟨[(1, .ptr 0 (.tl 0) 0), (2, .int .i64 f), (3, .int .i64 i)], [(0, .arr 13 .bool [] [patsMk cmdP y])], 1⟩
abbrev rkLC : LoopC := LoopC.of ⟨[(1, .lit (.ptr 0 (.tl 0) 0)), (2, .int .i64), (3, .int .i64)], [.box 13 [cmdP]]⟩ (fun x => decide (x.1.2.2.1 = (0 : Int)))
    fun x => [((firstFrom (atR longR x.2.1.1.2.2.2.1) 0 (List.length x.2.1.1.2.2.2.1)).isSome, .ret, rkSt x.2.1.1 3 ((firstFrom (atR longR x.2.1.1.2.2.2.1) 0 (List.length x.2.1.1.2.2.2.1)).getD 0)),
      (true, .exit 1, rkSt x.2.1.1 x.1.2.1 (List.length x.2.1.1.2.2.2.1))]
theorem rk_lok : LoopOK P0 H.cooperageref10_Check 0 L.cooperageref10_Check_15 rkLC :=
  loop_ok_of (env_ok consB6_ok) glob0 mixed0 noLoops V.cooperageref10_Check_15 (by decide) fun ⟨⟨_, f, i, _⟩, ⟨⟨k, p, s, r, g, o, m, n, u, c1, c2, c3, c4, _⟩, _⟩, _⟩ h hw => by
    obtain rfl := of_decide_eq_true h
    have hm : List.length r ≤ maxL := hw.2.1.1.2.2.2.1.1
    unfold maxL at hm
    have rd := fun (f : Int) (i : Int) (K : Ex → St → Option (Ex × St)) => rcheck_rd (k, p, s, r, g, o, m, n, u, c1, c2, c3, c4) f i K
    refine ⟨_, Eq.trans (search_rounds (S := rkSt (k, p, s, r, g, o, m, n, u, c1, c2, c3, c4, ()) f) (T := rkSt (k, p, s, r, g, o, m, n, u, c1, c2, c3, c4, ()) 3) (p := atR longR r) (n := List.length r) (e1 := .ret) (e2 := .exit 1) (s2 := rkSt (k, p, s, r, g, o, m, n, u, c1, c2, c3, c4, ()) f (List.length r)) (by simp) (by simp) (fun i hi K => ?_) (fun K => ?_) _ (List.length r) 0 (by omega)) search_pick⟩
    · refine (rd f i K).trans ?_
      simp only
      rw [cond_pos (by omega), cond_pos2 (by omega) (by omega), cond_pos2 (by omega) (by omega), or_bif, Int.toNat_natCast, wrap64 (by omega) (by omega)]
      rfl
    · refine (rd f _ K).trans ?_
      rw [cond_neg (by simp)]
      rfl
theorem rcheck_ev (c : Cmd) : evFn (env consB6) H.cooperageref10_Check (LPof [(15, rkLC)]) F.cooperageref10_Check [valOf cmdT c] [] (finT [.int .i64]) = Option.bind (bif c.fst == (1 : Int) then some (c.fst == (1 : Int), ()) else bif c.fst == (2 : Int) then some (c.fst == (2 : Int), ()) else bif c.fst == (3 : Int) then some (c.fst == (3 : Int), ()) else bif c.fst == (4 : Int) then some (c.fst == (4 : Int), ()) else bif c.fst == (5 : Int) then some (c.fst == (5 : Int), ()) else some (c.fst == (6 : Int), ())) fun v => bif v.fst then Option.bind (bif c.fst == (3 : Int) then some !validL c.snd.snd.snd.snd.fst else bif c.fst == (4 : Int) then some !validL c.snd.snd.snd.snd.fst else some false) fun v => bif v then some ((6 : Int), ()) else bif c.fst == (1 : Int) then bif decide ((↑(List.length c.snd.snd.snd.fst) : Int) > (50 : Int)) then some ((3 : Int), ()) else bif (firstFrom (atR longR c.snd.snd.snd.fst) 0 (List.length c.snd.snd.snd.fst)).isSome then some ((3 : Int), ()) else Option.bind (bif c.fst == (2 : Int) then some (decide (c.snd.snd.snd.snd.snd.snd.fst > (100 : Int))) else some false) fun v => bif v then some ((3 : Int), ()) else Option.bind (bif c.fst == (2 : Int) then some !withinB c.snd.snd.snd.snd.snd.fst (0 : Int) (1125899906842624 : Int) else bif c.fst == (3 : Int) then some !withinB c.snd.snd.snd.snd.snd.fst (0 : Int) (1125899906842624 : Int) else some false) fun v => bif v then some ((11 : Int), ()) else bif !rightC c then some ((1 : Int), ()) else some ((0 : Int), ()) else Option.bind (bif c.fst == (2 : Int) then some (decide (c.snd.snd.snd.snd.snd.snd.fst > (100 : Int))) else some false) fun v => bif v then some ((3 : Int), ()) else Option.bind (bif c.fst == (2 : Int) then some !withinB c.snd.snd.snd.snd.snd.fst (0 : Int) (1125899906842624 : Int) else bif c.fst == (3 : Int) then some !withinB c.snd.snd.snd.snd.snd.fst (0 : Int) (1125899906842624 : Int) else some false) fun v => bif v then some ((11 : Int), ()) else bif !rightC c then some ((1 : Int), ()) else some ((0 : Int), ()) else some ((1 : Int), ()) := by kernel_rfl

theorem kind16 (k : Int) : (k == 1 || (k == 2 || (k == 3 || (k == 4 || (k == 5 || k == 6))))) = withinB k 1 6 := by
  unfold withinB
  apply Bool.eq_iff_iff.2
  simp <;> omega
theorem within_out {x : Int} : (!withinB x 0 1125899906842624) = (decide (x < 0) || decide (x > 1125899906842624)) := by
  unfold withinB
  apply Bool.eq_iff_iff.2
  simp <;> omega
def caseRcheck : PCase := ⟨[.ty cmdT], [.int .i64], fun x => (fun (c : Cmd) => [(true, (checkC c, ()))]) x.1⟩
theorem rcheck_val (c : Cmd) : evFn (env consB6) H.cooperageref10_Check (LPof [(15, rkLC)]) F.cooperageref10_Check [valOf cmdT c] [] (finT [.int .i64]) = some (checkC c, ()) := by
  have e1 : (firstFrom (atR longR c.2.2.2.1) 0 (List.length c.2.2.2.1)).isSome = List.any c.2.2.2.1 longR := firstFrom_any0 (q := longR) (d := recTy.zero) c.2.2.2.1
  rw [rcheck_ev]
  simp only [e1, and_bif, or_bif, nand_bif, nor_bif, ors_bif, ors2_bif, oand_bif, selfor, someu_bif, Option.bind_some, within_out]
  unfold checkC longC outC
  simp only [kind16]
  cases withinB c.1 1 6 with
  | false => rfl
  | true =>
    simp only [Bool.not_true, cond_true, cond_false]
    cases h3 : c.1 == 3 with
    | true =>
      have h3 := eq_of_beq h3
      simp only [h3]
      cases validL c.2.2.2.2.1 <;> cases decide (c.2.2.2.2.2.1 < 0) <;> cases decide (c.2.2.2.2.2.1 > 1125899906842624) <;> cases rightC c <;> rfl
    | false =>
      cases h4 : c.1 == 4 with
      | true =>
        have h4 := eq_of_beq h4
        simp only [h4]
        cases validL c.2.2.2.2.1 <;> cases rightC c <;> rfl
      | false =>
        cases h1 : c.1 == 1 with
        | true =>
          have h1 := eq_of_beq h1
          simp only [h1]
          cases decide (((List.length c.2.2.2.1 : Nat) : Int) > 50) <;> cases List.any c.2.2.2.1 longR <;> cases rightC c <;> rfl
        | false =>
          cases h2 : c.1 == 2 with
          | true =>
            cases decide (c.2.2.2.2.2.2.1 > 100) <;> cases decide (c.2.2.2.2.2.1 < 0) <;> cases decide (c.2.2.2.2.2.1 > 1125899906842624) <;> cases rightC c <;> rfl
          | false => cases rightC c <;> rfl
theorem rcheck_ok : caseRcheck.ok P0 I.cooperageref10_Check := case_ok2 (H := H.cooperageref10_Check) (E := env consB6) (env_ok consB6_ok) glob0 mixed0 G.cooperageref10_Check Bd.cooperageref10_Check (by kernel_rfl) (loops_good (tab := [(15, rkLC)]) (by kernel_rfl) (fun x hx => by simp at hx; subst hx; exact rk_lok)) fun ⟨c, ()⟩ y h hw => by
  obtain ⟨hc, rfl⟩ := pick_pre h
  exact rcheck_val c

end Go.Sim
namespace Go.Sim
set_option linter.unusedSimpArgs false
set_option linter.unusedVariables false

def preN (n : Nat) : List Int := if n < 128 then [] else ((n % 128 + 128 : Nat) : Int) :: preN (n / 128)
termination_by n
decreasing_by omega
def lastN (n : Nat) : Nat := if n < 128 then n else lastN (n / 128)
termination_by n
decreasing_by omega
def putN (n : Nat) : List Int := preN n ++ [(lastN n : Int)]
theorem putN_lt {n : Nat} (h : n < 128) : putN n = [(n : Int)] := by unfold putN; rw [preN, lastN, if_pos h, if_pos h]; rfl
theorem putN_ge {n : Nat} (h : ¬ n < 128) : putN n = ((n % 128 + 128 : Nat) : Int) :: putN (n / 128) := by unfold putN; rw [preN, lastN, if_neg h, if_neg h]; rfl

/-- Read from place i on, x so far. -/
def getG : Nat → Nat → List Int → Int × Int × Int
  | _, _, [] => (0, 0, 4)
  | i, x, c :: r => bif decide (i = 9) && decide (c > 1) then (0, 0, 3) else bif decide (c ≥ 128) then getG (i + 1) (x + (c - 128).toNat * 2 ^ (7 * i)) r
      else bif decide (c = 0) && decide (0 < i) then (0, 0, 2) else (((x + c.toNat * 2 ^ (7 * i) : Nat) : Int), ((i + 1 : Nat) : Int), 0)
def getB (b : List Int) : Int × Int × Int := getG 0 0 b
theorem pow7 (i : Nat) : 2 ^ (7 * (i + 1)) = 2 ^ (7 * i) * 128 := by rw [Nat.mul_add, Nat.pow_add]
theorem getG_putN (r : List Int) : ∀ (n i x : Nat), n * 2 ^ (7 * i) < 2 ^ 64 → (0 < i → 0 < n) → getG i x (putN n ++ r) = (((x + n * 2 ^ (7 * i) : Nat) : Int), ((i + (putN n).length : Nat) : Int), 0) := by
  intro n
  induction n using Nat.strongRecOn with
  | ind n ih =>
    intro i x hn hi
    have h9 : i = 9 → n < 2 := fun h => by subst h; omega
    have hpos : 0 < 2 ^ (7 * i) := Nat.pow_pos (by omega)
    by_cases h : n < 128
    · rw [putN_lt h]
      simp only [List.cons_append, List.nil_append, getG, List.length_cons, List.length_nil]
      have e1 : (decide (i = 9) && decide ((n : Int) > 1)) = false := by
        by_cases h' : i = 9
        · have := h9 h'; simp; omega
        · simp [h']
      have e2 : decide ((n : Int) ≥ 128) = false := by simp; omega
      have e3 : (decide ((n : Int) = 0) && decide (0 < i)) = false := by
        by_cases h' : 0 < i
        · have := hi h'; simp; omega
        · simp [h']
      rw [e1, e2, e3]
      simp
    · rw [putN_ge h]
      simp only [List.cons_append, getG, List.length_cons]
      have e1 : (decide (i = 9) && decide (((n % 128 + 128 : Nat) : Int) > 1)) = false := by
        by_cases h' : i = 9
        · have := h9 h'; omega
        · simp [h']
      have e2 : decide (((n % 128 + 128 : Nat) : Int) ≥ 128) = true := by simp; omega
      rw [e1, e2, cond_false, cond_true, ih (n / 128) (by omega) (i + 1) _ ?_ (fun _ => by omega)]
      · have e4 : (((n % 128 + 128 : Nat) : Int) - 128).toNat = n % 128 := by omega
        rw [e4, pow7]
        have : n % 128 * 2 ^ (7 * i) + n / 128 * (2 ^ (7 * i) * 128) = n * 2 ^ (7 * i) := by
          have h1 : n / 128 * (2 ^ (7 * i) * 128) = (128 * (n / 128)) * 2 ^ (7 * i) := by rw [Nat.mul_comm (2 ^ (7 * i)) 128, ← Nat.mul_assoc, Nat.mul_comm (n / 128) 128]
          rw [h1, ← Nat.add_mul, Nat.mod_add_div]
        rw [Nat.add_assoc x, this, Nat.add_assoc i 1, Nat.add_comm 1]
      · rw [pow7]
        have h1 : n / 128 * (2 ^ (7 * i) * 128) = (128 * (n / 128)) * 2 ^ (7 * i) := by rw [Nat.mul_comm (2 ^ (7 * i)) 128, ← Nat.mul_assoc, Nat.mul_comm (n / 128) 128]
        rw [h1]
        exact Nat.lt_of_le_of_lt (Nat.mul_le_mul_right _ (by omega)) hn
theorem getB_putN (n : Nat) (r : List Int) (hn : n < 2 ^ 64) : getB (putN n ++ r) = ((n : Int), ((putN n).length : Int), 0) := by
  unfold getB
  rw [getG_putN r n 0 0 (by simpa using hn) (fun h => absurd h (by omega))]
  simp
theorem getG_len : ∀ (b : List Int) (i x : Nat), 0 ≤ (getG i x b).2.1 ∧ (getG i x b).2.1 ≤ ((i + b.length : Nat) : Int)
  | [], i, x => by simp [getG]
  | c :: r, i, x => by
    have := getG_len r (i + 1) (x + (c - 128).toNat * 2 ^ (7 * i))
    simp only [getG]
    cases decide (i = 9) && decide (c > 1) <;> cases decide (c ≥ 128) <;> cases decide (c = 0) && decide (0 < i) <;> simp only [cond_true, cond_false, List.length_cons] <;> omega
theorem getB_len (b : List Int) : 0 ≤ (getB b).2.1 ∧ (getB b).2.1 ≤ (b.length : Int) := by have := getG_len b 0 0; simpa [getB] using this
theorem getG_err : ∀ (b : List Int) (i x : Nat), (getG i x b).2.2 = 0 ∨ ((getG i x b).1 = 0 ∧ (getG i x b).2.1 = 0 ∧ ((getG i x b).2.2 = 2 ∨ (getG i x b).2.2 = 3 ∨ (getG i x b).2.2 = 4))
  | [], i, x => .inr ⟨rfl, rfl, .inr (.inr rfl)⟩
  | c :: r, i, x => by
    have := getG_err r (i + 1) (x + (c - 128).toNat * 2 ^ (7 * i))
    simp only [getG]
    cases decide (i = 9) && decide (c > 1) <;> cases decide (c ≥ 128) <;> cases decide (c = 0) && decide (0 < i) <;> simp only [cond_true, cond_false] <;> first | exact this | simp
def foldV (n : Int) : Int := bif decide (n < 0) then -2 * n - 1 else 2 * n
def unfoldV (x : Int) : Int := bif decide (x % 2 = 1) then -(x / 2) - 1 else x / 2
theorem unfold_fold (n : Int) : unfoldV (foldV n) = n := by
  unfold unfoldV foldV
  by_cases h : n < 0
  · have e : decide ((-2 * n - 1) % 2 = 1) = true := by simp; omega
    simp only [h, decide_true, cond_true, e]; omega
  · have e : decide (2 * n % 2 = 1) = false := by simp
    simp only [h, decide_false, cond_false, e]; omega

/-! ### What the code computes -/
theorem wrapu8_mod (n : Int) : IntKind.u8.wrap n = n % 256 := by simp [IntKind.wrap, IntKind.bits, IntKind.signed]
set_option maxRecDepth 10000 in
theorem or128 : ∀ y : Fin 256, (y.val ||| 128) = y.val % 128 + 128 := by decide
theorem put_byte {x : Int} (h : 0 ≤ x) : IntKind.u8.wrap (↑(BitVec.ofInt 8 (IntKind.u8.wrap x) ||| BitVec.ofInt 8 (128 : Int)).toNat : Int) = ((x.toNat % 128 + 128 : Nat) : Int) := by
  have e1 : (BitVec.ofInt 8 (IntKind.u8.wrap x)).toNat = x.toNat % 256 := by
    rw [wrapu8_mod]
    simp only [BitVec.toNat_ofInt]
    omega
  have e2 : (BitVec.ofInt 8 (128 : Int)).toNat = 128 := by decide
  rw [BitVec.toNat_or, e1, e2]
  have := or128 ⟨x.toNat % 256, Nat.mod_lt _ (by omega)⟩
  simp only at this
  rw [this, wrapu8_mod]
  omega
theorem fdiv128 {x : Int} (h : 0 ≤ x) : x.fdiv 128 = ((x.toNat / 128 : Nat) : Int) := by
  rw [Int.fdiv_eq_ediv_of_nonneg _ (by omega)]; omega
theorem ofInt64 {x : Int} (h : 0 ≤ x) (h' : x < 18446744073709551616) : (BitVec.ofInt 64 x).toNat = x.toNat := by
  simp only [BitVec.toNat_ofInt]; omega
theorem xor_ones (x : BitVec 64) : (BitVec.ofInt 64 (18446744073709551615 : Int) ^^^ x).toNat = 18446744073709551615 - x.toNat := by
  have e : BitVec.ofInt 64 (18446744073709551615 : Int) = BitVec.allOnes 64 := by decide
  rw [e, BitVec.allOnes_xor, BitVec.toNat_not]
theorem fold_val {n : Int} (h1 : -9223372036854775808 ≤ n) (h2 : n ≤ 9223372036854775807) : (bif decide (n < (0 : Int)) then
    some (IntKind.u64.wrap (↑(BitVec.ofInt 64 (18446744073709551615 : Int) ^^^ BitVec.ofInt 64 (IntKind.u64.wrap (IntKind.u64.wrap n * (2 : Int)))).toNat : Int), ())
    else some (IntKind.u64.wrap (IntKind.u64.wrap n * (2 : Int)), ())) = some (foldV n, ()) := by
  unfold foldV
  have e : IntKind.u64.wrap (IntKind.u64.wrap n * 2) = (bif decide (n < 0) then 2 * n + 18446744073709551616 else 2 * n) := by
    rw [wrapu64_mod, wrapu64_mod]
    by_cases h : n < 0
    · simp only [h, decide_true, cond_true]; omega
    · simp only [h, decide_false, cond_false]; omega
  rw [e]
  by_cases h : n < 0
  · simp only [h, decide_true, cond_true]
    rw [xor_ones, ofInt64 (by omega) (by omega)]
    congr 2
    rw [wrapu64_mod]
    omega
  · simp only [h, decide_false, cond_false]
theorem fold_in {n : Int} (h1 : -9223372036854775808 ≤ n) (h2 : n ≤ 9223372036854775807) : 0 ≤ foldV n ∧ foldV n ≤ 18446744073709551615 := by
  unfold foldV
  by_cases h : n < 0
  · simp only [h, decide_true, cond_true]; omega
  · simp only [h, decide_false, cond_false]; omega
theorem unfold_val {n : Int} (h1 : 0 ≤ n) (h2 : n ≤ 18446744073709551615) : (bif IntKind.u64.wrap (↑(BitVec.ofInt 64 n &&& BitVec.ofInt 64 (1 : Int)).toNat : Int) == (1 : Int) then
    some (IntKind.i64.wrap (↑(BitVec.ofInt 64 (-1 : Int) ^^^ BitVec.ofInt 64 (IntKind.i64.wrap (n.fdiv (2 : Int)))).toNat : Int), ())
    else some (IntKind.i64.wrap (n.fdiv (2 : Int)), ())) = some (unfoldV n, ()) := by
  unfold unfoldV
  have e1 : (BitVec.ofInt 64 n &&& BitVec.ofInt 64 (1 : Int)).toNat = n.toNat % 2 := by
    rw [BitVec.toNat_and, ofInt64 h1 (by omega), show (BitVec.ofInt 64 (1 : Int)).toNat = 1 from by decide, Nat.and_one_is_mod]
  have e2 : n.fdiv 2 = n / 2 := Int.fdiv_eq_ediv_of_nonneg _ (by omega)
  have e3 : IntKind.i64.wrap (n / 2) = n / 2 := wrap64 (by omega) (by omega)
  rw [e1, e2, e3, wrapu64_mod]
  have e4 : (((n.toNat % 2 : Nat) : Int) % 18446744073709551616 == 1) = decide (n % 2 = 1) := by
    rw [Bool.eq_iff_iff]; simp only [beq_iff_eq, decide_eq_true_eq]; omega
  rw [e4]
  by_cases h : n % 2 = 1
  · simp only [h, decide_true, cond_true]
    have e5 : BitVec.ofInt 64 (-1 : Int) = BitVec.ofInt 64 (18446744073709551615 : Int) := by decide
    rw [e5, xor_ones, ofInt64 (by omega) (by omega)]
    congr 2
    have e6 : IntKind.i64.wrap (((18446744073709551615 - (n / 2).toNat : Nat) : Int)) = ((18446744073709551615 - (n / 2).toNat : Nat) : Int) - 18446744073709551616 := by
      simp only [IntKind.wrap, IntKind.bits, IntKind.signed]
      simp
      omega
    rw [e6]; omega
  · simp only [h, decide_false, cond_false]
theorem or_shift {x d i : Nat} (hx : x < 2 ^ (7 * i)) : (x ||| d * 2 ^ (7 * i)) = x + d * 2 ^ (7 * i) := by
  have := Nat.shiftLeft_add_eq_or_of_lt hx d
  rw [Nat.shiftLeft_eq] at this
  rw [Nat.or_comm, ← this, Nat.add_comm]
/-- A group that is read. -/
theorem get_group {x d i : Nat} (hi : i ≤ 9) (hx : x < 2 ^ (7 * i)) (hd : d < 128) (h9 : i = 9 → d ≤ 1) {j : Int} (hj : j = i) :
    IntKind.u64.wrap (↑(BitVec.ofInt 64 (x : Int) ||| BitVec.ofInt 64 (IntKind.u64.wrap ((d : Int) * (2 : Int) ^ min (IntKind.i64.wrap ((7 : Int) * j)).toNat 64))).toNat : Int) = ((x + d * 2 ^ (7 * i) : Nat) : Int) := by
  subst hj
  have e1 : IntKind.i64.wrap (7 * (i : Int)) = ((7 * i : Nat) : Int) := by rw [wrap64 (by omega) (by omega)]; omega
  rw [e1, Int.toNat_natCast, Nat.min_eq_left (by omega)]
  have e2 : (d : Int) * 2 ^ (7 * i) = ((d * 2 ^ (7 * i) : Nat) : Int) := by simp
  rw [e2]
  have hp : d * 2 ^ (7 * i) + x < 18446744073709551616 := by
    rcases Nat.lt_or_ge i 9 with h | h
    · have h1 : 2 ^ (7 * i) ≤ 2 ^ 56 := Nat.pow_le_pow_right (by omega) (by omega)
      have h2 : d * 2 ^ (7 * i) ≤ 127 * 2 ^ 56 := Nat.mul_le_mul (by omega) h1
      omega
    · have : i = 9 := by omega
      subst this
      have := h9 rfl
      omega
  have hx64 : x < 18446744073709551616 := by omega
  have hor := or_shift (d := d) hx
  obtain ⟨q, hq⟩ : ∃ q, q = d * 2 ^ (7 * i) := ⟨_, rfl⟩
  rw [← hq] at hp hor ⊢
  have e3 : IntKind.u64.wrap ((q : Nat) : Int) = (q : Int) := wrapu64 (by omega) (by omega)
  rw [e3, BitVec.toNat_or, ofInt64 (by omega) (by omega), ofInt64 (by omega) (by omega), Int.toNat_natCast, Int.toNat_natCast, hor, wrapu64 (by omega) (by omega)]
theorem group_lt {x d i : Nat} (hx : x < 2 ^ (7 * i)) (hd : d < 128) : x + d * 2 ^ (7 * i) < 2 ^ (7 * (i + 1)) := by
  rw [pow7]
  have : d * 2 ^ (7 * i) ≤ 127 * 2 ^ (7 * i) := Nat.mul_le_mul_right _ (by omega)
  omega
theorem preN_lt {n : Nat} (h : n < 128) : preN n = [] := by rw [preN, if_pos h]
theorem preN_ge {n : Nat} (h : ¬ n < 128) : preN n = ((n % 128 + 128 : Nat) : Int) :: preN (n / 128) := by rw [preN, if_neg h]
theorem lastN_lt {n : Nat} (h : n < 128) : lastN n = n := by rw [lastN, if_pos h]
theorem lastN_ge {n : Nat} (h : ¬ n < 128) : lastN n = lastN (n / 128) := by rw [lastN, if_neg h]
theorem lastN_small (n : Nat) : lastN n < 128 := by
  induction n using Nat.strongRecOn with
  | ind n ih =>
    by_cases h : n < 128
    · rw [lastN_lt h]; exact h
    · rw [lastN_ge h]; exact ih _ (by omega)
theorem preN_len : ∀ (k n : Nat), n < 2 ^ (7 * (k + 1)) → (preN n).length ≤ k
  | 0, n, h => by rw [preN_lt (by simpa using h)]; simp
  | k + 1, n, h => by
    by_cases h' : n < 128
    · rw [preN_lt h']; simp
    · rw [preN_ge h', List.length_cons]
      rw [pow7] at h
      have := preN_len k (n / 128) (Nat.div_lt_of_lt_mul (by rw [Nat.mul_comm]; exact h))
      omega
theorem preN_len9 {n : Nat} (h : n < 18446744073709551616) : (preN n).length ≤ 9 := preN_len 9 n (by omega)
/-- Where the reading ends: the place, the number so far. -/
def getZ : Nat → Nat → List Int → Nat × Nat
  | i, x, [] => (i, x)
  | i, x, c :: r => bif decide (i = 9) && decide (c > 1) then (i, x) else bif decide (c ≥ 128) then getZ (i + 1) (x + (c - 128).toNat * 2 ^ (7 * i)) r else (i, x)
theorem getG_nonneg : ∀ (b : List Int) (i x : Nat), 0 ≤ (getG i x b).1
  | [], i, x => by simp [getG]
  | c :: r, i, x => by
    have := getG_nonneg r (i + 1) (x + (c - 128).toNat * 2 ^ (7 * i))
    simp only [getG]
    cases decide (i = 9) && decide (c > 1) <;> cases decide (c ≥ 128) <;> cases decide (c = 0) && decide (0 < i) <;> simp only [cond_true, cond_false] <;> omega
/-- A reader's number: the number, what is left, the error. -/
def numV (b : List Int) (e : Int) : Int × List Int × Int := bif e != 0 then (0, b, e) else ((getB b).1, b.drop (getB b).2.1.toNat, (getB b).2.2)
theorem numV_nonneg (b : List Int) (e : Int) : 0 ≤ (numV b e).1 := by
  unfold numV
  cases e != 0
  · exact getG_nonneg b 0 0
  · exact Int.le_refl _
theorem numV_len (b : List Int) (e : Int) : (numV b e).2.1.length ≤ b.length := by
  unfold numV
  cases e != 0
  · simp
  · exact Nat.le_refl _
def bytesV (b : List Int) (e : Int) : List Int × List Int × Int := bif (numV b e).2.2 == 0 then (bif decide ((numV b e).1 > (numV b e).2.1.length) then ([], (numV b e).2.1, 4)
  else ((numV b e).2.1.take (numV b e).1.toNat, (numV b e).2.1.drop (numV b e).1.toNat, 0)) else ([], (numV b e).2.1, (numV b e).2.2)
def countV (b : List Int) (e : Int) : Int × List Int × Int := bif (numV b e).2.2 == 0 then (bif decide ((numV b e).1 > (numV b e).2.1.length) then (0, (numV b e).2.1, 4)
  else ((numV b e).1, (numV b e).2.1, 0)) else (0, (numV b e).2.1, (numV b e).2.2)
theorem putN_len {n : Nat} (h : n < 18446744073709551616) : (putN n).length ≤ 10 := by
  have := preN_len9 h
  unfold putN; simp only [List.length_append, List.length_cons, List.length_nil]; omega
end Go.Sim
namespace Go.Sim
set_option linter.unusedSimpArgs false
set_option linter.unusedVariables false
set_option maxRecDepth 10000
abbrev u8T : Ty := .int .u8
theorem vfold_ev (n : Int) : evFn (env []) H.varint_Fold (LPof []) F.varint_Fold [.int .i64 n] [] (finT [.int .u64]) = bif decide (n < (0 : Int)) then some (IntKind.u64.wrap (↑(BitVec.ofInt 64 (18446744073709551615 : Int) ^^^ BitVec.ofInt 64 (IntKind.u64.wrap (IntKind.u64.wrap n * (2 : Int)))).toNat : Int), ()) else some (IntKind.u64.wrap (IntKind.u64.wrap n * (2 : Int)), ()) := by kernel_rfl

def caseFold : PCase := ⟨[.ty (.int .i64)], [.int .u64], fun x => (fun (n : Int) => [(true, (foldV n, ()))]) x.1⟩
theorem vfold_val (n : Int) (hn : In .i64 n) : evFn (env []) H.varint_Fold (LPof []) F.varint_Fold [.int .i64 n] [] (finT [.int .u64]) = some (foldV n, ()) := by
  rw [vfold_ev, fold_val (In.i64.1 hn).1 (In.i64.1 hn).2]
theorem vfold_ok : caseFold.ok P0 I.varint_Fold := case_ok2 (H := H.varint_Fold) (E := env []) (env_ok env_nil) glob0 mixed0 G.varint_Fold Bd.varint_Fold (by kernel_rfl) noLoops fun ⟨n, ()⟩ y h hw => by
  obtain ⟨hc, rfl⟩ := pick_pre h
  exact vfold_val n hw.1
theorem vunfold_ev (n : Int) : evFn (env []) H.varint_Unfold (LPof []) F.varint_Unfold [.int .u64 n] [] (finT [.int .i64]) = bif IntKind.u64.wrap (↑(BitVec.ofInt 64 n &&& BitVec.ofInt 64 (1 : Int)).toNat : Int) == (1 : Int) then some (IntKind.i64.wrap (↑(BitVec.ofInt 64 (-1 : Int) ^^^ BitVec.ofInt 64 (IntKind.i64.wrap (n.fdiv (2 : Int)))).toNat : Int), ()) else some (IntKind.i64.wrap (n.fdiv (2 : Int)), ()) := by kernel_rfl

def caseUnfold : PCase := ⟨[.ty (.int .u64)], [.int .i64], fun x => (fun (n : Int) => [(true, (unfoldV n, ()))]) x.1⟩
theorem vunfold_val (n : Int) (hn : In .u64 n) : evFn (env []) H.varint_Unfold (LPof []) F.varint_Unfold [.int .u64 n] [] (finT [.int .i64]) = some (unfoldV n, ()) := by
  rw [vunfold_ev, unfold_val (In.u64.1 hn).1 (In.u64.1 hn).2]
theorem vunfold_ok : caseUnfold.ok P0 I.varint_Unfold := case_ok2 (H := H.varint_Unfold) (E := env []) (env_ok env_nil) glob0 mixed0 G.varint_Unfold Bd.varint_Unfold (by kernel_rfl) noLoops fun ⟨n, ()⟩ y h hw => by
  obtain ⟨hc, rfl⟩ := pick_pre h
  exact vunfold_val n hw.1
theorem vput_rd {R : Type} (x : Int) (o : List Int) (K : Ex → St → Option R) : roundK (env []) H.varint_Put 0 (LPof []) V.varint_Put_2 L.varint_Put_2 ⟨[(1, .int .u64 x), (5, .hw 0)], [(0, .arr 1 (.int .u8) o [])], 1⟩ K = bif decide (x ≥ (128 : Int)) then bif decide ((o ++ [IntKind.u8.wrap (↑(BitVec.ofInt 8 (IntKind.u8.wrap x) ||| BitVec.ofInt 8 (128 : Int)).toNat : Int)]).length * 1 ≤ 140737488355328) then K Ex.normal { slots := [(1, AV.int IntKind.u64 (x.fdiv (128 : Int))), (5, AV.hw 0)], objs := [(0, AObj.arr 1 (Ty.int IntKind.u8) (o ++ [IntKind.u8.wrap (↑(BitVec.ofInt 8 (IntKind.u8.wrap x) ||| BitVec.ofInt 8 (128 : Int)).toNat : Int)]) [])], nx := 1 } else none else K (Ex.exit 0) { slots := [(1, AV.int IntKind.u64 x), (5, AV.hw 0)], objs := [(0, AObj.arr 1 (Ty.int IntKind.u8) o [])], nx := 1 } := by kernel_rfl

def vputSt (x : Int) (o : List Int) : St := ⟨[(1, .int .u64 x), (5, .hw 0)], [(0, .arr 1 (.int .u8) o [])], 1⟩
theorem vput_rounds {R : Type} (K : Ex → St → Option R) : ∀ (n : Nat) (o : List Int), o.length + (preN n).length < 140737488355328 →
    ∃ m, rounds (env []) H.varint_Put 0 (LPof []) V.varint_Put_2 L.varint_Put_2 m (vputSt n o) K = K (.exit 0) (vputSt (lastN n) (o ++ preN n)) := by
  intro n
  induction n using Nat.strongRecOn with
  | ind n ih =>
    intro o ho
    by_cases h : n < 128
    · refine ⟨1, ?_⟩
      rw [rounds_succ']
      refine (vput_rd _ _ _).trans ?_
      rw [cond_neg (by omega), lastN_lt h, preN_lt h, List.append_nil]
      rfl
    · rw [preN_ge h, List.length_cons] at ho
      obtain ⟨m, hm⟩ := ih (n / 128) (by omega) (o ++ [((n % 128 + 128 : Nat) : Int)]) (by simp only [List.length_append, List.length_cons, List.length_nil]; omega)
      refine ⟨m + 1, ?_⟩
      rw [rounds_succ']
      refine (vput_rd _ _ _).trans ?_
      have e1 := put_byte (x := (n : Int)) (by omega)
      have e2 := fdiv128 (x := (n : Int)) (by omega)
      rw [Int.toNat_natCast] at e1 e2
      rw [cond_pos (by omega), e1, e2, cond_pos (by simp only [List.length_append, List.length_cons, List.length_nil]; omega), lastN_ge h, preN_ge h]
      refine Eq.trans hm ?_
      rw [List.append_assoc]
      rfl
abbrev vputLC : LoopC := LoopC.of ⟨[(1, .int .u64), (5, .lit (.hw 0))], [.arr 1 (.int .u8) []]⟩ (fun x => decide (x.2.1.1.length ≤ 140737488355000))
    fun x => [(true, .exit 0, vputSt (lastN x.1.1.toNat) (x.2.1.1 ++ preN x.1.1.toNat))]
theorem vput_go (x : Int) (o : List Int) (h : o.length ≤ 140737488355000) (hx : In .u64 x) : ∃ n, rounds (env []) H.varint_Put 0 (LPof []) V.varint_Put_2 L.varint_Put_2 n (vputSt x o) (fun e s => some (e, s)) = some (.exit 0, vputSt (lastN x.toNat) (o ++ preN x.toNat)) := by
  have hx := In.u64.1 hx
  have h9 := preN_len9 (n := x.toNat) (by omega)
  obtain ⟨m, hm⟩ := vput_rounds (fun e s => some (e, s)) x.toNat o (by omega)
  have e : ((x.toNat : Nat) : Int) = x := by omega
  rw [e] at hm
  exact ⟨m, hm⟩
theorem vput_lok : LoopOK P0 H.varint_Put 0 L.varint_Put_2 vputLC :=
  loop_ok_of (env_ok env_nil) glob0 mixed0 noLoops V.varint_Put_2 (by decide) fun ⟨⟨x, _⟩, ⟨⟨o, _⟩, _⟩⟩ h hw => vput_go x o (of_decide_eq_true h) hw.1.1
theorem vput_ev (b : List Int) (x : Int) : evFn (env []) H.varint_Put (LPof [(2, vputLC)]) F.varint_Put [.vl (.int .u8) b, .int .u64 x] [] (finV (.lit (.hw 0)) [.arr 1 (.int .u8) []] 0) = bif decide (b.length * 1 ≤ 140737488355328) then bif decide (b.length ≤ 140737488355000) && true then bif decide ((b ++ preN x.toNat ++ [IntKind.u8.wrap (↑(lastN x.toNat) : Int)]).length * 1 ≤ 140737488355328) then some ((), (b ++ preN x.toNat ++ [IntKind.u8.wrap (↑(lastN x.toNat) : Int)], ()), ()) else none else none else none := by kernel_rfl

theorem vget_rd {R : Type} (x : Int) (b : List Int) (n i : Int) (K : Ex → St → Option R) : roundK (env []) H.varint_Get 0 (LPof []) V.varint_Get_3 L.varint_Get_3 ⟨[(2, .int .u64 0), (3, .int .i64 0), (4, .int .i64 0), (5, .int .u64 x), (8, .vl (.int .u8) b), (9, .int .i64 n), (10, .int .i64 i)], [], 0⟩ K = bif decide (i < n) then bif decide ((0 : Int) ≤ i) && decide (i < (↑b.length : Int)) then Option.bind (bif i == (9 : Int) then some (decide (b.getD i.toNat (0 : Int) > (1 : Int))) else some false) fun v => bif v then K Ex.ret { slots := [(2, AV.int IntKind.u64 (0 : Int)), (3, AV.int IntKind.i64 (0 : Int)), (4, AV.int IntKind.i64 (3 : Int)), (5, AV.int IntKind.u64 x), (8, AV.vl (Ty.int IntKind.u8) b), (9, AV.int IntKind.i64 n), (10, AV.int IntKind.i64 i)], objs := [], nx := 0 } else bif decide (b.getD i.toNat (0 : Int) ≥ (128 : Int)) then bif decide (IntKind.i64.wrap ((7 : Int) * i) < (0 : Int)) then none else K Ex.normal { slots := [(2, AV.int IntKind.u64 (0 : Int)), (3, AV.int IntKind.i64 (0 : Int)), (4, AV.int IntKind.i64 (0 : Int)), (5, AV.int IntKind.u64 (IntKind.u64.wrap (↑(BitVec.ofInt 64 x ||| BitVec.ofInt 64 (IntKind.u64.wrap (IntKind.u64.wrap (IntKind.u8.wrap (b.getD i.toNat (0 : Int) - (128 : Int))) * (2 : Int) ^ min (IntKind.i64.wrap ((7 : Int) * i)).toNat 64))).toNat : Int))), (8, AV.vl (Ty.int IntKind.u8) b), (9, AV.int IntKind.i64 n), (10, AV.int IntKind.i64 (IntKind.i64.wrap (i + (1 : Int))))], objs := [], nx := 0 } else Option.bind (bif b.getD i.toNat (0 : Int) == (0 : Int) then some (decide (i > (0 : Int))) else some false) fun v => bif v then K Ex.ret { slots := [(2, AV.int IntKind.u64 (0 : Int)), (3, AV.int IntKind.i64 (0 : Int)), (4, AV.int IntKind.i64 (2 : Int)), (5, AV.int IntKind.u64 x), (8, AV.vl (Ty.int IntKind.u8) b), (9, AV.int IntKind.i64 n), (10, AV.int IntKind.i64 i)], objs := [], nx := 0 } else bif decide (IntKind.i64.wrap ((7 : Int) * i) < (0 : Int)) then none else K Ex.ret { slots := [(2, AV.int IntKind.u64 (IntKind.u64.wrap (↑(BitVec.ofInt 64 x ||| BitVec.ofInt 64 (IntKind.u64.wrap (IntKind.u64.wrap (b.getD i.toNat (0 : Int)) * (2 : Int) ^ min (IntKind.i64.wrap ((7 : Int) * i)).toNat 64))).toNat : Int))), (3, AV.int IntKind.i64 (IntKind.i64.wrap (i + (1 : Int)))), (4, AV.int IntKind.i64 (0 : Int)), (5, AV.int IntKind.u64 x), (8, AV.vl (Ty.int IntKind.u8) b), (9, AV.int IntKind.i64 n), (10, AV.int IntKind.i64 i)], objs := [], nx := 0 } else none else K (Ex.exit 0) { slots := [(2, AV.int IntKind.u64 (0 : Int)), (3, AV.int IntKind.i64 (0 : Int)), (4, AV.int IntKind.i64 (0 : Int)), (5, AV.int IntKind.u64 x), (8, AV.vl (Ty.int IntKind.u8) b), (9, AV.int IntKind.i64 n), (10, AV.int IntKind.i64 i)], objs := [], nx := 0 } := by kernel_rfl

def vgetSt (r : Int × Int × Int) (z : Nat × Nat) (b : List Int) : St := ⟨[(2, .int .u64 r.1), (3, .int .i64 r.2.1), (4, .int .i64 r.2.2), (5, .int .u64 z.2), (8, .vl (.int .u8) b), (9, .int .i64 b.length), (10, .int .i64 z.1)], [], 0⟩
theorem vget_rounds {R : Type} (K : Ex → St → Option R) (b : List Int) (hm : b.length ≤ 9223372036854775807) (hb : ∀ c ∈ b, In .u8 c) : ∀ (r : List Int) (i x : Nat), b.drop i = r → i ≤ 9 → i ≤ b.length → x < 2 ^ (7 * i) →
    ∃ m, rounds (env []) H.varint_Get 0 (LPof []) V.varint_Get_3 L.varint_Get_3 m (vgetSt (0, 0, 0) (i, x) b) K =
      bif decide ((getG i x r).2.2 = 4) then K (.exit 0) (vgetSt (0, 0, 0) (getZ i x r) b) else K .ret (vgetSt (getG i x r) (getZ i x r) b)
  | [], i, x, hr, hi, hl, hx => by
    have : i = b.length := by have := congrArg List.length hr; simp at this; omega
    refine ⟨1, ?_⟩
    rw [rounds_succ']
    refine (vget_rd _ _ _ _ _).trans ?_
    rw [cond_neg (by simp only; omega)]
    rfl
  | c :: r, i, x, hr, hi, hl, hx => by
    have hlt : i < b.length := by have := congrArg List.length hr; simp at this; omega
    have hc : b.getD i 0 = c := by
      have := congrArg (fun l => l.getD 0 (0 : Int)) hr
      simpa [List.getD_eq_getElem?_getD] using this
    have hcm : In .u8 c := hb c (by rw [← hc, List.getD_eq_getElem?_getD, List.getElem?_eq_getElem hlt]; exact List.getElem_mem hlt)
    have hcb := In.u8'.1 hcm
    have hr' : b.drop (i + 1) = r := by rw [show b.drop (i + 1) = (b.drop i).drop 1 by rw [List.drop_drop], hr]; rfl
    have e64 : IntKind.i64.wrap (7 * (i : Int)) = 7 * (i : Int) := wrap64 (by omega) (by omega)
    have e65 : IntKind.i64.wrap ((i : Int) + 1) = ((i + 1 : Nat) : Int) := by rw [wrap64 (by omega) (by omega)]; rfl
    have hi9 : ((i : Int) == 9) = decide (i = 9) := by rw [Bool.eq_iff_iff]; simp; omega
    have step : ∀ (m : Nat), rounds (env []) H.varint_Get 0 (LPof []) V.varint_Get_3 L.varint_Get_3 (m + 1) (vgetSt (0, 0, 0) (i, x) b) K =
        bif decide (i = 9) && decide (c > 1) then K .ret (vgetSt (0, 0, 3) (i, x) b) else
        bif decide (c ≥ 128) then rounds (env []) H.varint_Get 0 (LPof []) V.varint_Get_3 L.varint_Get_3 m (vgetSt (0, 0, 0) (i + 1, x + (c - 128).toNat * 2 ^ (7 * i)) b) K else
        bif decide (c = 0) && decide (0 < i) then K .ret (vgetSt (0, 0, 2) (i, x) b) else K .ret (vgetSt (((x + c.toNat * 2 ^ (7 * i) : Nat) : Int), ((i + 1 : Nat) : Int), 0) (i, x) b) := by
      intro m
      rw [rounds_succ']
      refine (vget_rd _ _ _ _ _).trans ?_
      simp only
      rw [cond_pos (by omega), cond_pos2 (by omega) (by omega), Int.toNat_natCast, hc, hi9, and_bif, Option.bind_some]
      cases h1 : decide (i = 9) && decide (c > 1) with
      | true => rfl
      | false =>
        rw [cond_false, cond_false]
        have hno : ¬ IntKind.i64.wrap (7 * (i : Int)) < 0 := by rw [e64]; omega
        by_cases h2 : c ≥ 128
        · rw [cond_pos h2, cond_pos h2, cond_neg hno, e65]
          have h9 : i ≠ 9 := fun e => by simp [e] at h1; omega
          have g := get_group (x := x) (d := (c - 128).toNat) hi hx (by omega) (fun h => absurd h h9) (j := (i : Int)) rfl
          have e3 : IntKind.u64.wrap (IntKind.u8.wrap (c - 128)) = (((c - 128).toNat : Nat) : Int) := by rw [wrapu8_mod, wrapu64_mod]; omega
          rw [e3, g]
          rfl
        · rw [cond_neg h2, cond_neg h2]
          have e4 : (bif c == 0 then some (decide ((i : Int) > 0)) else some false) = some (decide (c = 0) && decide (0 < i)) := by
            rw [and_bif]
            congr 1
            have : decide ((i : Int) > 0) = decide (0 < i) := by simp
            rw [this]
            congr 1
          rw [e4, Option.bind_some]
          cases h3 : decide (c = 0) && decide (0 < i) with
          | true => rfl
          | false =>
            rw [cond_false, cond_false, cond_neg hno, e65]
            have g := get_group (x := x) (d := c.toNat) hi hx (by omega) (fun h => by simp [h] at h1; omega) (j := (i : Int)) rfl
            have e3 : IntKind.u64.wrap c = ((c.toNat : Nat) : Int) := by rw [wrapu64_mod]; omega
            rw [e3, g]
            rfl
    cases h1 : decide (i = 9) && decide (c > 1) with
    | true =>
      have g : getG i x (c :: r) = (0, 0, 3) := by simp only [getG, h1, cond_true]
      have z : getZ i x (c :: r) = (i, x) := by simp only [getZ, h1, cond_true]
      rw [g, z]
      exact ⟨1, by rw [step, h1]; rfl⟩
    | false =>
      by_cases h2 : c ≥ 128
      · have h9 : i ≠ 9 := fun e => by simp [e] at h1; omega
        have g : getG i x (c :: r) = getG (i + 1) (x + (c - 128).toNat * 2 ^ (7 * i)) r := by simp only [getG, h1, cond_false, h2, decide_true, cond_true]
        have z : getZ i x (c :: r) = getZ (i + 1) (x + (c - 128).toNat * 2 ^ (7 * i)) r := by simp only [getZ, h1, cond_false, h2, decide_true, cond_true]
        obtain ⟨m, hm⟩ := vget_rounds K b hm hb r (i + 1) (x + (c - 128).toNat * 2 ^ (7 * i)) hr' (by omega) (by omega) (group_lt hx (by omega))
        refine ⟨m + 1, ?_⟩
        rw [g, z, step, h1, cond_false, cond_pos h2, hm]
      · have z : getZ i x (c :: r) = (i, x) := by simp only [getZ, h1, cond_false, h2, decide_false]
        refine ⟨1, ?_⟩
        rw [z, step, h1, cond_false, cond_neg h2]
        cases h3 : decide (c = 0) && decide (0 < i) with
        | true =>
          have g : getG i x (c :: r) = (0, 0, 2) := by simp only [getG, h1, cond_false, h2, decide_false, h3, cond_true]
          rw [g]; rfl
        | false =>
          have g : getG i x (c :: r) = (((x + c.toNat * 2 ^ (7 * i) : Nat) : Int), ((i + 1 : Nat) : Int), 0) := by simp only [getG, h1, cond_false, h2, decide_false, h3]
          rw [g]; rfl
abbrev vgetLC : LoopC := LoopC.of ⟨[(2, .int .u64), (3, .int .i64), (4, .int .i64), (5, .int .u64), (8, .vl (.int .u8)), (9, .int .i64), (10, .int .i64)], []⟩
    (fun x => decide (x.1.1 = 0) && decide (x.1.2.1 = 0) && decide (x.1.2.2.1 = 0) && decide (x.1.2.2.2.1 = 0) && decide (x.1.2.2.2.2.2.1 = x.1.2.2.2.2.1.length) && decide (x.1.2.2.2.2.2.2.1 = 0))
    fun x => [(decide ((getB x.1.2.2.2.2.1).2.2 = 4), .exit 0, vgetSt (0, 0, 0) (getZ 0 0 x.1.2.2.2.2.1) x.1.2.2.2.2.1), (true, .ret, vgetSt (getB x.1.2.2.2.2.1) (getZ 0 0 x.1.2.2.2.2.1) x.1.2.2.2.2.1)]
theorem vget_go (b : List Int) (hm : b.length ≤ 9223372036854775807) (hb : ∀ c ∈ b, In .u8 c) : ∃ n, rounds (env []) H.varint_Get 0 (LPof []) V.varint_Get_3 L.varint_Get_3 n (vgetSt (0, 0, 0) (0, 0) b) (fun e s => some (e, s)) =
    pick [(decide ((getB b).2.2 = 4), Ex.exit 0, vgetSt (0, 0, 0) (getZ 0 0 b) b), (true, .ret, vgetSt (getB b) (getZ 0 0 b) b)] := by
  obtain ⟨m, hm⟩ := vget_rounds (fun e s => some (e, s)) b hm hb b 0 0 rfl (by omega) (by omega) (by simp)
  refine ⟨m, hm.trans ?_⟩
  unfold getB
  simp only [pick]
  cases decide ((getG 0 0 b).2.2 = 4) <;> rfl
theorem vget_lok : LoopOK P0 H.varint_Get 0 L.varint_Get_3 vgetLC :=
  loop_ok_of (env_ok env_nil) glob0 mixed0 noLoops V.varint_Get_3 (by decide) fun ⟨⟨a1, a2, a3, a4, b, n, i, _⟩, _⟩ h hw => by
    simp only [Bool.and_eq_true, decide_eq_true_eq] at h
    obtain ⟨⟨⟨⟨⟨rfl, rfl⟩, rfl⟩, rfl⟩, rfl⟩, rfl⟩ := h
    exact vget_go b hw.1.2.2.2.2.1.1 hw.1.2.2.2.2.1.2
theorem vget_ev (b : List Int) : evFn (env []) H.varint_Get (LPof [(3, vgetLC)]) F.varint_Get [.vl (.int .u8) b] [] (finT [.int .u64, .int .i64, .int .i64]) = bif decide ((↑b.length : Int) = (↑b.length : (Pat.int IntKind.i64).den)) && true && decide ((getB b).snd.snd = (4 : Int)) then some ((0 : Int), (0 : Int), (4 : Int), ()) else bif decide ((↑b.length : Int) = (↑b.length : (Pat.int IntKind.i64).den)) && true && true then some ((getB b).fst, (getB b).snd.fst, (getB b).snd.snd, ()) else none := by kernel_rfl

end Go.Sim
namespace Go.Sim
set_option linter.unusedSimpArgs false
set_option linter.unusedVariables false
set_option maxRecDepth 10000
theorem lastN_byte (n : Nat) : IntKind.u8.wrap ((lastN n : Nat) : Int) = (lastN n : Int) := by
  have := lastN_small n
  rw [wrapu8_mod]; omega
def caseVput : VCase := ⟨[.vl u8T, .int .u64], [], .lit (.hw 0), [.arr 1 u8T []], fun ⟨b, x, ()⟩ () => [(decide (b.length ≤ 140737488355000), ((), ((b ++ putN x.toNat, ()), ())))]⟩
theorem vput_val (b : List Int) (x : Int) (hc : (decide (b.length ≤ 140737488355000)) = true) (hx : In .u64 x) : evFn (env []) H.varint_Put (LPof [(2, vputLC)]) F.varint_Put [.vl u8T b, .int .u64 x] [] (finV (.lit (.hw 0)) [.arr 1 u8T []] 0) = some ((), ((b ++ putN x.toNat, ()), ())) := by
  have hb := of_decide_eq_true hc
  have h9 := preN_len9 (n := x.toNat) (by have := (In.u64.1 hx).2; have := (In.u64.1 hx).1; omega)
  rw [vput_ev, cond_pos (by omega), cond_and_none, cond_pos hb, cond_true, cond_pos (by simp only [List.length_append, List.length_cons, List.length_nil]; omega), lastN_byte, List.append_assoc]
  rfl
theorem vput_ok : caseVput.e.ok P0 I.varint_Put := vcase_ok (c := caseVput) (H := H.varint_Put) (E := env []) (env_ok env_nil) glob0 mixed0 G.varint_Put Bd.varint_Put (by kernel_rfl) (loops_good (tab := [(2, vputLC)]) (by kernel_rfl) (fun x hx => by simp at hx; subst hx; exact vput_lok)) fun ⟨b, x, ()⟩ () r h hw1 hw2 => by
  obtain ⟨hc, rfl⟩ := pick_pre h
  exact vput_val b x hc hw1.2.1
def caseVget : PCase := ⟨[.ty (.sl u8T)], [.int .u64, .int .i64, .int .i64], fun x => (fun (b : List Int) => [(true, ((getB b).1, (getB b).2.1, (getB b).2.2, ()))]) x.1⟩
theorem vget_val (b : List Int) : evFn (env []) H.varint_Get (LPof [(3, vgetLC)]) F.varint_Get [.vl u8T b] [] (finT [.int .u64, .int .i64, .int .i64]) = some ((getB b).1, (getB b).2.1, (getB b).2.2, ()) := by
  rw [vget_ev]
  rcases getG_err b 0 0 with h | ⟨h1, h2, h3⟩
  · have e : decide ((getB b).2.2 = 4) = false := by unfold getB; rw [h]; rfl
    simp only [e, Bool.and_false, cond_false, decide_true, Bool.and_true, cond_true]
  · cases e : decide ((getB b).2.2 = 4) with
    | false => simp only [Bool.and_false, cond_false, decide_true, Bool.and_true, cond_true]
    | true =>
      have e := of_decide_eq_true e
      have g1 : (getB b).1 = 0 := h1
      have g2 : (getB b).2.1 = 0 := h2
      simp only [decide_true, Bool.and_true, cond_true, g1, g2, e]
theorem vget_ok : caseVget.ok P0 I.varint_Get := case_ok2 (H := H.varint_Get) (E := env []) (env_ok env_nil) glob0 mixed0 G.varint_Get Bd.varint_Get (by kernel_rfl) (loops_good (tab := [(3, vgetLC)]) (by kernel_rfl) (fun x hx => by simp at hx; subst hx; exact vget_lok)) fun ⟨b, ()⟩ y h hw => by
  obtain ⟨hc, rfl⟩ := pick_pre h
  exact vget_val b
theorem newr_ev (b : List Int) : evFn (env []) H.varint_NewReader (LPof []) F.varint_NewReader [.vl u8T b] [] (finV (.lit (.ptr 0 (.tl 0) 0)) [.box 2 [[.vl u8T, .int .i64]]] 0) = some ((), ((b, (0 : Int), ()), ()), ()) := by kernel_rfl

def caseNewr : VCase := ⟨[.vl u8T], [], .lit (.ptr 0 (.tl 0) 0), [.box 2 [[.vl u8T, .int .i64]]], fun ⟨b, ()⟩ () => [(true, ((), (((b, 0, ()), ()), ())))]⟩
theorem newr_val (b : List Int) : evFn (env []) H.varint_NewReader (LPof []) F.varint_NewReader [.vl u8T b] [] (finV (.lit (.ptr 0 (.tl 0) 0)) [.box 2 [[.vl u8T, .int .i64]]] 0) = some ((), (((b, 0, ()), ()), ())) := by
  exact newr_ev b
theorem newr_ok : caseNewr.e.ok P0 I.varint_NewReader := vcase_ok (c := caseNewr) (H := H.varint_NewReader) (E := env []) (env_ok env_nil) glob0 mixed0 G.varint_NewReader Bd.varint_NewReader (by kernel_rfl) noLoops fun ⟨b, ()⟩ () r h hw1 hw2 => by
  obtain ⟨hc, rfl⟩ := pick_pre h
  exact newr_val b
noncomputable abbrev consV1 : List (FuncId × Con) := [(I.varint_Get, .pure (pureOf [caseVget])), (I.varint_Fold, .pure (pureOf [caseFold])), (I.varint_Unfold, .pure (pureOf [caseUnfold])), (I.varint_Put, .eff (effOf [caseVput.e]))]
theorem consV1_ok : ∀ x ∈ consV1, HoldsC P0 x.1 x.2 := by
  intro x hx
  simp at hx
  rcases hx with rfl | rfl | rfl | rfl
  · exact ⟨pureOf_holds (by simp; exact vget_ok), C.varint_Get⟩
  · exact ⟨pureOf_holds (by simp; exact vfold_ok), C.varint_Fold⟩
  · exact ⟨pureOf_holds (by simp; exact vunfold_ok), C.varint_Unfold⟩
  · exact ⟨fun args objs r objs2 h _ => effOf_holds (by simp; exact vput_ok) args objs r objs2 h, C.varint_Put⟩
theorem vputint_ev (b : List Int) (x : Int) : evFn (env consV1) H.varint_PutInt (LPof []) F.varint_PutInt [.vl u8T b, .int .i64 x] [] (finV (.lit (.hw 0)) [.arr 1 u8T []] 0) = bif decide (b.length ≤ 140737488355000) then some ((), (b ++ putN (foldV x).toNat, ()), ()) else none := by kernel_rfl

def caseVputint : VCase := ⟨[.vl u8T, .int .i64], [], .lit (.hw 0), [.arr 1 u8T []], fun ⟨b, x, ()⟩ () => [(decide (b.length ≤ 140737488355000), ((), ((b ++ putN (foldV x).toNat, ()), ())))]⟩
theorem vputint_val (b : List Int) (x : Int) (hc : (decide (b.length ≤ 140737488355000)) = true) : evFn (env consV1) H.varint_PutInt (LPof []) F.varint_PutInt [.vl u8T b, .int .i64 x] [] (finV (.lit (.hw 0)) [.arr 1 u8T []] 0) = some ((), ((b ++ putN (foldV x).toNat, ()), ())) := by
  rw [vputint_ev, hc]; rfl
theorem vputint_ok : caseVputint.e.ok P0 I.varint_PutInt := vcase_ok (c := caseVputint) (H := H.varint_PutInt) (E := env consV1) (env_ok consV1_ok) glob0 mixed0 G.varint_PutInt Bd.varint_PutInt (by kernel_rfl) noLoops fun ⟨b, x, ()⟩ () r h hw1 hw2 => by
  obtain ⟨hc, rfl⟩ := pick_pre h
  exact vputint_val b x hc
theorem vputbytes_ev (b p : List Int) : evFn (env consV1) H.varint_PutBytes (LPof []) F.varint_PutBytes [.vl u8T b, .vl u8T p] [] (finV (.lit (.hw 0)) [.arr 1 u8T []] 0) = bif decide (b.length ≤ 140737488355000) then bif decide ((b ++ putN (IntKind.u64.wrap (↑p.length : Int)).toNat ++ p).length * 1 ≤ 140737488355328) then some ((), (b ++ putN (IntKind.u64.wrap (↑p.length : Int)).toNat ++ p, ()), ()) else none else none := by kernel_rfl

def caseVputbytes : VCase := ⟨[.vl u8T, .vl u8T], [], .lit (.hw 0), [.arr 1 u8T []], fun ⟨b, p, ()⟩ () => [(decide (b.length + p.length ≤ 140737488355000), ((), ((b ++ putN p.length ++ p, ()), ())))]⟩
theorem vputbytes_val (b p : List Int) (hc : (decide (b.length + p.length ≤ 140737488355000)) = true) : evFn (env consV1) H.varint_PutBytes (LPof []) F.varint_PutBytes [.vl u8T b, .vl u8T p] [] (finV (.lit (.hw 0)) [.arr 1 u8T []] 0) = some ((), ((b ++ putN p.length ++ p, ()), ())) := by
  have h := of_decide_eq_true hc
  have e : (IntKind.u64.wrap ((p.length : Nat) : Int)).toNat = p.length := by rw [wrapu64 (by omega) (by omega)]; omega
  have := putN_len (n := p.length) (by omega)
  rw [vputbytes_ev, cond_pos (by omega), e, cond_pos (by simp only [List.length_append]; omega)]
theorem vputbytes_ok : caseVputbytes.e.ok P0 I.varint_PutBytes := vcase_ok (c := caseVputbytes) (H := H.varint_PutBytes) (E := env consV1) (env_ok consV1_ok) glob0 mixed0 G.varint_PutBytes Bd.varint_PutBytes (by kernel_rfl) noLoops fun ⟨b, p, ()⟩ () r h hw1 hw2 => by
  obtain ⟨hc, rfl⟩ := pick_pre h
  exact vputbytes_val b p hc
def numP (s : List Int × Int) : Int × List Int × Int := numV s.1 s.2
def bytesP (s : List Int × Int) : List Int × List Int × Int := bytesV s.1 s.2
def countP (s : List Int × Int) : Int × List Int × Int := countV s.1 s.2
theorem rnum_ev (b : List Int) (e : Int) : evFn (env consV1) H.varint_Reader_Number (LPof []) F.varint_Reader_Number [.ptr 0 (.tl 0) 0] [.arr 2 .bool [] [[.vl u8T b, .int .i64 e]]] (finV (.int .u64) [.box 2 [[.vl u8T, .int .i64]]] 1) = bif e != (0 : Int) then some ((0 : Int), ((b, e, ()), ()), ()) else bif decide ((0 : Int) ≤ (getB b).snd.fst) && decide ((getB b).snd.fst ≤ (↑b.length : Int)) then some ((getB b).fst, ((List.drop (getB b).snd.fst.toNat b, (getB b).snd.snd, ()), ()), ()) else none := by kernel_rfl

def caseRnum : VCase := ⟨[.lit (.ptr 0 (.tl 0) 0)], [.box 2 [[.vl u8T, .int .i64]]], .int .u64, [.box 2 [[.vl u8T, .int .i64]]], fun ⟨_, ()⟩ ⟨⟨⟨b, e, ()⟩, ()⟩, ()⟩ => [(true, ((numP (b, e)).1, ((((numP (b, e)).2.1, (numP (b, e)).2.2, ()), ()), ())))]⟩
theorem rnum_val (b : List Int) (e : Int) : evFn (env consV1) H.varint_Reader_Number (LPof []) F.varint_Reader_Number [.ptr 0 (.tl 0) 0] [.arr 2 .bool [] [[.vl u8T b, .int .i64 e]]] (finV (.int .u64) [.box 2 [[.vl u8T, .int .i64]]] 1) = some ((numP (b, e)).1, ((((numP (b, e)).2.1, (numP (b, e)).2.2, ()), ()), ())) := by
  have := getB_len b
  rw [rnum_ev, cond_pos2 this.1 this.2]
  unfold numP numV
  cases e != 0 <;> rfl
theorem rnum_ok : caseRnum.e.ok P0 I.varint_Reader_Number := vcase_ok (c := caseRnum) (H := H.varint_Reader_Number) (E := env consV1) (env_ok consV1_ok) glob0 mixed0 G.varint_Reader_Number Bd.varint_Reader_Number (by kernel_rfl) noLoops fun ⟨_, ()⟩ ⟨⟨⟨b, e, ()⟩, ()⟩, ()⟩ r h hw1 hw2 => by
  obtain ⟨hc, rfl⟩ := pick_pre h
  exact rnum_val b e
noncomputable abbrev consV2 : List (FuncId × Con) := [(I.varint_Reader_Number, .eff (effOf [caseRnum.e]))] ++ consV1
theorem consV2_ok : ∀ x ∈ consV2, HoldsC P0 x.1 x.2 := by
  intro x hx
  rcases List.mem_append.1 hx with hx | hx
  · simp at hx
    subst hx
    exact ⟨fun args objs r objs2 h _ => effOf_holds (by simp; exact rnum_ok) args objs r objs2 h, C.varint_Reader_Number⟩
  · exact consV1_ok x hx
theorem rint_ev (b : List Int) (e : Int) : evFn (env consV2) H.varint_Reader_Int (LPof []) F.varint_Reader_Int [.ptr 0 (.tl 0) 0] [.arr 2 .bool [] [[.vl u8T b, .int .i64 e]]] (finV (.int .i64) [.box 2 [[.vl u8T, .int .i64]]] 1) = some (unfoldV (numP (b, e)).fst, (((numP (b, e)).snd.fst, (numP (b, e)).snd.snd, ()), ()), ()) := by kernel_rfl

def caseRint : VCase := ⟨[.lit (.ptr 0 (.tl 0) 0)], [.box 2 [[.vl u8T, .int .i64]]], .int .i64, [.box 2 [[.vl u8T, .int .i64]]], fun ⟨_, ()⟩ ⟨⟨⟨b, e, ()⟩, ()⟩, ()⟩ => [(true, (unfoldV (numP (b, e)).1, ((((numP (b, e)).2.1, (numP (b, e)).2.2, ()), ()), ())))]⟩
theorem rint_val (b : List Int) (e : Int) : evFn (env consV2) H.varint_Reader_Int (LPof []) F.varint_Reader_Int [.ptr 0 (.tl 0) 0] [.arr 2 .bool [] [[.vl u8T b, .int .i64 e]]] (finV (.int .i64) [.box 2 [[.vl u8T, .int .i64]]] 1) = some (unfoldV (numP (b, e)).1, ((((numP (b, e)).2.1, (numP (b, e)).2.2, ()), ()), ())) := by
  rw [rint_ev]
theorem rint_ok : caseRint.e.ok P0 I.varint_Reader_Int := vcase_ok (c := caseRint) (H := H.varint_Reader_Int) (E := env consV2) (env_ok consV2_ok) glob0 mixed0 G.varint_Reader_Int Bd.varint_Reader_Int (by kernel_rfl) noLoops fun ⟨_, ()⟩ ⟨⟨⟨b, e, ()⟩, ()⟩, ()⟩ r h hw1 hw2 => by
  obtain ⟨hc, rfl⟩ := pick_pre h
  exact rint_val b e
theorem rover_ev (b : List Int) (e : Int) : evFn (env []) H.varint_Reader_Over (LPof []) F.varint_Reader_Over [.ptr 0 (.tl 0) 0] [.arr 2 .bool [] [[.vl u8T b, .int .i64 e]]] (finV .bool [.box 2 [[.vl u8T, .int .i64]]] 1) = Option.bind (bif e == (0 : Int) then some ((↑b.length : Int) == (0 : Int)) else some false) fun v => some (v, ((b, e, ()), ()), ()) := by kernel_rfl

def caseRover : VCase := ⟨[.lit (.ptr 0 (.tl 0) 0)], [.box 2 [[.vl u8T, .int .i64]]], .bool, [.box 2 [[.vl u8T, .int .i64]]], fun ⟨_, ()⟩ ⟨⟨⟨b, e, ()⟩, ()⟩, ()⟩ => [(true, (e == 0 && ((b.length : Int) == 0), (((b, e, ()), ()), ())))]⟩
theorem rover_val (b : List Int) (e : Int) : evFn (env []) H.varint_Reader_Over (LPof []) F.varint_Reader_Over [.ptr 0 (.tl 0) 0] [.arr 2 .bool [] [[.vl u8T b, .int .i64 e]]] (finV (.bool) [.box 2 [[.vl u8T, .int .i64]]] 1) = some (e == 0 && ((b.length : Int) == 0), (((b, e, ()), ()), ())) := by
  rw [rover_ev, and_bif]; rfl
theorem rover_ok : caseRover.e.ok P0 I.varint_Reader_Over := vcase_ok (c := caseRover) (H := H.varint_Reader_Over) (E := env []) (env_ok env_nil) glob0 mixed0 G.varint_Reader_Over Bd.varint_Reader_Over (by kernel_rfl) noLoops fun ⟨_, ()⟩ ⟨⟨⟨b, e, ()⟩, ()⟩, ()⟩ r h hw1 hw2 => by
  obtain ⟨hc, rfl⟩ := pick_pre h
  exact rover_val b e
theorem rrest_ev (b : List Int) (e : Int) : evFn (env []) H.varint_Reader_Rest (LPof []) F.varint_Reader_Rest [.ptr 0 (.tl 0) 0] [.arr 2 .bool [] [[.vl u8T b, .int .i64 e]]] (finV (.vl u8T) [.box 2 [[.vl u8T, .int .i64]]] 1) = some (b, ((b, e, ()), ()), ()) := by kernel_rfl

def caseRrest : VCase := ⟨[.lit (.ptr 0 (.tl 0) 0)], [.box 2 [[.vl u8T, .int .i64]]], .vl u8T, [.box 2 [[.vl u8T, .int .i64]]], fun ⟨_, ()⟩ ⟨⟨⟨b, e, ()⟩, ()⟩, ()⟩ => [(true, (b, (((b, e, ()), ()), ())))]⟩
theorem rrest_val (b : List Int) (e : Int) : evFn (env []) H.varint_Reader_Rest (LPof []) F.varint_Reader_Rest [.ptr 0 (.tl 0) 0] [.arr 2 .bool [] [[.vl u8T b, .int .i64 e]]] (finV (.vl u8T) [.box 2 [[.vl u8T, .int .i64]]] 1) = some (b, (((b, e, ()), ()), ())) := by
  exact rrest_ev b e
theorem rrest_ok : caseRrest.e.ok P0 I.varint_Reader_Rest := vcase_ok (c := caseRrest) (H := H.varint_Reader_Rest) (E := env []) (env_ok env_nil) glob0 mixed0 G.varint_Reader_Rest Bd.varint_Reader_Rest (by kernel_rfl) noLoops fun ⟨_, ()⟩ ⟨⟨⟨b, e, ()⟩, ()⟩, ()⟩ r h hw1 hw2 => by
  obtain ⟨hc, rfl⟩ := pick_pre h
  exact rrest_val b e
theorem rskip_ev (b : List Int) (e n : Int) : evFn (env []) H.varint_Reader_Skip (LPof []) F.varint_Reader_Skip [.ptr 0 (.tl 0) 0, .int .i64 n] [.arr 2 .bool [] [[.vl u8T b, .int .i64 e]]] (finV (.lit (.tup [])) [.box 2 [[.vl u8T, .int .i64]]] 1) = bif decide ((0 : Int) ≤ bif decide ((↑b.length : Int) < bif decide (n > (0 : Int)) then n else (0 : Int)) then (↑b.length : Int) else bif decide (n > (0 : Int)) then n else (0 : Int)) && decide ((bif decide ((↑b.length : Int) < bif decide (n > (0 : Int)) then n else (0 : Int)) then (↑b.length : Int) else bif decide (n > (0 : Int)) then n else (0 : Int)) ≤ (↑b.length : Int)) then some ((), ((List.drop (bif decide ((↑b.length : Int) < bif decide (n > (0 : Int)) then n else (0 : Int)) then (↑b.length : Int) else bif decide (n > (0 : Int)) then n else (0 : Int)).toNat b, e, ()), ()), ()) else none := by kernel_rfl

def caseRskip : VCase := ⟨[.lit (.ptr 0 (.tl 0) 0), .int .i64], [.box 2 [[.vl u8T, .int .i64]]], .lit (.tup []), [.box 2 [[.vl u8T, .int .i64]]], fun ⟨_, n, ()⟩ ⟨⟨⟨b, e, ()⟩, ()⟩, ()⟩ => [(true, ((), (((b.drop n.toNat, e, ()), ()), ())))]⟩
theorem rskip_val (b : List Int) (e n : Int) : evFn (env []) H.varint_Reader_Skip (LPof []) F.varint_Reader_Skip [.ptr 0 (.tl 0) 0, .int .i64 n] [.arr 2 .bool [] [[.vl u8T b, .int .i64 e]]] (finV (.lit (.tup [])) [.box 2 [[.vl u8T, .int .i64]]] 1) = some ((), (((b.drop n.toNat, e, ()), ()), ())) := by
  obtain ⟨m, hm⟩ : ∃ m, m = (bif decide ((b.length : Int) < bif decide (n > 0) then n else 0) then (b.length : Int) else bif decide (n > 0) then n else 0) := ⟨_, rfl⟩
  have h : 0 ≤ m ∧ m ≤ b.length ∧ b.drop m.toNat = b.drop n.toNat := by
    rw [hm]
    by_cases h1 : n > 0
    · simp only [h1, decide_true, cond_true]
      by_cases h2 : (b.length : Int) < n
      · simp only [h2, decide_true, cond_true]
        refine ⟨by omega, by omega, ?_⟩
        rw [List.drop_eq_nil_of_le (by omega), List.drop_eq_nil_of_le (by omega)]
      · simp only [h2, decide_false, cond_false]
        exact ⟨by omega, by omega, trivial⟩
    · simp only [h1, decide_false, cond_false]
      have : ¬ (b.length : Int) < 0 := by omega
      simp only [this, decide_false, cond_false]
      refine ⟨by omega, by omega, ?_⟩
      congr 1; omega
  rw [rskip_ev, ← hm, cond_pos2 h.1 h.2.1, h.2.2]
theorem rskip_ok : caseRskip.e.ok P0 I.varint_Reader_Skip := vcase_ok (c := caseRskip) (H := H.varint_Reader_Skip) (E := env []) (env_ok env_nil) glob0 mixed0 G.varint_Reader_Skip Bd.varint_Reader_Skip (by kernel_rfl) noLoops fun ⟨_, n, ()⟩ ⟨⟨⟨b, e, ()⟩, ()⟩, ()⟩ r h hw1 hw2 => by
  obtain ⟨hc, rfl⟩ := pick_pre h
  exact rskip_val b e n
theorem rfail_ev (b : List Int) (e n : Int) : evFn (env []) H.varint_Reader_Fail (LPof []) F.varint_Reader_Fail [.ptr 0 (.tl 0) 0, .int .i64 n] [.arr 2 .bool [] [[.vl u8T b, .int .i64 e]]] (finV (.lit (.tup [])) [.box 2 [[.vl u8T, .int .i64]]] 1) = bif e == (0 : Int) then some ((), ((b, n, ()), ()), ()) else some ((), ((b, e, ()), ()), ()) := by kernel_rfl

def caseRfail : VCase := ⟨[.lit (.ptr 0 (.tl 0) 0), .int .i64], [.box 2 [[.vl u8T, .int .i64]]], .lit (.tup []), [.box 2 [[.vl u8T, .int .i64]]], fun ⟨_, n, ()⟩ ⟨⟨⟨b, e, ()⟩, ()⟩, ()⟩ => [(true, ((), (((b, (bif e == 0 then n else e), ()), ()), ())))]⟩
theorem rfail_val (b : List Int) (e n : Int) : evFn (env []) H.varint_Reader_Fail (LPof []) F.varint_Reader_Fail [.ptr 0 (.tl 0) 0, .int .i64 n] [.arr 2 .bool [] [[.vl u8T b, .int .i64 e]]] (finV (.lit (.tup [])) [.box 2 [[.vl u8T, .int .i64]]] 1) = some ((), (((b, (bif e == 0 then n else e), ()), ()), ())) := by
  rw [rfail_ev]
  cases e == 0 <;> rfl
theorem rfail_ok : caseRfail.e.ok P0 I.varint_Reader_Fail := vcase_ok (c := caseRfail) (H := H.varint_Reader_Fail) (E := env []) (env_ok env_nil) glob0 mixed0 G.varint_Reader_Fail Bd.varint_Reader_Fail (by kernel_rfl) noLoops fun ⟨_, n, ()⟩ ⟨⟨⟨b, e, ()⟩, ()⟩, ()⟩ r h hw1 hw2 => by
  obtain ⟨hc, rfl⟩ := pick_pre h
  exact rfail_val b e n
theorem rbytes_ev (b : List Int) (e : Int) : evFn (env consV2) H.varint_Reader_Bytes (LPof []) F.varint_Reader_Bytes [.ptr 0 (.tl 0) 0] [.arr 2 .bool [] [[.vl u8T b, .int .i64 e]]] (finV (.vl u8T) [.box 2 [[.vl u8T, .int .i64]]] 1) = Option.bind (bif (numP (b, e)).snd.snd == (0 : Int) then some (decide ((numP (b, e)).fst > IntKind.u64.wrap (↑(numP (b, e)).snd.fst.length : Int))) else some false) fun v => bif v then some ([], (((numP (b, e)).snd.fst, (4 : Int), ()), ()), ()) else bif (numP (b, e)).snd.snd != (0 : Int) then some ([], (((numP (b, e)).snd.fst, (numP (b, e)).snd.snd, ()), ()), ()) else bif decide ((0 : Int) ≤ (numP (b, e)).fst) && decide ((numP (b, e)).fst ≤ (↑(numP (b, e)).snd.fst.length : Int)) then bif decide ((List.take (numP (b, e)).fst.toNat (numP (b, e)).snd.fst).length * 1 ≤ 140737488355328) then bif decide ((0 : Int) ≤ (numP (b, e)).fst) && decide ((numP (b, e)).fst ≤ (↑(numP (b, e)).snd.fst.length : Int)) then some (List.take (numP (b, e)).fst.toNat (numP (b, e)).snd.fst, ((List.drop (numP (b, e)).fst.toNat (numP (b, e)).snd.fst, (numP (b, e)).snd.snd, ()), ()), ()) else none else none else none := by kernel_rfl

def caseRbytes : VCase := ⟨[.lit (.ptr 0 (.tl 0) 0)], [.box 2 [[.vl u8T, .int .i64]]], .vl u8T, [.box 2 [[.vl u8T, .int .i64]]], fun ⟨_, ()⟩ ⟨⟨⟨b, e, ()⟩, ()⟩, ()⟩ => [(decide (b.length ≤ 140737488355328), ((bytesP (b, e)).1, ((((bytesP (b, e)).2.1, (bytesP (b, e)).2.2, ()), ()), ())))]⟩
theorem rbytes_val (b : List Int) (e : Int) (hc : (decide (b.length ≤ 140737488355328)) = true) : evFn (env consV2) H.varint_Reader_Bytes (LPof []) F.varint_Reader_Bytes [.ptr 0 (.tl 0) 0] [.arr 2 .bool [] [[.vl u8T b, .int .i64 e]]] (finV (.vl u8T) [.box 2 [[.vl u8T, .int .i64]]] 1) = some ((bytesP (b, e)).1, ((((bytesP (b, e)).2.1, (bytesP (b, e)).2.2, ()), ()), ())) := by
  have hb := of_decide_eq_true hc
  have h0 := numV_nonneg b e
  have h1 := numV_len b e
  rw [rbytes_ev]
  unfold bytesP bytesV numP
  simp only
  generalize numV b e = v at h0 h1 ⊢
  obtain ⟨x, c, e'⟩ := v
  simp only at h0 h1 ⊢
  rw [and_bif, Option.bind_some, wrapu64 (by omega) (by omega)]
  by_cases he : e' = 0
  · subst he
    simp only [beq_self_eq_true, Bool.true_and, cond_true, bne_self_eq_false, cond_false]
    by_cases hx : x > (c.length : Int)
    · simp only [hx, decide_true, cond_true]
    · have g1 : (c.take x.toNat).length * 1 ≤ 140737488355328 := by simp only [List.length_take]; omega
      have g2 : x ≤ (c.length : Int) := by omega
      simp only [hx, decide_false, cond_false, h0, g2, g1, decide_true, Bool.and_self, cond_true]
  · have e1 : (e' == 0) = false := by simpa using he
    have e2 : (e' != 0) = true := by simpa using he
    simp only [e1, e2, Bool.false_and, cond_false, cond_true]
theorem rbytes_ok : caseRbytes.e.ok P0 I.varint_Reader_Bytes := vcase_ok (c := caseRbytes) (H := H.varint_Reader_Bytes) (E := env consV2) (env_ok consV2_ok) glob0 mixed0 G.varint_Reader_Bytes Bd.varint_Reader_Bytes (by kernel_rfl) noLoops fun ⟨_, ()⟩ ⟨⟨⟨b, e, ()⟩, ()⟩, ()⟩ r h hw1 hw2 => by
  obtain ⟨hc, rfl⟩ := pick_pre h
  exact rbytes_val b e hc
theorem rcount_ev (b : List Int) (e : Int) : evFn (env consV2) H.varint_Reader_Count (LPof []) F.varint_Reader_Count [.ptr 0 (.tl 0) 0] [.arr 2 .bool [] [[.vl u8T b, .int .i64 e]]] (finV (.int .i64) [.box 2 [[.vl u8T, .int .i64]]] 1) = Option.bind (bif (numP (b, e)).snd.snd == (0 : Int) then some (decide ((numP (b, e)).fst > IntKind.u64.wrap (↑(numP (b, e)).snd.fst.length : Int))) else some false) fun v => bif v then some ((0 : Int), (((numP (b, e)).snd.fst, (4 : Int), ()), ()), ()) else bif (numP (b, e)).snd.snd != (0 : Int) then some ((0 : Int), (((numP (b, e)).snd.fst, (numP (b, e)).snd.snd, ()), ()), ()) else some (IntKind.i64.wrap (numP (b, e)).fst, (((numP (b, e)).snd.fst, (numP (b, e)).snd.snd, ()), ()), ()) := by kernel_rfl

def caseRcount : VCase := ⟨[.lit (.ptr 0 (.tl 0) 0)], [.box 2 [[.vl u8T, .int .i64]]], .int .i64, [.box 2 [[.vl u8T, .int .i64]]], fun ⟨_, ()⟩ ⟨⟨⟨b, e, ()⟩, ()⟩, ()⟩ => [(true, ((countP (b, e)).1, ((((countP (b, e)).2.1, (countP (b, e)).2.2, ()), ()), ())))]⟩
theorem rcount_val (b : List Int) (e : Int) (hb : b.length ≤ maxL) : evFn (env consV2) H.varint_Reader_Count (LPof []) F.varint_Reader_Count [.ptr 0 (.tl 0) 0] [.arr 2 .bool [] [[.vl u8T b, .int .i64 e]]] (finV (.int .i64) [.box 2 [[.vl u8T, .int .i64]]] 1) = some ((countP (b, e)).1, ((((countP (b, e)).2.1, (countP (b, e)).2.2, ()), ()), ())) := by
  have h0 := numV_nonneg b e
  have h1 := numV_len b e
  unfold maxL at hb
  rw [rcount_ev]
  unfold countP countV numP
  simp only
  generalize numV b e = v at h0 h1 ⊢
  obtain ⟨x, c, e'⟩ := v
  simp only at h0 h1 ⊢
  rw [and_bif, Option.bind_some, wrapu64 (by omega) (by omega)]
  by_cases he : e' = 0
  · subst he
    simp only [beq_self_eq_true, Bool.true_and, cond_true, bne_self_eq_false, cond_false]
    by_cases hx : x > (c.length : Int)
    · simp only [hx, decide_true, cond_true]
    · simp only [hx, decide_false, cond_false]
      rw [wrap64 (by omega) (by omega)]
  · have e1 : (e' == 0) = false := by simpa using he
    have e2 : (e' != 0) = true := by simpa using he
    simp only [e1, e2, Bool.false_and, cond_false, cond_true]
theorem rcount_ok : caseRcount.e.ok P0 I.varint_Reader_Count := vcase_ok (c := caseRcount) (H := H.varint_Reader_Count) (E := env consV2) (env_ok consV2_ok) glob0 mixed0 G.varint_Reader_Count Bd.varint_Reader_Count (by kernel_rfl) noLoops fun ⟨_, ()⟩ ⟨⟨⟨b, e, ()⟩, ()⟩, ()⟩ r h hw1 hw2 => by
  obtain ⟨hc, rfl⟩ := pick_pre h
  exact rcount_val b e hw2.1.1.1.1
noncomputable abbrev consV3 : List (FuncId × Con) := [(I.varint_NewReader, .eff (effOf [caseNewr.e])), (I.varint_PutInt, .eff (effOf [caseVputint.e])), (I.varint_PutBytes, .eff (effOf [caseVputbytes.e])), (I.varint_Reader_Int, .eff (effOf [caseRint.e])), (I.varint_Reader_Over, .eff (effOf [caseRover.e])), (I.varint_Reader_Rest, .eff (effOf [caseRrest.e])), (I.varint_Reader_Skip, .eff (effOf [caseRskip.e])), (I.varint_Reader_Fail, .eff (effOf [caseRfail.e])), (I.varint_Reader_Bytes, .eff (effOf [caseRbytes.e])), (I.varint_Reader_Count, .eff (effOf [caseRcount.e]))] ++ consV2
theorem consV3_ok : ∀ x ∈ consV3, HoldsC P0 x.1 x.2 := by
  intro x hx
  rcases List.mem_append.1 hx with hx | hx
  · simp at hx
    rcases hx with rfl | rfl | rfl | rfl | rfl | rfl | rfl | rfl | rfl | rfl
    · exact ⟨fun args objs r objs2 h _ => effOf_holds (by simp; exact newr_ok) args objs r objs2 h, C.varint_NewReader⟩
    · exact ⟨fun args objs r objs2 h _ => effOf_holds (by simp; exact vputint_ok) args objs r objs2 h, C.varint_PutInt⟩
    · exact ⟨fun args objs r objs2 h _ => effOf_holds (by simp; exact vputbytes_ok) args objs r objs2 h, C.varint_PutBytes⟩
    · exact ⟨fun args objs r objs2 h _ => effOf_holds (by simp; exact rint_ok) args objs r objs2 h, C.varint_Reader_Int⟩
    · exact ⟨fun args objs r objs2 h _ => effOf_holds (by simp; exact rover_ok) args objs r objs2 h, C.varint_Reader_Over⟩
    · exact ⟨fun args objs r objs2 h _ => effOf_holds (by simp; exact rrest_ok) args objs r objs2 h, C.varint_Reader_Rest⟩
    · exact ⟨fun args objs r objs2 h _ => effOf_holds (by simp; exact rskip_ok) args objs r objs2 h, C.varint_Reader_Skip⟩
    · exact ⟨fun args objs r objs2 h _ => effOf_holds (by simp; exact rfail_ok) args objs r objs2 h, C.varint_Reader_Fail⟩
    · exact ⟨fun args objs r objs2 h _ => effOf_holds (by simp; exact rbytes_ok) args objs r objs2 h, C.varint_Reader_Bytes⟩
    · exact ⟨fun args objs r objs2 h _ => effOf_holds (by simp; exact rcount_ok) args objs r objs2 h, C.varint_Reader_Count⟩
  · exact consV2_ok x hx
end Go.Sim
namespace Go.Sim
set_option linter.unusedSimpArgs false
set_option linter.unusedVariables false

def encR (r : Rec) : List Int := putN r.1.toNat ++ putN (foldV r.2.1).toNat ++ [bif r.2.2.2.2 then (1 : Int) else 0] ++ putN (List.length r.2.2.1) ++ bytesOf r.2.2.1 ++ putN (List.length r.2.2.2.1) ++ bytesOf r.2.2.2.1
def putR (b : List Int) (r : Rec) : List Int := bif recR r then b ++ encR r else b
/-- A record's reader: its numbers, its sign, its text. -/
def gnumV (m : Int) (b : List Int) (i e : Int) : Int × Int × Int := bif e != 0 then (0, i, e) else
  ((getB (b.drop i.toNat)).1, i + (getB (b.drop i.toNat)).2.1, bif (getB (b.drop i.toNat)).2.2 == 0 && decide ((getB (b.drop i.toNat)).1 > m) then 2 else (getB (b.drop i.toNat)).2.2)
def gsignV (b : List Int) (i e : Int) : Bool × Int × Int := bif e != 0 then (false, i, e) else bif i == (b.length : Int) then (false, i, 4) else (b.getD i.toNat 0 == 1, i + 1, bif decide (b.getD i.toNat 0 > 1) then 2 else 0)
def gtextV (m : Int) (b : List Int) (i e : Int) : List UInt8 × Int × Int := bif (gnumV m b i e).2.2 == 0 then (bif decide ((gnumV m b i e).1 > (b.length : Int) - (gnumV m b i e).2.1) then ([], (gnumV m b i e).2.1, 4)
  else (ofBytes ((b.drop (gnumV m b i e).2.1.toNat).take (gnumV m b i e).1.toNat), (gnumV m b i e).2.1 + (gnumV m b i e).1, 0)) else ([], (gnumV m b i e).2.1, (gnumV m b i e).2.2)
theorem gnumV_in {m : Int} {b : List Int} {i e : Int} (h0 : 0 ≤ i) (h1 : i ≤ b.length) : 0 ≤ (gnumV m b i e).1 ∧ 0 ≤ (gnumV m b i e).2.1 ∧ (gnumV m b i e).2.1 ≤ b.length ∧ ((gnumV m b i e).2.2 = 0 → (gnumV m b i e).1 ≤ max 0 m) := by
  unfold gnumV
  cases he : e != 0 with
  | true => simp only [cond_true]; exact ⟨Int.le_refl _, h0, h1, fun _ => by omega⟩
  | false =>
    simp only [cond_false]
    have := getB_len (b.drop i.toNat)
    have hn := getG_nonneg (b.drop i.toNat) 0 0
    have hl : (b.drop i.toNat).length = b.length - i.toNat := by simp
    refine ⟨hn, by omega, by omega, fun h => ?_⟩
    by_cases hg : (getB (b.drop i.toNat)).2.2 = 0
    · by_cases hm : (getB (b.drop i.toNat)).1 > m
      · simp [hg, hm] at h
      · omega
    · have : ((getB (b.drop i.toNat)).2.2 == 0) = false := by simpa using hg
      rw [this, Bool.false_and, cond_false] at h
      exact absurd h hg
theorem gsignV_in {b : List Int} {i e : Int} (h0 : 0 ≤ i) (h1 : i ≤ b.length) : 0 ≤ (gsignV b i e).2.1 ∧ (gsignV b i e).2.1 ≤ b.length := by
  unfold gsignV
  cases e != 0
  · cases hi : i == (b.length : Int)
    · have : i ≠ b.length := by simpa using hi
      simp only [cond_false]; omega
    · simp only [cond_false, cond_true]; omega
  · simp only [cond_true]; omega
theorem gtextV_in {m : Int} {b : List Int} {i e : Int} (h0 : 0 ≤ i) (h1 : i ≤ b.length) : 0 ≤ (gtextV m b i e).2.1 ∧ (gtextV m b i e).2.1 ≤ b.length := by
  obtain ⟨a0, a1, a2, _⟩ := gnumV_in (m := m) (e := e) h0 h1
  unfold gtextV
  cases (gnumV m b i e).2.2 == 0
  · simp only [cond_false]; omega
  · by_cases h : (gnumV m b i e).1 > (b.length : Int) - (gnumV m b i e).2.1
    · simp only [h, decide_true, cond_true]; omega
    · simp only [h, decide_false, cond_true, cond_false]; omega
theorem gnumV_e {m : Int} {b : List Int} {i e : Int} (h : (gnumV m b i e).2.2 = 0) : e = 0 := by
  by_cases he : e = 0
  · exact he
  · have e2 : (e != 0) = true := by simpa using he
    unfold gnumV at h
    rw [e2] at h
    exact absurd h he
theorem gsignV_e {b : List Int} {i e : Int} (h : (gsignV b i e).2.2 = 0) : e = 0 := by
  by_cases he : e = 0
  · exact he
  · have e2 : (e != 0) = true := by simpa using he
    unfold gsignV at h
    rw [e2] at h
    exact absurd h he
theorem gtextV_e {m : Int} {b : List Int} {i e : Int} (h : (gtextV m b i e).2.2 = 0) : e = 0 := by
  unfold gtextV at h
  by_cases he : (gnumV m b i e).2.2 = 0
  · exact gnumV_e he
  · have e2 : ((gnumV m b i e).2.2 == 0) = false := by simpa using he
    rw [e2] at h
    exact absurd h he
def rdO (b : List Int) := gnumV 1125899906842624 b 0 0
def rdT (b : List Int) := gnumV 2199023255552 b (rdO b).2.1 (rdO b).2.2
def rdS (b : List Int) := gsignV b (rdT b).2.1 (rdT b).2.2
def rdK (b : List Int) := gtextV 200 b (rdS b).2.1 (rdS b).2.2
def rdV (b : List Int) := gtextV 2000 b (rdK b).2.1 (rdK b).2.2
def rdX (b : List Int) : Rec := ((rdO b).1, unfoldV (rdT b).1, (rdK b).1, (rdV b).1, (rdS b).1)
def rdE (b : List Int) : Int := bif (rdV b).2.2 == 0 && !recR (rdX b) then 2 else (rdV b).2.2
def getR (b : List Int) : Rec × Int × Int := bif rdE b != 0 then (recT.zero, 0, rdE b) else (rdX b, (rdV b).2.1, 0)
theorem gnumV_put {m : Int} {n : Nat} (a r : List Int) (hn : n < 2 ^ 64) (hm : (n : Int) ≤ m) : gnumV m (a ++ (putN n ++ r)) a.length 0 = ((n : Int), ((a.length + (putN n).length : Nat) : Int), 0) := by
  unfold gnumV
  have e : (a ++ (putN n ++ r)).drop ((a.length : Nat) : Int).toNat = putN n ++ r := by rw [Int.toNat_natCast, List.drop_left]
  have h : ¬ (n : Int) > m := by omega
  rw [e, getB_putN n r hn]
  simp [h]
theorem of_bytes (l : List UInt8) : ofBytes (bytesOf l) = l := by
  unfold ofBytes bytesOf
  rw [List.map_map]
  conv => rhs; rw [← List.map_id l]
  apply List.map_congr_left
  intro x _
  simp
theorem gtextV_put {m : Int} (l : List UInt8) (a r : List Int) (hm : (List.length l : Int) ≤ m) (hl : List.length l < 2 ^ 64) : gtextV m (a ++ (putN (List.length l) ++ (bytesOf l ++ r))) a.length 0 = (l, ((a.length + ((putN (List.length l)).length + List.length l) : Nat) : Int), 0) := by
  unfold gtextV
  rw [gnumV_put a _ hl hm]
  have hb : (bytesOf l).length = l.length := by simp [bytesOf]
  have h : ¬ ((List.length l : Nat) : Int) > (((a ++ (putN (List.length l) ++ (bytesOf l ++ r))).length : Nat) : Int) - ((a.length + (putN (List.length l)).length : Nat) : Int) := by
    simp only [List.length_append, hb]; omega
  simp only [beq_self_eq_true, cond_true, h, decide_false, cond_false, Int.toNat_natCast]
  have e : (a ++ (putN (List.length l) ++ (bytesOf l ++ r))).drop (a.length + (putN (List.length l)).length) = bytesOf l ++ r := by
    rw [← List.append_assoc, ← List.length_append, List.drop_left]
  rw [e, ← hb, List.take_left, of_bytes]
  refine Prod.ext rfl (Prod.ext ?_ rfl)
  simp only; omega
theorem gsignV_put (d : Bool) (a r : List Int) : gsignV (a ++ ([bif d then (1 : Int) else 0] ++ r)) a.length 0 = (d, ((a.length + 1 : Nat) : Int), 0) := by
  unfold gsignV
  have h : (((a.length : Nat) : Int) == (((a ++ ([bif d then (1 : Int) else 0] ++ r)).length : Nat) : Int)) = false := by
    simp only [List.length_append, List.length_cons, List.length_nil, beq_eq_false_iff_ne, ne_eq]; omega
  rw [h, Int.toNat_natCast]
  have g : (a ++ ([bif d then (1 : Int) else 0] ++ r)).getD a.length 0 = bif d then (1 : Int) else 0 := by simp [List.getD_eq_getElem?_getD]
  rw [g]
  cases d <;> simp
theorem getR_put {r : Rec} (h : recR r = true) (rest : List Int) : getR (encR r ++ rest) = (r, ((encR r).length : Int), 0) := by
  obtain ⟨o, t, k, v, d⟩ := r
  have hr := h
  simp only [recR, Bool.and_eq_true, decide_eq_true_eq] at h
  obtain ⟨h1, h2, h3, h4, h5, h6, h7, h8⟩ := h
  have hk : (bytesOf k).length = k.length := by simp [bytesOf]
  have hv : (bytesOf v).length = v.length := by simp [bytesOf]
  have hf : 0 ≤ foldV t ∧ foldV t ≤ 2199023255552 := by
    unfold foldV
    by_cases h : t < 0
    · simp only [h, decide_true, cond_true]; omega
    · simp only [h, decide_false, cond_false]; omega
  obtain ⟨b, hb⟩ : ∃ b, b = encR (o, t, k, v, d) ++ rest := ⟨_, rfl⟩
  simp only [encR] at hb
  have bo : rdO b = (o, (((putN o.toNat).length : Nat) : Int), 0) := by
    have := gnumV_put (m := 1125899906842624) (n := o.toNat) [] (putN (foldV t).toNat ++ ([bif d then (1 : Int) else 0] ++ (putN (List.length k) ++ (bytesOf k ++ (putN (List.length v) ++ (bytesOf v ++ rest)))))) (by omega) (by omega)
    simp only [List.nil_append, List.length_nil, Nat.zero_add] at this
    unfold rdO
    rw [hb]
    simp only [List.append_assoc]
    refine this.trans ?_
    rw [Int.toNat_of_nonneg h1]
  have bt : rdT b = (foldV t, (((putN o.toNat ++ putN (foldV t).toNat).length : Nat) : Int), 0) := by
    have := gnumV_put (m := 2199023255552) (n := (foldV t).toNat) (putN o.toNat) ([bif d then (1 : Int) else 0] ++ (putN (List.length k) ++ (bytesOf k ++ (putN (List.length v) ++ (bytesOf v ++ rest))))) (by omega) (by omega)
    unfold rdT
    rw [bo, hb]
    simp only [List.append_assoc]
    refine this.trans ?_
    rw [Int.toNat_of_nonneg hf.1, List.length_append]
  have bs : rdS b = (d, (((putN o.toNat ++ putN (foldV t).toNat ++ [bif d then (1 : Int) else 0]).length : Nat) : Int), 0) := by
    have := gsignV_put d (putN o.toNat ++ putN (foldV t).toNat) (putN (List.length k) ++ (bytesOf k ++ (putN (List.length v) ++ (bytesOf v ++ rest))))
    unfold rdS
    rw [bt, hb]
    simp only [List.append_assoc] at this ⊢
    refine this.trans ?_
    simp only [List.length_append, List.length_cons, List.length_nil, Nat.zero_add, Nat.add_assoc]
  have bk : rdK b = (k, (((putN o.toNat ++ putN (foldV t).toNat ++ [bif d then (1 : Int) else 0] ++ putN (List.length k) ++ bytesOf k).length : Nat) : Int), 0) := by
    have := gtextV_put (m := 200) k (putN o.toNat ++ putN (foldV t).toNat ++ [bif d then (1 : Int) else 0]) (putN (List.length v) ++ (bytesOf v ++ rest)) h6 (by omega)
    unfold rdK
    rw [bs, hb]
    simp only [List.append_assoc] at this ⊢
    refine this.trans ?_
    simp only [List.length_append, hk, Nat.add_assoc]
  have bv : rdV b = (v, (((encR (o, t, k, v, d)).length : Nat) : Int), 0) := by
    have := gtextV_put (m := 2000) v (putN o.toNat ++ putN (foldV t).toNat ++ [bif d then (1 : Int) else 0] ++ putN (List.length k) ++ bytesOf k) rest h7 (by omega)
    unfold rdV
    rw [bk, hb]
    simp only [List.append_assoc] at this ⊢
    refine this.trans ?_
    simp only [encR, List.length_append, hv, Nat.add_assoc]
  have hx : rdX b = (o, t, k, v, d) := by
    unfold rdX
    rw [bo, bt, bk, bv, bs]
    simp only [unfold_fold]
  have he : rdE b = 0 := by
    unfold rdE
    rw [hx, hr, bv]; rfl
  rw [show encR (o, t, k, v, d) ++ rest = b from by rw [hb]; rfl]
  unfold getR
  rw [he, hx, bv]
  rfl
theorem encR_len {r : Rec} (h : recR r = true) : (encR r).length ≤ 2241 := by
  obtain ⟨o, t, k, v, d⟩ := r
  simp only [recR, Bool.and_eq_true, decide_eq_true_eq] at h
  obtain ⟨h1, h2, h3, h4, h5, h6, h7, h8⟩ := h
  have hk : (bytesOf k).length = k.length := by simp [bytesOf]
  have hv : (bytesOf v).length = v.length := by simp [bytesOf]
  have hf := fold_in (n := t) (by omega) (by omega)
  have a1 := putN_len (n := o.toNat) (by omega)
  have a2 := putN_len (n := (foldV t).toNat) (by omega)
  have a3 := putN_len (n := List.length k) (by omega)
  have a4 := putN_len (n := List.length v) (by omega)
  simp only [encR, List.length_append, List.length_cons, List.length_nil, hk, hv]
  omega
end Go.Sim
