/-
  WkRvl: the walks of the document's own reader of names. · PlSch: what searches in lists come to. · PlSvc: what chapters 10 and 21 say of commands and requests, in plain Lean. · WkS1: walks of leaves of service and command. · WkS2: walks of loops over records. · WkS3: walks of command.Right, of the document's Right and of service.Check. · SimBrw: a call that only looks: rows that lie in objects are told as data while the call lasts. · SimMv: a function of whose objects only the first few keep their numbers; the others go over to it. · PlEnc: whole numbers as bytes: the plain side. · PlEnr: records as bytes: the plain side. · PlCrc: the sum of bytes: the plain side. · WkU1: walks of numbers and records, for segments. WRITTEN BY PROGRAM (genU.py). · WkU2: walks of sums and frames, for segments. WRITTEN BY PROGRAM (genU.py). · WkU3: walks of records' bytes. · WkU4: walks of a log of segments: New, Seal, Append.
-/
import Derived.Test.YtpkobajkogcmkaaGreatDoorPartD
namespace Go.Sim
set_option linter.unusedSimpArgs false
set_option linter.unusedVariables false
set_option maxRecDepth 10000
theorem rune1_rd {R : Type} (s : List UInt8) (x2 x3 n le c i : Int) (x4 : Bool) (K : Ex → St → Option R) : roundK (env []) H.cooperageref1_rune1 0 (LPof []) V.cooperageref1_rune1_23 L.cooperageref1_rune1_23 ⟨[(0, .str s), (2, .int .i64 x2), (3, .int .i64 x3), (4, .bool x4), (6, .int .i64 n), (7, .int .i64 le), (8, .int .i64 c), (9, .int .i64 i)], [], 0⟩ K = bif decide (i < n) then bif decide ((0 : Int) ≤ i) && decide (i < (↑s.length : Int)) then Option.bind (bif decide (IntKind.i64.wrap (↑(s.getD i.toNat (0 : UInt8)).toNat : Int) < (128 : Int)) then some true else some (decide (IntKind.i64.wrap (↑(s.getD i.toNat (0 : UInt8)).toNat : Int) > (191 : Int)))) fun v => bif v then K Ex.ret { slots := [(0, AV.str s), (2, AV.int IntKind.i64 (0 : Int)), (3, AV.int IntKind.i64 (1 : Int)), (4, AV.bool false), (6, AV.int IntKind.i64 n), (7, AV.int IntKind.i64 le), (8, AV.int IntKind.i64 c), (9, AV.int IntKind.i64 i)], objs := [], nx := 0 } else K Ex.normal { slots := [(0, AV.str s), (2, AV.int IntKind.i64 x2), (3, AV.int IntKind.i64 x3), (4, AV.bool x4), (6, AV.int IntKind.i64 n), (7, AV.int IntKind.i64 le), (8, AV.int IntKind.i64 (IntKind.i64.wrap (IntKind.i64.wrap (c * (64 : Int)) + IntKind.i64.wrap (↑(BitVec.ofInt 64 (IntKind.i64.wrap (↑(s.getD i.toNat (0 : UInt8)).toNat : Int)) &&& BitVec.ofInt 64 (63 : Int)).toNat : Int)))), (9, AV.int IntKind.i64 (IntKind.i64.wrap (i + (1 : Int))))], objs := [], nx := 0 } else none else K (Ex.exit 1) { slots := [(0, AV.str s), (2, AV.int IntKind.i64 x2), (3, AV.int IntKind.i64 x3), (4, AV.bool x4), (6, AV.int IntKind.i64 n), (7, AV.int IntKind.i64 le), (8, AV.int IntKind.i64 c), (9, AV.int IntKind.i64 i)], objs := [], nx := 0 } := by kernel_rfl

theorem getD_bt (s : List UInt8) (k : Nat) : (s.getD k 0).toNat = bt s k := rfl
theorem wrap_bt (s : List UInt8) (k : Nat) : IntKind.i64.wrap ((bt s k : Nat) : Int) = ((bt s k : Nat) : Int) := by
  have := bt_lt s k
  exact wrap64 (by omega) (by omega)
theorem bad_bif (x : Nat) : (bif decide (((x : Nat) : Int) < (128 : Int)) then some true else some (decide (((x : Nat) : Int) > (191 : Int)))) = some (badB x) := by
  unfold badB
  rw [show decide (((x : Nat) : Int) < (128 : Int)) = decide (x < 128) from decide_eq_decide.2 (by omega), show decide (((x : Nat) : Int) > (191 : Int)) = decide (x > 191) from decide_eq_decide.2 (by omega)]
  cases decide (x < 128) <;> rfl
def runeSt (s : List UInt8) (x2 x3 : Int) (x4 : Bool) (n le : Int) (c i : Nat) : St := ⟨[(0, .str s), (2, .int .i64 x2), (3, .int .i64 x3), (4, .bool x4), (6, .int .i64 n), (7, .int .i64 le), (8, .int .i64 c), (9, .int .i64 i)], [], 0⟩
theorem rune1_loop (s : List UInt8) (le : Int) (N : Nat) (hN : N ≤ s.length) {R : Type} (K : Ex → St → Option R) : ∀ (k i c B : Nat), i + k = N → N ≤ 4 → c < B → B * 64 ^ k ≤ 2 ^ 50 →
    rounds (env []) H.cooperageref1_rune1 0 (LPof []) V.cooperageref1_rune1_23 L.cooperageref1_rune1_23 (k + 1) (runeSt s 0 0 false N le c i) K =
      bif (ctF s k i c).1 then K (.exit 1) (runeSt s 0 0 false N le (ctF s k i c).2.1 (ctF s k i c).2.2) else K .ret (runeSt s 0 1 false N le (ctF s k i c).2.1 (ctF s k i c).2.2)
  | 0, i, c, B, h, _, _, _ => by
    have : i = N := by omega
    subst this
    rw [rounds_succ']
    unfold runeSt
    rw [rune1_rd, cond_neg (by omega)]
    rfl
  | k + 1, i, c, B, h, h4, hc, hB => by
    have h1 := bt_lt s i
    have hB1 : B ≤ 2 ^ 50 := Nat.le_trans (Nat.le_mul_of_pos_right _ (Nat.pow_pos (by decide))) hB
    have ih := rune1_loop s le N hN K k (i + 1) (c * 64 + bt s i % 64) (64 * B) (by omega) h4 (by omega) (by rw [Nat.pow_succ] at hB; rw [Nat.mul_comm 64 B, Nat.mul_assoc, Nat.mul_comm 64]; exact hB)
    rw [rounds_succ']
    unfold runeSt at ih ⊢
    rw [rune1_rd, cond_pos (by omega), cond_pos2 (by omega) (by omega), Int.toNat_natCast, getD_bt, wrap_bt, bad_bif, and_mask _ 63 63 rfl h1 (by simp), wrap64 (n := ((bt s i % (63 + 1) : Nat) : Int)) (by omega) (by omega),
      wrap64 (n := (c : Int) * 64) (by omega) (by omega), wrap64 (n := (c : Int) * 64 + ((bt s i % (63 + 1) : Nat) : Int)) (by omega) (by omega), wrap64 (n := (i : Int) + 1) (by omega) (by omega)]
    simp only [Option.bind_some, ctF]
    cases badB (bt s i) with
    | true => rfl
    | false =>
      simp only [cond_false]
      rw [← ih]
      congr 2
def runePat : SPat := ⟨[(0, .str), (2, .int .i64), (3, .int .i64), (4, .bool), (6, .int .i64), (7, .int .i64), (8, .int .i64), (9, .int .i64)], []⟩
def runeCt (s : List UInt8) (n c : Int) : Bool × Nat × Nat := ctF s (n.toNat - 1) 1 c.toNat
def runeLC : LoopC := LoopC.of runePat (fun ⟨⟨s, x2, x3, x4, n, le, c, i, _⟩, _⟩ => decide (x2 = (0 : Int)) && decide (x3 = (0 : Int)) && !x4 && decide (i = (1 : Int)) && decide ((0 : Int) ≤ c) && decide (c < (256 : Int)) && decide ((2 : Int) ≤ n) && decide (n ≤ (4 : Int)) && decide (n ≤ (List.length s : Int)))
  fun ⟨⟨s, x2, x3, x4, n, le, c, i, _⟩, _⟩ => [((runeCt s n c).1, .exit 1, runeSt s 0 0 false n le (runeCt s n c).2.1 (runeCt s n c).2.2), (true, .ret, runeSt s 0 1 false n le (runeCt s n c).2.1 (runeCt s n c).2.2)]
theorem rune1_all (s : List UInt8) (le n c : Int) (h1 : 0 ≤ c) (h2 : c < 256) (h3 : 2 ≤ n) (h4 : n ≤ 4) (h5 : n ≤ (s.length : Int)) : ∃ k, rounds (env []) H.cooperageref1_rune1 0 (LPof []) V.cooperageref1_rune1_23 L.cooperageref1_rune1_23 k
      ⟨[(0, .str s), (2, .int .i64 0), (3, .int .i64 0), (4, .bool false), (6, .int .i64 n), (7, .int .i64 le), (8, .int .i64 c), (9, .int .i64 1)], [], 0⟩ (fun e s => some (e, s)) =
    pick [((runeCt s n c).1, .exit 1, runeSt s 0 0 false n le (runeCt s n c).2.1 (runeCt s n c).2.2), (true, .ret, runeSt s 0 1 false n le (runeCt s n c).2.1 (runeCt s n c).2.2)] := by
  obtain ⟨N, rfl⟩ := Int.eq_ofNat_of_zero_le (show 0 ≤ n by omega)
  obtain ⟨C, rfl⟩ := Int.eq_ofNat_of_zero_le h1
  have hp : 256 * 64 ^ (N - 1) ≤ 2 ^ 50 := by
    rcases (show N = 2 ∨ N = 3 ∨ N = 4 by omega) with rfl | rfl | rfl <;> decide
  have := rune1_loop s le N (by omega) (fun e s => some (e, s)) (N - 1) 1 C 256 (by omega) (by omega) (by omega) hp
  refine ⟨_, this.trans ?_⟩
  unfold runeCt
  simp only [Int.toNat_natCast, pick]
  cases (ctF s (N - 1) 1 C).1 <;> rfl
theorem rune1_lok : LoopOK P0 H.cooperageref1_rune1 0 L.cooperageref1_rune1_23 runeLC := loop_ok_of (env_ok env_nil) glob0 mixed0 noLoops V.cooperageref1_rune1_23 (by decide) fun ⟨⟨s, x2, x3, x4, n, le, c, i, _⟩, _⟩ h hw => by
  simp only [Bool.and_eq_true, decide_eq_true_eq, Bool.not_eq_true'] at h
  obtain ⟨⟨⟨⟨⟨⟨⟨⟨h1, h2⟩, h3⟩, h4⟩, h5⟩, h6⟩, h7⟩, h8⟩, h9⟩ := h
  subst h1; subst h2; subst h3; subst h4
  exact rune1_all s le n c h5 h6 h7 h8 h9
theorem rune1_ev (s : List UInt8) : evFn (env []) H.cooperageref1_rune1 (LPof [(23, runeLC)]) F.cooperageref1_rune1 [.str s] [] (finK 0) = bif decide ((0 : Int) < (↑s.length : Int)) then bif decide (IntKind.i64.wrap (↑(s.getD 0 (0 : UInt8)).toNat : Int) < (128 : Int)) then some (AV.tup [AV.int IntKind.i64 (IntKind.i64.wrap (↑(s.getD 0 (0 : UInt8)).toNat : Int)), AV.int IntKind.i64 (1 : Int), AV.bool true], []) else Option.bind (bif decide (IntKind.i64.wrap (↑(s.getD 0 (0 : UInt8)).toNat : Int) ≥ (194 : Int)) then some (decide (IntKind.i64.wrap (↑(s.getD 0 (0 : UInt8)).toNat : Int) < (224 : Int))) else some false) fun v => bif v then bif decide ((↑s.length : Int) < (2 : Int)) then some (AV.tup [AV.int IntKind.i64 (0 : Int), AV.int IntKind.i64 (1 : Int), AV.bool false], []) else bif decide ((0 : Int) ≤ IntKind.i64.wrap (↑(BitVec.ofInt 64 (IntKind.i64.wrap (↑(s.getD 0 (0 : UInt8)).toNat : Int)) &&& BitVec.ofInt 64 (31 : Int)).toNat : Int)) && decide (IntKind.i64.wrap (↑(BitVec.ofInt 64 (IntKind.i64.wrap (↑(s.getD 0 (0 : UInt8)).toNat : Int)) &&& BitVec.ofInt 64 (31 : Int)).toNat : Int) < (256 : Int)) && true && true && decide ((2 : Int) ≤ (↑s.length : Int)) && (runeCt s (2 : Int) (IntKind.i64.wrap (↑(BitVec.ofInt 64 (IntKind.i64.wrap (↑(s.getD 0 (0 : UInt8)).toNat : Int)) &&& BitVec.ofInt 64 (31 : Int)).toNat : Int))).fst then Option.bind (bif decide ((↑(runeCt s (2 : Int) (IntKind.i64.wrap (↑(BitVec.ofInt 64 (IntKind.i64.wrap (↑(s.getD 0 (0 : UInt8)).toNat : Int)) &&& BitVec.ofInt 64 (31 : Int)).toNat : Int))).snd.fst : Int) < (128 : Int)) then some true else bif decide ((↑(runeCt s (2 : Int) (IntKind.i64.wrap (↑(BitVec.ofInt 64 (IntKind.i64.wrap (↑(s.getD 0 (0 : UInt8)).toNat : Int)) &&& BitVec.ofInt 64 (31 : Int)).toNat : Int))).snd.fst : Int) > (1114111 : Int)) then some true else bif decide ((↑(runeCt s (2 : Int) (IntKind.i64.wrap (↑(BitVec.ofInt 64 (IntKind.i64.wrap (↑(s.getD 0 (0 : UInt8)).toNat : Int)) &&& BitVec.ofInt 64 (31 : Int)).toNat : Int))).snd.fst : Int) ≥ (55296 : Int)) then some (decide ((↑(runeCt s (2 : Int) (IntKind.i64.wrap (↑(BitVec.ofInt 64 (IntKind.i64.wrap (↑(s.getD 0 (0 : UInt8)).toNat : Int)) &&& BitVec.ofInt 64 (31 : Int)).toNat : Int))).snd.fst : Int) ≤ (57343 : Int))) else some false) fun v => bif v then some (AV.tup [AV.int IntKind.i64 (0 : Int), AV.int IntKind.i64 (1 : Int), AV.bool false], []) else some (AV.tup [AV.int IntKind.i64 (↑(runeCt s (2 : Int) (IntKind.i64.wrap (↑(BitVec.ofInt 64 (IntKind.i64.wrap (↑(s.getD 0 (0 : UInt8)).toNat : Int)) &&& BitVec.ofInt 64 (31 : Int)).toNat : Int))).snd.fst : Int), AV.int IntKind.i64 (2 : Int), AV.bool true], []) else bif decide ((0 : Int) ≤ IntKind.i64.wrap (↑(BitVec.ofInt 64 (IntKind.i64.wrap (↑(s.getD 0 (0 : UInt8)).toNat : Int)) &&& BitVec.ofInt 64 (31 : Int)).toNat : Int)) && decide (IntKind.i64.wrap (↑(BitVec.ofInt 64 (IntKind.i64.wrap (↑(s.getD 0 (0 : UInt8)).toNat : Int)) &&& BitVec.ofInt 64 (31 : Int)).toNat : Int) < (256 : Int)) && true && true && decide ((2 : Int) ≤ (↑s.length : Int)) && true then some (AV.tup [AV.int IntKind.i64 (0 : Int), AV.int IntKind.i64 (1 : Int), AV.bool false], []) else none else Option.bind (bif decide (IntKind.i64.wrap (↑(s.getD 0 (0 : UInt8)).toNat : Int) ≥ (224 : Int)) then some (decide (IntKind.i64.wrap (↑(s.getD 0 (0 : UInt8)).toNat : Int) < (240 : Int))) else some false) fun v => bif v then bif decide ((↑s.length : Int) < (3 : Int)) then some (AV.tup [AV.int IntKind.i64 (0 : Int), AV.int IntKind.i64 (1 : Int), AV.bool false], []) else bif decide ((0 : Int) ≤ IntKind.i64.wrap (↑(BitVec.ofInt 64 (IntKind.i64.wrap (↑(s.getD 0 (0 : UInt8)).toNat : Int)) &&& BitVec.ofInt 64 (15 : Int)).toNat : Int)) && decide (IntKind.i64.wrap (↑(BitVec.ofInt 64 (IntKind.i64.wrap (↑(s.getD 0 (0 : UInt8)).toNat : Int)) &&& BitVec.ofInt 64 (15 : Int)).toNat : Int) < (256 : Int)) && true && true && decide ((3 : Int) ≤ (↑s.length : Int)) && (runeCt s (3 : Int) (IntKind.i64.wrap (↑(BitVec.ofInt 64 (IntKind.i64.wrap (↑(s.getD 0 (0 : UInt8)).toNat : Int)) &&& BitVec.ofInt 64 (15 : Int)).toNat : Int))).fst then Option.bind (bif decide ((↑(runeCt s (3 : Int) (IntKind.i64.wrap (↑(BitVec.ofInt 64 (IntKind.i64.wrap (↑(s.getD 0 (0 : UInt8)).toNat : Int)) &&& BitVec.ofInt 64 (15 : Int)).toNat : Int))).snd.fst : Int) < (2048 : Int)) then some true else bif decide ((↑(runeCt s (3 : Int) (IntKind.i64.wrap (↑(BitVec.ofInt 64 (IntKind.i64.wrap (↑(s.getD 0 (0 : UInt8)).toNat : Int)) &&& BitVec.ofInt 64 (15 : Int)).toNat : Int))).snd.fst : Int) > (1114111 : Int)) then some true else bif decide ((↑(runeCt s (3 : Int) (IntKind.i64.wrap (↑(BitVec.ofInt 64 (IntKind.i64.wrap (↑(s.getD 0 (0 : UInt8)).toNat : Int)) &&& BitVec.ofInt 64 (15 : Int)).toNat : Int))).snd.fst : Int) ≥ (55296 : Int)) then some (decide ((↑(runeCt s (3 : Int) (IntKind.i64.wrap (↑(BitVec.ofInt 64 (IntKind.i64.wrap (↑(s.getD 0 (0 : UInt8)).toNat : Int)) &&& BitVec.ofInt 64 (15 : Int)).toNat : Int))).snd.fst : Int) ≤ (57343 : Int))) else some false) fun v => bif v then some (AV.tup [AV.int IntKind.i64 (0 : Int), AV.int IntKind.i64 (1 : Int), AV.bool false], []) else some (AV.tup [AV.int IntKind.i64 (↑(runeCt s (3 : Int) (IntKind.i64.wrap (↑(BitVec.ofInt 64 (IntKind.i64.wrap (↑(s.getD 0 (0 : UInt8)).toNat : Int)) &&& BitVec.ofInt 64 (15 : Int)).toNat : Int))).snd.fst : Int), AV.int IntKind.i64 (3 : Int), AV.bool true], []) else bif decide ((0 : Int) ≤ IntKind.i64.wrap (↑(BitVec.ofInt 64 (IntKind.i64.wrap (↑(s.getD 0 (0 : UInt8)).toNat : Int)) &&& BitVec.ofInt 64 (15 : Int)).toNat : Int)) && decide (IntKind.i64.wrap (↑(BitVec.ofInt 64 (IntKind.i64.wrap (↑(s.getD 0 (0 : UInt8)).toNat : Int)) &&& BitVec.ofInt 64 (15 : Int)).toNat : Int) < (256 : Int)) && true && true && decide ((3 : Int) ≤ (↑s.length : Int)) && true then some (AV.tup [AV.int IntKind.i64 (0 : Int), AV.int IntKind.i64 (1 : Int), AV.bool false], []) else none else Option.bind (bif decide (IntKind.i64.wrap (↑(s.getD 0 (0 : UInt8)).toNat : Int) ≥ (240 : Int)) then some (decide (IntKind.i64.wrap (↑(s.getD 0 (0 : UInt8)).toNat : Int) < (245 : Int))) else some false) fun v => bif v then bif decide ((↑s.length : Int) < (4 : Int)) then some (AV.tup [AV.int IntKind.i64 (0 : Int), AV.int IntKind.i64 (1 : Int), AV.bool false], []) else bif decide ((0 : Int) ≤ IntKind.i64.wrap (↑(BitVec.ofInt 64 (IntKind.i64.wrap (↑(s.getD 0 (0 : UInt8)).toNat : Int)) &&& BitVec.ofInt 64 (7 : Int)).toNat : Int)) && decide (IntKind.i64.wrap (↑(BitVec.ofInt 64 (IntKind.i64.wrap (↑(s.getD 0 (0 : UInt8)).toNat : Int)) &&& BitVec.ofInt 64 (7 : Int)).toNat : Int) < (256 : Int)) && true && true && decide ((4 : Int) ≤ (↑s.length : Int)) && (runeCt s (4 : Int) (IntKind.i64.wrap (↑(BitVec.ofInt 64 (IntKind.i64.wrap (↑(s.getD 0 (0 : UInt8)).toNat : Int)) &&& BitVec.ofInt 64 (7 : Int)).toNat : Int))).fst then Option.bind (bif decide ((↑(runeCt s (4 : Int) (IntKind.i64.wrap (↑(BitVec.ofInt 64 (IntKind.i64.wrap (↑(s.getD 0 (0 : UInt8)).toNat : Int)) &&& BitVec.ofInt 64 (7 : Int)).toNat : Int))).snd.fst : Int) < (65536 : Int)) then some true else bif decide ((↑(runeCt s (4 : Int) (IntKind.i64.wrap (↑(BitVec.ofInt 64 (IntKind.i64.wrap (↑(s.getD 0 (0 : UInt8)).toNat : Int)) &&& BitVec.ofInt 64 (7 : Int)).toNat : Int))).snd.fst : Int) > (1114111 : Int)) then some true else bif decide ((↑(runeCt s (4 : Int) (IntKind.i64.wrap (↑(BitVec.ofInt 64 (IntKind.i64.wrap (↑(s.getD 0 (0 : UInt8)).toNat : Int)) &&& BitVec.ofInt 64 (7 : Int)).toNat : Int))).snd.fst : Int) ≥ (55296 : Int)) then some (decide ((↑(runeCt s (4 : Int) (IntKind.i64.wrap (↑(BitVec.ofInt 64 (IntKind.i64.wrap (↑(s.getD 0 (0 : UInt8)).toNat : Int)) &&& BitVec.ofInt 64 (7 : Int)).toNat : Int))).snd.fst : Int) ≤ (57343 : Int))) else some false) fun v => bif v then some (AV.tup [AV.int IntKind.i64 (0 : Int), AV.int IntKind.i64 (1 : Int), AV.bool false], []) else some (AV.tup [AV.int IntKind.i64 (↑(runeCt s (4 : Int) (IntKind.i64.wrap (↑(BitVec.ofInt 64 (IntKind.i64.wrap (↑(s.getD 0 (0 : UInt8)).toNat : Int)) &&& BitVec.ofInt 64 (7 : Int)).toNat : Int))).snd.fst : Int), AV.int IntKind.i64 (4 : Int), AV.bool true], []) else bif decide ((0 : Int) ≤ IntKind.i64.wrap (↑(BitVec.ofInt 64 (IntKind.i64.wrap (↑(s.getD 0 (0 : UInt8)).toNat : Int)) &&& BitVec.ofInt 64 (7 : Int)).toNat : Int)) && decide (IntKind.i64.wrap (↑(BitVec.ofInt 64 (IntKind.i64.wrap (↑(s.getD 0 (0 : UInt8)).toNat : Int)) &&& BitVec.ofInt 64 (7 : Int)).toNat : Int) < (256 : Int)) && true && true && decide ((4 : Int) ≤ (↑s.length : Int)) && true then some (AV.tup [AV.int IntKind.i64 (0 : Int), AV.int IntKind.i64 (1 : Int), AV.bool false], []) else none else some (AV.tup [AV.int IntKind.i64 (0 : Int), AV.int IntKind.i64 (1 : Int), AV.bool false], []) else none := by kernel_rfl

def r3 (x : Nat × Nat × Bool) : AV := .tup [.int .i64 (x.1 : Int), .int .i64 (x.2.1 : Int), .bool x.2.2]
theorem tell_bif (s : List UInt8) (N k : Nat) (n leI : Int) (least c0 : Nat) (hn : n = (N : Int)) (hk : N - 1 = k) (hl : leI = (least : Int)) (hc : c0 < 256) :
    (bif decide ((s.length : Int) < n) then some (AV.tup [AV.int IntKind.i64 (0 : Int), AV.int IntKind.i64 (1 : Int), AV.bool false], ([] : List AObj))
     else bif decide ((0 : Int) ≤ (c0 : Int)) && decide ((c0 : Int) < (256 : Int)) && true && true && decide (n ≤ (s.length : Int)) && (runeCt s n (c0 : Int)).fst then
       Option.bind (bif decide (((runeCt s n (c0 : Int)).snd.fst : Int) < leI) then some true else bif decide (((runeCt s n (c0 : Int)).snd.fst : Int) > (1114111 : Int)) then some true
         else some (decide (((runeCt s n (c0 : Int)).snd.fst : Int) ≥ (55296 : Int)) && decide (((runeCt s n (c0 : Int)).snd.fst : Int) ≤ (57343 : Int))))
         fun v => bif v then some (AV.tup [AV.int IntKind.i64 (0 : Int), AV.int IntKind.i64 (1 : Int), AV.bool false], []) else some (AV.tup [AV.int IntKind.i64 ((runeCt s n (c0 : Int)).snd.fst : Int), AV.int IntKind.i64 n, AV.bool true], [])
     else bif decide ((0 : Int) ≤ (c0 : Int)) && decide ((c0 : Int) < (256 : Int)) && true && true && decide (n ≤ (s.length : Int)) && true then some (AV.tup [AV.int IntKind.i64 (0 : Int), AV.int IntKind.i64 (1 : Int), AV.bool false], []) else none)
    = some (r3 (tellR s N k least c0), []) := by
  subst hn; subst hl
  unfold runeCt tellR
  rw [Int.toNat_natCast, Int.toNat_natCast, hk]
  by_cases l : s.length < N
  · rw [cond_pos (by omega), cond_pos l]; rfl
  · have e1 : (decide ((0 : Int) ≤ (c0 : Int)) && decide ((c0 : Int) < (256 : Int)) && true && true && decide ((N : Int) ≤ (s.length : Int))) = true := by simp; omega
    rw [cond_neg (by omega), cond_neg l, e1]
    cases hb : (ctF s k 1 c0).1 with
    | false => rfl
    | true =>
      simp only [Bool.and_self, cond_true]
      have e2 : (bif decide (((ctF s k 1 c0).2.1 : Int) < (least : Int)) then some true else bif decide (((ctF s k 1 c0).2.1 : Int) > (1114111 : Int)) then some true
         else some (decide (((ctF s k 1 c0).2.1 : Int) ≥ (55296 : Int)) && decide (((ctF s k 1 c0).2.1 : Int) ≤ (57343 : Int)))) = some (farB (ctF s k 1 c0).2.1 least) := by
        generalize (ctF s k 1 c0).2.1 = c
        unfold farB
        rw [show decide ((c : Int) < (least : Int)) = decide (c < least) from decide_eq_decide.2 (by omega), show decide ((c : Int) > (1114111 : Int)) = decide (c > 1114111) from decide_eq_decide.2 (by omega),
          show decide ((c : Int) ≥ (55296 : Int)) = decide (c ≥ 55296) from decide_eq_decide.2 (by omega), show decide ((c : Int) ≤ (57343 : Int)) = decide (c ≤ 57343) from decide_eq_decide.2 (by omega)]
        cases decide (c < least) <;> cases decide (c > 1114111) <;> cases decide (c ≥ 55296) <;> cases decide (c ≤ 57343) <;> rfl
      rw [e2]
      cases farB (ctF s k 1 c0).2.1 least <;> rfl
theorem rune1_val (s : List UInt8) (h : s ≠ []) : evFn (env []) H.cooperageref1_rune1 (LPof [(23, runeLC)]) F.cooperageref1_rune1 [.str s] [] (finK 0) = some (r3 (r1 s), []) := by
  have hx := bt_lt s 0
  have hl : 0 < s.length := List.length_pos_iff.2 h
  have m31 := and_mask (bt s 0) 31 31 rfl hx (by simp)
  have m15 := and_mask (bt s 0) 15 15 rfl hx (by simp)
  have m7 := and_mask (bt s 0) 7 7 rfl hx (by simp)
  have w31 : IntKind.i64.wrap ((bt s 0 % (31 + 1) : Nat) : Int) = ((bt s 0 % (31 + 1) : Nat) : Int) := wrap64 (by omega) (by omega)
  have w15 : IntKind.i64.wrap ((bt s 0 % (15 + 1) : Nat) : Int) = ((bt s 0 % (15 + 1) : Nat) : Int) := wrap64 (by omega) (by omega)
  have w7 : IntKind.i64.wrap ((bt s 0 % (7 + 1) : Nat) : Int) = ((bt s 0 % (7 + 1) : Nat) : Int) := wrap64 (by omega) (by omega)
  rw [rune1_ev, cond_pos (by omega)]
  simp only [getD_bt, wrap_bt, m31, m15, m7, w31, w15, w7, and_bif, Option.bind_some]
  rw [tell_bif s 2 1 2 128 128 _ rfl rfl rfl (by omega), tell_bif s 3 2 3 2048 2048 _ rfl rfl rfl (by omega), tell_bif s 4 3 4 65536 65536 _ rfl rfl rfl (by omega), ← r1_eq]
  unfold r1R
  rw [show decide (((bt s 0 : Nat) : Int) < (128 : Int)) = decide (bt s 0 < 128) from decide_eq_decide.2 (by omega), show decide (((bt s 0 : Nat) : Int) ≥ (194 : Int)) = decide (bt s 0 ≥ 194) from decide_eq_decide.2 (by omega),
    show decide (((bt s 0 : Nat) : Int) < (224 : Int)) = decide (bt s 0 < 224) from decide_eq_decide.2 (by omega), show decide (((bt s 0 : Nat) : Int) ≥ (224 : Int)) = decide (bt s 0 ≥ 224) from decide_eq_decide.2 (by omega),
    show decide (((bt s 0 : Nat) : Int) < (240 : Int)) = decide (bt s 0 < 240) from decide_eq_decide.2 (by omega), show decide (((bt s 0 : Nat) : Int) ≥ (240 : Int)) = decide (bt s 0 ≥ 240) from decide_eq_decide.2 (by omega),
    show decide (((bt s 0 : Nat) : Int) < (245 : Int)) = decide (bt s 0 < 245) from decide_eq_decide.2 (by omega)]
  cases decide (bt s 0 < 128) with
  | true => rfl
  | false =>
    simp only [cond_false]
    cases decide (bt s 0 ≥ 194) && decide (bt s 0 < 224) with
    | true => rfl
    | false =>
      simp only [cond_false]
      cases decide (bt s 0 ≥ 224) && decide (bt s 0 < 240) with
      | true => rfl
      | false =>
        simp only [cond_false]
        cases decide (bt s 0 ≥ 240) && decide (bt s 0 < 245) <;> rfl
def caseRune1 : PCase := ⟨[.ty .str], [.int .i64, .int .i64, .bool], fun x => [(!x.1.isEmpty, (((r1 x.1).1 : Int), (((r1 x.1).2.1 : Nat) : Int), (r1 x.1).2.2, ()))]⟩
theorem rune1_ok : caseRune1.ok P0 I.cooperageref1_rune1 := case_ok (H := H.cooperageref1_rune1) (E := env []) (env_ok env_nil) glob0 mixed0 G.cooperageref1_rune1 Bd.cooperageref1_rune1 (by kernel_rfl) (loops_good (tab := [(23, runeLC)]) (by kernel_rfl) (fun x hx => by simp at hx; subst hx; exact rune1_lok)) fun ⟨s, ()⟩ y h hw => by
  obtain ⟨hc, rfl⟩ := pick_pre h
  exact ⟨[], rune1_val s (by intro e; subst e; simp at hc)⟩
noncomputable abbrev consR : List (FuncId × Con) := [(I.cooperageref1_rune1, .pure (pureOf [caseRune1]))]
theorem consR_ok : ∀ x ∈ consR, HoldsC P0 x.1 x.2 := by
  intro x hx
  simp at hx
  subst hx
  exact ⟨pureOf_holds (by simp; exact rune1_ok), C.cooperageref1_rune1⟩
theorem rvalid_rd {R : Type} (s : List UInt8) (b : Bool) (n i : Int) (K : Ex → St → Option R) : roundK (env consR) H.cooperageref1_Valid 0 (LPof []) V.cooperageref1_Valid_3 L.cooperageref1_Valid_3 ⟨[(0, .str s), (2, .bool b), (3, .int .i64 n), (4, .int .i64 i)], [], 0⟩ K = bif decide (i < (↑s.length : Int)) then bif decide ((0 : Int) ≤ i) && decide (i ≤ (↑s.length : Int)) then bif !(List.drop i.toNat s).isEmpty then Option.bind (bif (↑(r1 (List.drop i.toNat s)).fst : Int) == (45 : Int) then some true else bif (↑(r1 (List.drop i.toNat s)).fst : Int) == (95 : Int) then some true else some ((↑(r1 (List.drop i.toNat s)).fst : Int) == (46 : Int))) fun v => Option.bind (bif decide ((↑(r1 (List.drop i.toNat s)).fst : Int) ≥ (97 : Int)) then bif decide ((↑(r1 (List.drop i.toNat s)).fst : Int) ≤ (122 : Int)) then some true else bif decide ((↑(r1 (List.drop i.toNat s)).fst : Int) ≥ (48 : Int)) then some (decide ((↑(r1 (List.drop i.toNat s)).fst : Int) ≤ (57 : Int))) else some false else bif decide ((↑(r1 (List.drop i.toNat s)).fst : Int) ≥ (48 : Int)) then some (decide ((↑(r1 (List.drop i.toNat s)).fst : Int) ≤ (57 : Int))) else some false) fun v_1 => Option.bind (bif decide ((↑(r1 (List.drop i.toNat s)).fst : Int) ≥ (161 : Int)) then bif decide ((↑(r1 (List.drop i.toNat s)).fst : Int) ≤ (65535 : Int)) then bif (↑(r1 (List.drop i.toNat s)).fst : Int) != (173 : Int) then some ((↑(r1 (List.drop i.toNat s)).fst : Int) != (65279 : Int)) else some false else some false else some false) fun v_2 => Option.bind (bif !(r1 (List.drop i.toNat s)).snd.snd then some true else bif v_1 then some false else bif v_2 then some false else bif v then some !decide (i > (0 : Int)) else some true) fun v => bif v then K Ex.ret { slots := [(0, AV.str s), (2, AV.bool false), (3, AV.int IntKind.i64 n), (4, AV.int IntKind.i64 i)], objs := [], nx := 0 } else K Ex.normal { slots := [(0, AV.str s), (2, AV.bool b), (3, AV.int IntKind.i64 (IntKind.i64.wrap (n + (1 : Int)))), (4, AV.int IntKind.i64 (IntKind.i64.wrap (i + (↑(r1 (List.drop i.toNat s)).snd.fst : Int))))], objs := [], nx := 0 } else none else none else K (Ex.exit 0) { slots := [(0, AV.str s), (2, AV.bool b), (3, AV.int IntKind.i64 n), (4, AV.int IntKind.i64 i)], objs := [], nx := 0 } := by kernel_rfl

theorem drop_em {s : List UInt8} {pos : Nat} (h : pos < s.length) : (!(s.drop pos).isEmpty) = true := by
  have := drop_ne h
  cases hd : s.drop pos with
  | nil => exact absurd hd this
  | cons a b => rfl
def rvSt (s : List UInt8) (b : Bool) (n i : Int) : St := ⟨[(0, .str s), (2, .bool b), (3, .int .i64 n), (4, .int .i64 i)], [], 0⟩
/-- One test of the document's. -/
theorem bar_eq (x : Nat × Nat × Bool) (i : Int) {Q : Type} (f : Bool → Option Q) :
    (Option.bind (bif (x.1 : Int) == (45 : Int) then some true else bif (x.1 : Int) == (95 : Int) then some true else some ((x.1 : Int) == (46 : Int))) fun v =>
      Option.bind (bif decide ((x.1 : Int) ≥ (97 : Int)) then bif decide ((x.1 : Int) ≤ (122 : Int)) then some true else bif decide ((x.1 : Int) ≥ (48 : Int)) then some (decide ((x.1 : Int) ≤ (57 : Int))) else some false
        else bif decide ((x.1 : Int) ≥ (48 : Int)) then some (decide ((x.1 : Int) ≤ (57 : Int))) else some false) fun v_1 =>
        Option.bind (bif decide ((x.1 : Int) ≥ (161 : Int)) then bif decide ((x.1 : Int) ≤ (65535 : Int)) then bif (x.1 : Int) != (173 : Int) then some ((x.1 : Int) != (65279 : Int)) else some false else some false else some false) fun v_2 =>
          Option.bind (bif !x.2.2 then some true else bif v_1 then some false else bif v_2 then some false else bif v then some !decide (i > (0 : Int)) else some true) f)
    = f (barR x (!decide (i > (0 : Int)))) := by
  unfold barR smallR bigR markR
  simp only [and_bif, or_bif, nand_bif, nor_bif, Option.bind_some]
  have e1 : (bif decide ((x.1 : Int) ≥ (97 : Int)) then bif decide ((x.1 : Int) ≤ (122 : Int)) then some true else some (decide ((x.1 : Int) ≥ (48 : Int)) && decide ((x.1 : Int) ≤ (57 : Int))) else some (decide ((x.1 : Int) ≥ (48 : Int)) && decide ((x.1 : Int) ≤ (57 : Int)))) =
      some (decide ((x.1 : Int) ≥ (97 : Int)) && decide ((x.1 : Int) ≤ (122 : Int)) || decide ((x.1 : Int) ≥ (48 : Int)) && decide ((x.1 : Int) ≤ (57 : Int))) := by
    cases decide ((x.1 : Int) ≥ (97 : Int)) <;> cases decide ((x.1 : Int) ≤ (122 : Int)) <;> rfl
  simp only [or_bif] at e1
  rw [e1]
  simp only [Option.bind_some]
theorem rvalid_loop (s : List UInt8) (hs : s.length ≤ 9223372036854775807) (b : Bool) {R : Type} (K : Ex → St → Option R) : ∀ (m pos n : Nat), s.length ≤ pos + m → pos ≤ s.length → n ≤ pos →
    rounds (env consR) H.cooperageref1_Valid 0 (LPof []) V.cooperageref1_Valid_3 L.cooperageref1_Valid_3 (m + 1) (rvSt s b n pos) K =
      match failR m (s.drop pos) (!decide ((pos : Int) > (0 : Int))) with
      | some p => K .ret (rvSt s false ((n + p.1 : Nat) : Int) ((pos + p.2 : Nat) : Int))
      | none => K (.exit 0) (rvSt s b ((n + cnt (s.drop pos) : Nat) : Int) s.length)
  | m, pos, n, h, hp, h1 => by
    rw [rounds_succ']
    unfold rvSt
    by_cases hlt : pos < s.length
    · have hw := dec1_pos (s.drop pos)
      have hle := dec1_le _ (drop_ne hlt)
      rw [List.length_drop] at hle
      obtain ⟨m, rfl⟩ : ∃ j, m = j + 1 := ⟨m - 1, by omega⟩
      have ih := rvalid_loop s hs b K m (pos + (dec1 (s.drop pos)).2) (n + 1) (by omega) (by omega) (by omega)
      have hem := drop_em hlt
      rw [rvalid_rd, cond_pos (by omega), cond_pos2 (by omega) (by omega), Int.toNat_natCast, hem, r1_w, wrap64 (by omega) (by omega), wrap64 (by omega) (by omega)]
      simp only [cond_true]
      rw [bar_eq]
      rw [Bool.not_eq_true'] at hem
      rw [failR, hem]
      simp only [cond_false]
      cases barR (r1 (s.drop pos)) (!decide ((pos : Int) > (0 : Int))) with
      | true => rfl
      | false =>
        simp only [cond_false]
        rw [show (!decide (((pos + (dec1 (s.drop pos)).2 : Nat) : Int) > (0 : Int))) = false by rw [decide_eq_true (by omega)]; rfl] at ih
        rw [List.drop_drop]
        refine Eq.trans ih ?_
        cases failR m (s.drop (pos + (dec1 (s.drop pos)).2)) false with
        | none =>
          simp only [Option.map_none]
          rw [cnt_cons _ (drop_ne hlt), List.drop_drop, show n + 1 + cnt (s.drop (pos + (dec1 (s.drop pos)).2)) = n + (cnt (s.drop (pos + (dec1 (s.drop pos)).2)) + 1) by omega]
          rfl
        | some p =>
          simp only [Option.map_some]
          rw [show n + 1 + p.1 = n + (p.1 + 1) by omega, Nat.add_assoc]
          rfl
    · have : pos = s.length := by omega
      subst this
      have e : failR m [] (!decide (((s.length : Nat) : Int) > (0 : Int))) = none := by cases m <;> rfl
      rw [rvalid_rd, cond_neg (by omega), List.drop_length, e]
      simp [cnt_nil]
def rvPat : SPat := ⟨[(0, .str), (2, .bool), (3, .int .i64), (4, .int .i64)], []⟩
def rvLC : LoopC := LoopC.of rvPat (fun ⟨⟨s, b, n, i, _⟩, _⟩ => decide (n = (0 : Int)) && decide (i = (0 : Int)))
  fun ⟨⟨s, b, n, i, _⟩, _⟩ => [((failR (List.length s) s true).isSome, .ret, rvSt s false ((failR (List.length s) s true).getD (0, 0)).1 ((failR (List.length s) s true).getD (0, 0)).2), (true, .exit 0, rvSt s b (cnt s : Nat) (List.length s))]
theorem rvalid_all (s : List UInt8) (b : Bool) (h1 : s.length ≤ 9223372036854775807) : ∃ k, rounds (env consR) H.cooperageref1_Valid 0 (LPof []) V.cooperageref1_Valid_3 L.cooperageref1_Valid_3 k ⟨[(0, .str s), (2, .bool b), (3, .int .i64 0), (4, .int .i64 0)], [], 0⟩ (fun e s => some (e, s)) =
    pick [((failR s.length s true).isSome, .ret, rvSt s false ((failR s.length s true).getD (0, 0)).1 ((failR s.length s true).getD (0, 0)).2), (true, .exit 0, rvSt s b (cnt s : Nat) s.length)] := by
  have := rvalid_loop s h1 b (fun e s => some (e, s)) s.length 0 0 (by omega) (Nat.zero_le _) (Nat.le_refl _)
  rw [List.drop_zero, show (!decide (((0 : Nat) : Int) > (0 : Int))) = true from rfl] at this
  refine ⟨_, this.trans ?_⟩
  cases failR s.length s true with
  | none => simp [pick]
  | some p => simp [pick]
theorem rvalid_lok : LoopOK P0 H.cooperageref1_Valid 0 L.cooperageref1_Valid_3 rvLC := loop_ok_of (env_ok consR_ok) glob0 mixed0 noLoops V.cooperageref1_Valid_3 (by decide) fun ⟨⟨s, b, n, i, _⟩, _⟩ h hw => by
  simp only [Bool.and_eq_true, decide_eq_true_eq] at h
  obtain ⟨h2, h3⟩ := h
  subst h2; subst h3
  exact rvalid_all s b hw.1.1
theorem rvalid_ev (s : List UInt8) : evFn (env consR) H.cooperageref1_Valid (LPof [(3, rvLC)]) F.cooperageref1_Valid [.str s] [] (finK 0) = bif (failR s.length s true).isSome then some (AV.bool false, []) else Option.bind (bif decide ((↑(cnt s) : Int) > (0 : Int)) then some (decide ((↑(cnt s) : Int) ≤ (40 : Int))) else some false) fun v => some (AV.bool v, []) := by kernel_rfl

def caseRValid : PCase := ⟨[.ty .str], [.bool], fun x => [(true, (validL x.1, ()))]⟩
theorem rvalid_val (s : List UInt8) : evFn (env consR) H.cooperageref1_Valid (LPof [(3, rvLC)]) F.cooperageref1_Valid [.str s] [] (finK 0) = some (.bool (validL s), []) := by
  rw [rvalid_ev, ← valid_both]
  unfold validR
  cases (failR s.length s true).isSome with
  | true => rfl
  | false =>
    cases decide (((cnt s : Nat) : Int) > 0) <;> rfl
theorem rvalid_ok : caseRValid.ok P0 I.cooperageref1_Valid := case_ok (H := H.cooperageref1_Valid) (E := env consR) (env_ok consR_ok) glob0 mixed0 G.cooperageref1_Valid Bd.cooperageref1_Valid (by kernel_rfl) (loops_good (tab := [(3, rvLC)]) (by kernel_rfl) (fun x hx => by simp at hx; subst hx; exact rvalid_lok)) fun ⟨s, ()⟩ y h hw => by
  obtain ⟨hc, rfl⟩ := pick_pre h
  exact ⟨[], rvalid_val s⟩
end Go.Sim
namespace Go.Sim
theorem firstFrom_eq {α : Type} [DecidableEq α] {q : α → α → Bool} (hq : ∀ x y, q x y = decide (x = y)) (d : α) {a b : List α} (h : b.length = a.length) : (firstFrom (fun i => !(q (a.getD i d) (b.getD i d))) 0 a.length).isSome = !decide (a = b) := by
  cases hf : firstFrom (fun i => !(q (a.getD i d) (b.getD i d))) 0 a.length with
  | none =>
    have hn := firstFrom_none hf
    have : a = b := List.ext_getElem h.symm fun i h1 h2 => by
      have := hn i (Nat.zero_le _) (by omega)
      simp only [hq, Bool.not_eq_false', decide_eq_true_eq, List.getD_eq_getElem?_getD, List.getElem?_eq_getElem h1, List.getElem?_eq_getElem h2, Option.getD_some] at this
      exact this
    simp [this]
  | some j =>
    obtain ⟨_, h2, h3, _⟩ := firstFrom_spec hf
    have hne : a ≠ b := fun e => by
      subst e
      simp [hq] at h3
    simp [hne]
def recEqB (a b : Rec) : Bool := a.1 == b.1 && (a.2.1 == b.2.1 && (a.2.2.1 == b.2.2.1 && (a.2.2.2.1 == b.2.2.2.1 && (a.2.2.2.2 == b.2.2.2.2 && true))))
theorem recEqB_eq (a b : Rec) : recEqB a b = decide (a = b) := by
  obtain ⟨a1, a2, a3, a4, a5⟩ := a
  obtain ⟨b1, b2, b3, b4, b5⟩ := b
  unfold recEqB
  apply Bool.eq_iff_iff.2
  simp [Prod.ext_iff]
/-- Is a command too great? -/
def bigQ (r : Rec) : Bool := decide (((List.length r.2.2.1 : Nat) : Int) > 250) || decide (((List.length r.2.2.2.1 : Nat) : Int) > 2100)
abbrev atR (q : Rec → Bool) (a : List Rec) (i : Nat) : Bool := q (a.getD i recTy.zero)
def bigC (c : cmdT.den) : Bool := (firstFrom (atR bigQ c.2.2.2.1) 0 (min (List.length c.2.2.2.1) 70)).isSome || (decide (((List.length c.2.2.2.1 : Nat) : Int) > 60) || decide (((List.length c.2.2.2.2.1 : Nat) : Int) > 300))
end Go.Sim
namespace Go.Sim
/-- May a record be (P401)? -/
def recR (r : Rec) : Bool := decide (r.1 ≥ 0) && (decide (r.1 ≤ 1125899906842624) && (decide (r.2.1 ≥ -1099511627776) && (decide (r.2.1 ≤ 1099511627776) && (decide (((List.length r.2.2.1 : Nat) : Int) ≥ 1) &&
  (decide (((List.length r.2.2.1 : Nat) : Int) ≤ 200) && (decide (((List.length r.2.2.2.1 : Nat) : Int) ≤ 2000) && (!r.2.2.2.2 || r.2.2.2.1 == [])))))))
theorem recR_key (l : List UInt8) : (!(l == [])) = decide (((List.length l : Nat) : Int) ≥ 1) := by
  cases l with
  | nil => rfl
  | cons a b => simp; omega
def plainC (c : Cmd) : Bool := !(!c.1 == 1 && (c.2.1 != 0 || decide (((List.length c.2.2.2.1 : Nat) : Int) > 0)) || (!c.1 == 1 && (!c.1 == 11 && c.2.2.1 != 0) || !(c.1 == 3 || c.1 == 4) && !c.2.2.2.2.1 == [])) &&
  (!(!(c.1 == 2 || (c.1 == 3 || (c.1 == 8 || c.1 == 11))) && c.2.2.2.2.2.1 != 0 || (c.1 != 2 && (!c.1 == 11 && c.2.2.2.2.2.2.1 != 0) || (!(c.1 == 5 || (c.1 == 8 || c.1 == 9)) && c.2.2.2.2.2.2.2.1 != 0 || !c.1 == 11 && c.2.2.2.2.2.2.2.2.1 != 0))) &&
    (c.1 == 6 || c.2.2.2.2.2.2.2.2.2.1 == 0 && (c.2.2.2.2.2.2.2.2.2.2.1 == 0 && (c.2.2.2.2.2.2.2.2.2.2.2.1 == 0 && (c.2.2.2.2.2.2.2.2.2.2.2.2 == 0 && true)))))
def withinB (n a b : Int) : Bool := decide (n ≥ a) && decide (n ≤ b)
/-- A command that has just what its kind names. -/
def bareC (c : Cmd) : Cmd × Bool :=
  let z : Cmd := (c.1, 0, 0, [], [], 0, 0, 0, 0, 0, 0, 0, 0)
  bif c.1 == 0 || (c.1 == 7 || c.1 == 10) then (z, true)
  else bif c.1 == 1 then ((c.1, c.2.1, c.2.2.1, c.2.2.2.1, [], 0, 0, 0, 0, 0, 0, 0, 0), true)
  else bif c.1 == 2 then ((c.1, 0, 0, [], [], c.2.2.2.2.2.1, c.2.2.2.2.2.2.1, 0, 0, 0, 0, 0, 0), true)
  else bif c.1 == 3 then ((c.1, 0, 0, [], c.2.2.2.2.1, c.2.2.2.2.2.1, 0, 0, 0, 0, 0, 0, 0), true)
  else bif c.1 == 4 then ((c.1, 0, 0, [], c.2.2.2.2.1, 0, 0, 0, 0, 0, 0, 0, 0), true)
  else bif c.1 == 5 || c.1 == 9 then ((c.1, 0, 0, [], [], 0, 0, c.2.2.2.2.2.2.2.1, 0, 0, 0, 0, 0), true)
  else bif c.1 == 6 then ((c.1, 0, 0, [], [], 0, 0, 0, 0, c.2.2.2.2.2.2.2.2.2), true)
  else bif c.1 == 8 then ((c.1, 0, 0, [], [], c.2.2.2.2.2.1, 0, c.2.2.2.2.2.2.2.1, 0, 0, 0, 0, 0), true)
  else bif c.1 == 11 then ((c.1, 0, c.2.2.1, [], [], c.2.2.2.2.2.1, c.2.2.2.2.2.2.1, 0, c.2.2.2.2.2.2.2.2.1, 0, 0, 0, 0), true)
  else (z, false)
/-- What is wrong with a record of a batch. -/
def badR1 (r : Rec) : Bool := r.1 != 0 || !recR r
def recsB (a : List Rec) : Bool := withinB (List.length a) 1 50 && !a.any badR1
def confB (c : Cnf) : Bool := withinB c.1 1 1000 && (withinB c.2.1 0 1099511627776 && (withinB c.2.2.1 0 1099511627776 && withinB c.2.2.2 0 1099511627776))
theorem cmd_eq (a b : Cmd) : (a.1 == b.1 && (a.2.1 == b.2.1 && (a.2.2.1 == b.2.2.1 && (a.2.2.2.2.1 == b.2.2.2.2.1 && (a.2.2.2.2.2.1 == b.2.2.2.2.2.1 && (a.2.2.2.2.2.2.1 == b.2.2.2.2.2.2.1 && (a.2.2.2.2.2.2.2.1 == b.2.2.2.2.2.2.2.1 &&
    (a.2.2.2.2.2.2.2.2.1 == b.2.2.2.2.2.2.2.2.1 && ((a.2.2.2.2.2.2.2.2.2.1 == b.2.2.2.2.2.2.2.2.2.1 && (a.2.2.2.2.2.2.2.2.2.2.1 == b.2.2.2.2.2.2.2.2.2.2.1 && (a.2.2.2.2.2.2.2.2.2.2.2.1 == b.2.2.2.2.2.2.2.2.2.2.2.1 &&
    (a.2.2.2.2.2.2.2.2.2.2.2.2 == b.2.2.2.2.2.2.2.2.2.2.2.2 && true)))) && decide (a.2.2.2.1 = b.2.2.2.1)))))))))) = decide (a = b) := by
  obtain ⟨a1, a2, a3, a4, a5, a6, a7, a8, a9, a10, a11, a12, a13⟩ := a
  obtain ⟨b1, b2, b3, b4, b5, b6, b7, b8, b9, b10, b11, b12, b13⟩ := b
  apply Bool.eq_iff_iff.2
  simp only [Bool.and_eq_true, beq_iff_eq, decide_eq_true_eq, Prod.mk.injEq, and_true]
  constructor
  · rintro ⟨h1, h2, h3, h5, h6, h7, h8, h9, ⟨h10, h11, h12, h13⟩, h4⟩
    exact ⟨h1, h2, h3, h4, h5, h6, h7, h8, h9, h10, h11, h12, h13⟩
  · rintro ⟨h1, h2, h3, h4, h5, h6, h7, h8, h9, h10, h11, h12, h13⟩
    exact ⟨h1, h2, h3, h5, h6, h7, h8, h9, ⟨h10, h11, h12, h13⟩, h4⟩
def rightC (c : Cmd) : Bool := plainC c && (bif c.1 == 0 || (c.1 == 7 || c.1 == 10) then true
  else bif c.1 == 1 then withinB c.2.1 0 1099511627776 && (withinB c.2.2.1 0 1099511627776 && ((decide (c.2.1 > 0) || c.2.2.1 == 0) && recsB c.2.2.2.1))
  else bif c.1 == 2 then withinB c.2.2.2.2.2.1 0 1125899906842624 && withinB c.2.2.2.2.2.2.1 1 100
  else bif c.1 == 3 then withinB c.2.2.2.2.2.1 0 1125899906842624 && validL c.2.2.2.2.1
  else bif c.1 == 4 then validL c.2.2.2.2.1
  else bif c.1 == 5 || c.1 == 9 then withinB c.2.2.2.2.2.2.2.1 (-1099511627776) 1099511627776
  else bif c.1 == 8 then withinB c.2.2.2.2.2.2.2.1 (-1099511627776) 1099511627776 && withinB c.2.2.2.2.2.1 0 1125899906842624
  else bif c.1 == 6 then confB c.2.2.2.2.2.2.2.2.2
  else bif c.1 == 11 then withinB c.2.2.2.2.2.1 0 1125899906842624 && (withinB c.2.2.1 0 1099511627776 && withinB c.2.2.2.2.2.2.1 0 1099511627776)
  else false)
def knownK (k : Int) : Bool := k == 0 || (k == 7 || k == 10) || k == 1 || k == 2 || k == 3 || k == 4 || (k == 5 || k == 9) || k == 6 || k == 8 || k == 11
theorem len_pos_nil {α : Type} (r : List α) : decide (((List.length r : Nat) : Int) > 0) = !decide (r = []) := by cases r <;> simp
theorem bare_plain (c : Cmd) : ((bareC c).2 && decide ((bareC c).1 = c)) = (knownK c.1 && plainC c) := by
  obtain ⟨k, p, s, r, g, o, m, n, u, c1, c2, c3, c4⟩ := c
  unfold bareC plainC knownK
  simp only [len_pos_nil]
  apply Bool.eq_iff_iff.2
  by_cases h0 : k = 0
  · subst h0; simp <;> grind
  · by_cases h7 : k = 7
    · subst h7; simp <;> grind
    · by_cases h10 : k = 10
      · subst h10; simp <;> grind
      · by_cases h1 : k = 1
        · subst h1; simp <;> grind
        · by_cases h2 : k = 2
          · subst h2; simp <;> grind
          · by_cases h3 : k = 3
            · subst h3; simp <;> grind
            · by_cases h4 : k = 4
              · subst h4; simp <;> grind
              · by_cases h5 : k = 5
                · subst h5; simp <;> grind
                · by_cases h9 : k = 9
                  · subst h9; simp <;> grind
                  · by_cases h6 : k = 6
                    · subst h6; simp <;> grind
                    · by_cases h8 : k = 8
                      · subst h8; simp <;> grind
                      · by_cases h11 : k = 11
                        · subst h11; simp <;> grind
                        · simp [beq_false_of_ne h0, beq_false_of_ne h7, beq_false_of_ne h10, beq_false_of_ne h1, beq_false_of_ne h2, beq_false_of_ne h3, beq_false_of_ne h4, beq_false_of_ne h5, beq_false_of_ne h9, beq_false_of_ne h6, beq_false_of_ne h8, beq_false_of_ne h11]
theorem right_bare (c : Cmd) (h : plainC c = true) : (c.1 = 0 ∨ c.1 = 7 ∨ c.1 = 10 → c.2.2.2.2.2.2.2.1 = 0 ∧ c.2.2.2.2.2.1 = 0) ∧ (c.1 = 5 ∨ c.1 = 9 → c.2.2.2.2.2.1 = 0) := by
  obtain ⟨k, p, s, r, g, o, m, n, u, c1, c2, c3, c4⟩ := c
  unfold plainC at h
  constructor
  · rintro (e | e | e) <;> simp only at e <;> subst e <;> simp at h ⊢ <;> grind
  · rintro (e | e) <;> simp only at e <;> subst e <;> simp at h ⊢ <;> grind
/-- What the program's Right comes to, behind its look at the bare command. -/
def tailC (c : Cmd) : Bool :=
  bif c.1 == 1 then withinB c.2.1 0 1099511627776 && (withinB c.2.2.1 0 1099511627776 && ((decide (c.2.1 > 0) || c.2.2.1 == 0) && recsB c.2.2.2.1))
  else bif c.1 == 2 then withinB c.2.2.2.2.2.1 0 1125899906842624 && withinB c.2.2.2.2.2.2.1 1 100
  else bif c.1 == 3 then withinB c.2.2.2.2.2.1 0 1125899906842624 && validL c.2.2.2.2.1
  else bif c.1 == 4 then validL c.2.2.2.2.1
  else bif c.1 == 6 then confB c.2.2.2.2.2.2.2.2.2
  else bif c.1 == 11 then withinB c.2.2.2.2.2.1 0 1125899906842624 && (withinB c.2.2.1 0 1099511627776 && withinB c.2.2.2.2.2.2.1 0 1099511627776)
  else withinB c.2.2.2.2.2.2.2.1 (-1099511627776) 1099511627776 && withinB c.2.2.2.2.2.1 0 1125899906842624
theorem prog_right (c : Cmd) : ((bareC c).2 && decide ((bareC c).1 = c) && tailC c) = rightC c := by
  rw [bare_plain]
  unfold rightC
  cases hp : plainC c with
  | false => simp
  | true =>
    obtain ⟨a1, a2⟩ := right_bare c hp
    simp only [Bool.and_true, Bool.true_and]
    unfold knownK tailC
    obtain ⟨k, p, s, r, g, o, m, n, u, c1, c2, c3, c4⟩ := c
    simp only at a1 a2 ⊢
    have w0 : withinB 0 (-1099511627776) 1099511627776 = true := by decide
    have w1 : withinB 0 0 1125899906842624 = true := by decide
    by_cases h0 : k = 0
    · subst h0; obtain ⟨e1, e2⟩ := a1 (by simp); subst e1; subst e2; simp [w0, w1]
    · by_cases h7 : k = 7
      · subst h7; obtain ⟨e1, e2⟩ := a1 (by simp); subst e1; subst e2; simp [w0, w1]
      · by_cases h10 : k = 10
        · subst h10; obtain ⟨e1, e2⟩ := a1 (by simp); subst e1; subst e2; simp [w0, w1]
        · by_cases h1 : k = 1
          · subst h1; simp
          · by_cases h2 : k = 2
            · subst h2; simp
            · by_cases h3 : k = 3
              · subst h3; simp
              · by_cases h4 : k = 4
                · subst h4; simp
                · by_cases h5 : k = 5
                  · subst h5; obtain e2 := a2 (by simp); subst e2; simp [w1]
                  · by_cases h9 : k = 9
                    · subst h9; obtain e2 := a2 (by simp); subst e2; simp [w1]
                    · by_cases h6 : k = 6
                      · subst h6; simp
                      · by_cases h8 : k = 8
                        · subst h8; simp
                        · by_cases h11 : k = 11
                          · subst h11; simp
                          · simp [beq_false_of_ne h0, beq_false_of_ne h7, beq_false_of_ne h10, beq_false_of_ne h1, beq_false_of_ne h2, beq_false_of_ne h3, beq_false_of_ne h4, beq_false_of_ne h5, beq_false_of_ne h9, beq_false_of_ne h6, beq_false_of_ne h8, beq_false_of_ne h11]
theorem within_pos {x m : Int} (h : withinB x 0 m = true) : decide (x > 0) = !(x == 0) := by
  unfold withinB at h
  simp only [Bool.and_eq_true, decide_eq_true_eq] at h
  apply Bool.eq_iff_iff.2
  simp; omega
end Go.Sim
namespace Go.Sim.XS
set_option linter.unusedSimpArgs false
set_option linter.unusedVariables false
theorem within10_ev (n m : Int) : evFn (env []) H.cooperageref10_within (LPof []) F.cooperageref10_within [.int .i64 n, .int .i64 m] [] (finT [.bool]) = Option.bind (bif decide (n ≥ (0 : Int)) then some (decide (n ≤ m)) else some false) fun v => some (v, ()) := by kernel_rfl

def caseWithin10 : PCase := ⟨[.ty (.int .i64), .ty (.int .i64)], [.bool], fun x => (fun (n m : Int) => [(true, (withinB n 0 m, ()))]) x.1 x.2.1⟩
theorem within10_val (n m : Int) : evFn (env []) H.cooperageref10_within (LPof []) F.cooperageref10_within [.int .i64 n, .int .i64 m] [] (finT [.bool]) = some (withinB n 0 m, ()) := by
  rw [within10_ev]; simp only [and_bif, Option.bind_some, withinB]
theorem within10_ok : caseWithin10.ok P0 I.cooperageref10_within := case_ok2 (H := H.cooperageref10_within) (E := env []) (env_ok env_nil) glob0 mixed0 G.cooperageref10_within Bd.cooperageref10_within (by kernel_rfl) noLoops fun ⟨n, m, ()⟩ y h hw => by
  obtain ⟨hc, rfl⟩ := pick_pre h
  exact within10_val n m
theorem time10_ev (n : Int) : evFn (env []) H.cooperageref10_time (LPof []) F.cooperageref10_time [.int .i64 n] [] (finT [.bool]) = Option.bind (bif decide (n ≥ (-1099511627776 : Int)) then some (decide (n ≤ (1099511627776 : Int))) else some false) fun v => some (v, ()) := by kernel_rfl

def caseTime10 : PCase := ⟨[.ty (.int .i64)], [.bool], fun x => (fun (n : Int) => [(true, (withinB n (-1099511627776) 1099511627776, ()))]) x.1⟩
theorem time10_val (n : Int) : evFn (env []) H.cooperageref10_time (LPof []) F.cooperageref10_time [.int .i64 n] [] (finT [.bool]) = some (withinB n (-1099511627776) 1099511627776, ()) := by
  rw [time10_ev]; simp only [and_bif, Option.bind_some, withinB]
theorem time10_ok : caseTime10.ok P0 I.cooperageref10_time := case_ok2 (H := H.cooperageref10_time) (E := env []) (env_ok env_nil) glob0 mixed0 G.cooperageref10_time Bd.cooperageref10_time (by kernel_rfl) noLoops fun ⟨n, ()⟩ y h hw => by
  obtain ⟨hc, rfl⟩ := pick_pre h
  exact time10_val n
theorem plain_ev (c : cmdT.den) : evFn (env []) H.cooperageref10_plain (LPof []) F.cooperageref10_plain [valOf cmdT c] [] (finT [.bool]) = Option.bind (bif c.fst == (3 : Int) then some true else some (c.fst == (4 : Int))) fun v => Option.bind (bif c.fst == (2 : Int) then some true else bif c.fst == (3 : Int) then some true else bif c.fst == (8 : Int) then some true else some (c.fst == (11 : Int))) fun v_1 => Option.bind (bif c.fst == (5 : Int) then some true else bif c.fst == (8 : Int) then some true else some (c.fst == (9 : Int))) fun v_2 => Option.bind (bif !c.fst == (1 : Int) then bif c.snd.fst != (0 : Int) then some true else bif decide ((↑(List.length c.snd.snd.snd.fst) : Int) > (0 : Int)) then some true else bif !c.fst == (1 : Int) then bif !c.fst == (11 : Int) then bif c.snd.snd.fst != (0 : Int) then some true else bif !v then some !c.snd.snd.snd.snd.fst == [] else some false else bif !v then some !c.snd.snd.snd.snd.fst == [] else some false else bif !v then some !c.snd.snd.snd.snd.fst == [] else some false else bif !c.fst == (1 : Int) then bif !c.fst == (11 : Int) then bif c.snd.snd.fst != (0 : Int) then some true else bif !v then some !c.snd.snd.snd.snd.fst == [] else some false else bif !v then some !c.snd.snd.snd.snd.fst == [] else some false else bif !v then some !c.snd.snd.snd.snd.fst == [] else some false) fun v => bif v then some (false, ()) else Option.bind (bif !v_1 then bif c.snd.snd.snd.snd.snd.fst != (0 : Int) then some true else bif c.fst != (2 : Int) then bif !c.fst == (11 : Int) then bif c.snd.snd.snd.snd.snd.snd.fst != (0 : Int) then some true else bif !v_2 then bif c.snd.snd.snd.snd.snd.snd.snd.fst != (0 : Int) then some true else bif !c.fst == (11 : Int) then some (c.snd.snd.snd.snd.snd.snd.snd.snd.fst != (0 : Int)) else some false else bif !c.fst == (11 : Int) then some (c.snd.snd.snd.snd.snd.snd.snd.snd.fst != (0 : Int)) else some false else bif !v_2 then bif c.snd.snd.snd.snd.snd.snd.snd.fst != (0 : Int) then some true else bif !c.fst == (11 : Int) then some (c.snd.snd.snd.snd.snd.snd.snd.snd.fst != (0 : Int)) else some false else bif !c.fst == (11 : Int) then some (c.snd.snd.snd.snd.snd.snd.snd.snd.fst != (0 : Int)) else some false else bif !v_2 then bif c.snd.snd.snd.snd.snd.snd.snd.fst != (0 : Int) then some true else bif !c.fst == (11 : Int) then some (c.snd.snd.snd.snd.snd.snd.snd.snd.fst != (0 : Int)) else some false else bif !c.fst == (11 : Int) then some (c.snd.snd.snd.snd.snd.snd.snd.snd.fst != (0 : Int)) else some false else bif c.fst != (2 : Int) then bif !c.fst == (11 : Int) then bif c.snd.snd.snd.snd.snd.snd.fst != (0 : Int) then some true else bif !v_2 then bif c.snd.snd.snd.snd.snd.snd.snd.fst != (0 : Int) then some true else bif !c.fst == (11 : Int) then some (c.snd.snd.snd.snd.snd.snd.snd.snd.fst != (0 : Int)) else some false else bif !c.fst == (11 : Int) then some (c.snd.snd.snd.snd.snd.snd.snd.snd.fst != (0 : Int)) else some false else bif !v_2 then bif c.snd.snd.snd.snd.snd.snd.snd.fst != (0 : Int) then some true else bif !c.fst == (11 : Int) then some (c.snd.snd.snd.snd.snd.snd.snd.snd.fst != (0 : Int)) else some false else bif !c.fst == (11 : Int) then some (c.snd.snd.snd.snd.snd.snd.snd.snd.fst != (0 : Int)) else some false else bif !v_2 then bif c.snd.snd.snd.snd.snd.snd.snd.fst != (0 : Int) then some true else bif !c.fst == (11 : Int) then some (c.snd.snd.snd.snd.snd.snd.snd.snd.fst != (0 : Int)) else some false else bif !c.fst == (11 : Int) then some (c.snd.snd.snd.snd.snd.snd.snd.snd.fst != (0 : Int)) else some false) fun v => bif v then some (false, ()) else Option.bind (bif c.fst == (6 : Int) then some true else some (c.snd.snd.snd.snd.snd.snd.snd.snd.snd.fst == (0 : Int) && (c.snd.snd.snd.snd.snd.snd.snd.snd.snd.snd.fst == (0 : Int) && (c.snd.snd.snd.snd.snd.snd.snd.snd.snd.snd.snd.fst == (0 : Int) && (c.snd.snd.snd.snd.snd.snd.snd.snd.snd.snd.snd.snd == (0 : Int) && true))))) fun v => some (v, ()) := by kernel_rfl

def casePlain : PCase := ⟨[.ty cmdT], [.bool], fun x => (fun (c : Cmd) => [(true, (plainC c, ()))]) x.1⟩
theorem plain_val (c : Cmd) : evFn (env []) H.cooperageref10_plain (LPof []) F.cooperageref10_plain [valOf cmdT c] [] (finT [.bool]) = some (plainC c, ()) := by
  rw [plain_ev]; simp only [and_bif, or_bif, nand_bif, nor_bif, ors_bif, ors2_bif, rfu_bif, Option.bind_some]; rfl
theorem plain_ok : casePlain.ok P0 I.cooperageref10_plain := case_ok2 (H := H.cooperageref10_plain) (E := env []) (env_ok env_nil) glob0 mixed0 G.cooperageref10_plain Bd.cooperageref10_plain (by kernel_rfl) noLoops fun ⟨c, ()⟩ y h hw => by
  obtain ⟨hc, rfl⟩ := pick_pre h
  exact plain_val c
theorem right1_ev (r : recT.den) : evFn (env []) H.cooperageref1_Right (LPof []) F.cooperageref1_Right [valOf recT r] [] (finT [.bool]) = Option.bind (bif decide (r.fst ≥ (0 : Int)) then bif decide (r.fst ≤ (1125899906842624 : Int)) then bif decide (r.snd.fst ≥ (-1099511627776 : Int)) then bif decide (r.snd.fst ≤ (1099511627776 : Int)) then bif decide ((↑(List.length r.snd.snd.fst) : Int) ≥ (1 : Int)) then bif decide ((↑(List.length r.snd.snd.fst) : Int) ≤ (200 : Int)) then bif decide ((↑(List.length r.snd.snd.snd.fst) : Int) ≤ (2000 : Int)) then bif !r.snd.snd.snd.snd then some true else some (r.snd.snd.snd.fst == []) else some false else some false else some false else some false else some false else some false else some false) fun v => some (v, ()) := by kernel_rfl

def caseRight1 : PCase := ⟨[.ty recT], [.bool], fun x => (fun (r : Rec) => [(true, (recR r, ()))]) x.1⟩
theorem right1_val (r : Rec) : evFn (env []) H.cooperageref1_Right (LPof []) F.cooperageref1_Right [valOf recT r] [] (finT [.bool]) = some (recR r, ()) := by
  rw [right1_ev]; simp only [and_bif, or_bif, nand_bif, nor_bif, Option.bind_some]; rfl
theorem right1_ok : caseRight1.ok P0 I.cooperageref1_Right := case_ok2 (H := H.cooperageref1_Right) (E := env []) (env_ok env_nil) glob0 mixed0 G.cooperageref1_Right Bd.cooperageref1_Right (by kernel_rfl) noLoops fun ⟨r, ()⟩ y h hw => by
  obtain ⟨hc, rfl⟩ := pick_pre h
  exact right1_val r
theorem recright_ev (r : recT.den) : evFn (env []) H.record_Right (LPof []) F.record_Right [valOf recT r] [] (finT [.bool]) = Option.bind (bif decide (r.fst ≥ (0 : Int)) then bif decide (r.fst ≤ (1125899906842624 : Int)) then bif decide (r.snd.fst ≥ (-1099511627776 : Int)) then bif decide (r.snd.fst ≤ (1099511627776 : Int)) then bif !r.snd.snd.fst == [] then bif decide ((↑(List.length r.snd.snd.fst) : Int) ≤ (200 : Int)) then bif decide ((↑(List.length r.snd.snd.snd.fst) : Int) ≤ (2000 : Int)) then bif r.snd.snd.snd.snd then some !!r.snd.snd.snd.fst == [] else some true else some false else some false else some false else some false else some false else some false else some false) fun v => some (v, ()) := by kernel_rfl

def caseRecright : PCase := ⟨[.ty recT], [.bool], fun x => (fun (r : Rec) => [(true, (recR r, ()))]) x.1⟩
theorem recright_val (r : Rec) : evFn (env []) H.record_Right (LPof []) F.record_Right [valOf recT r] [] (finT [.bool]) = some (recR r, ()) := by
  rw [recright_ev]; simp only [and_bif, or_bif, nand_bif, nor_bif, Option.bind_some, Bool.not_not, recR_key r.2.2.1]; rfl
theorem recright_ok : caseRecright.ok P0 I.record_Right := case_ok2 (H := H.record_Right) (E := env []) (env_ok env_nil) glob0 mixed0 G.record_Right Bd.record_Right (by kernel_rfl) noLoops fun ⟨r, ()⟩ y h hw => by
  obtain ⟨hc, rfl⟩ := pick_pre h
  exact recright_val r
theorem within_ev (n m k : Int) : evFn (env []) H.command_within (LPof []) F.command_within [.int .i64 n, .int .i64 m, .int .i64 k] [] (finT [.bool]) = Option.bind (bif decide (n ≥ m) then some (decide (n ≤ k)) else some false) fun v => some (v, ()) := by kernel_rfl

def caseWithin : PCase := ⟨[.ty (.int .i64), .ty (.int .i64), .ty (.int .i64)], [.bool], fun x => (fun (n a b : Int) => [(true, (withinB n a b, ()))]) x.1 x.2.1 x.2.2.1⟩
theorem within_val (n a b : Int) : evFn (env []) H.command_within (LPof []) F.command_within [.int .i64 n, .int .i64 a, .int .i64 b] [] (finT [.bool]) = some (withinB n a b, ()) := by
  rw [within_ev]; simp only [and_bif, Option.bind_some, withinB]
theorem within_ok : caseWithin.ok P0 I.command_within := case_ok2 (H := H.command_within) (E := env []) (env_ok env_nil) glob0 mixed0 G.command_within Bd.command_within (by kernel_rfl) noLoops fun ⟨n, a, b, ()⟩ y h hw => by
  obtain ⟨hc, rfl⟩ := pick_pre h
  exact within_val n a b
theorem bare_ev (c : cmdT.den) : evFn (env []) H.command_bare (LPof []) F.command_bare [valOf cmdT c] [] (finT [cmdT, .bool]) = Option.bind (bif c.fst == (0 : Int) then some (c.fst == (0 : Int), ()) else bif c.fst == (7 : Int) then some (c.fst == (7 : Int), ()) else some (c.fst == (10 : Int), ())) fun v => bif v.fst then some ((c.fst, (0 : Int), (0 : Int), [], [], (0 : Int), (0 : Int), (0 : Int), (0 : Int), (0 : Int), (0 : Int), (0 : Int), (0 : Int)), true, ()) else bif c.fst == (1 : Int) then some ((c.fst, c.snd.fst, c.snd.snd.fst, c.snd.snd.snd.fst, [], (0 : Int), (0 : Int), (0 : Int), (0 : Int), (0 : Int), (0 : Int), (0 : Int), (0 : Int)), true, ()) else bif c.fst == (2 : Int) then some ((c.fst, (0 : Int), (0 : Int), [], [], c.snd.snd.snd.snd.snd.fst, c.snd.snd.snd.snd.snd.snd.fst, (0 : Int), (0 : Int), (0 : Int), (0 : Int), (0 : Int), (0 : Int)), true, ()) else bif c.fst == (3 : Int) then some ((c.fst, (0 : Int), (0 : Int), [], c.snd.snd.snd.snd.fst, c.snd.snd.snd.snd.snd.fst, (0 : Int), (0 : Int), (0 : Int), (0 : Int), (0 : Int), (0 : Int), (0 : Int)), true, ()) else bif c.fst == (4 : Int) then some ((c.fst, (0 : Int), (0 : Int), [], c.snd.snd.snd.snd.fst, (0 : Int), (0 : Int), (0 : Int), (0 : Int), (0 : Int), (0 : Int), (0 : Int), (0 : Int)), true, ()) else Option.bind (bif c.fst == (5 : Int) then some (c.fst == (5 : Int), ()) else some (c.fst == (9 : Int), ())) fun v => bif v.fst then some ((c.fst, (0 : Int), (0 : Int), [], [], (0 : Int), (0 : Int), c.snd.snd.snd.snd.snd.snd.snd.fst, (0 : Int), (0 : Int), (0 : Int), (0 : Int), (0 : Int)), true, ()) else bif c.fst == (6 : Int) then some ((c.fst, (0 : Int), (0 : Int), [], [], (0 : Int), (0 : Int), (0 : Int), (0 : Int), c.snd.snd.snd.snd.snd.snd.snd.snd.snd), true, ()) else bif c.fst == (8 : Int) then some ((c.fst, (0 : Int), (0 : Int), [], [], c.snd.snd.snd.snd.snd.fst, (0 : Int), c.snd.snd.snd.snd.snd.snd.snd.fst, (0 : Int), (0 : Int), (0 : Int), (0 : Int), (0 : Int)), true, ()) else bif c.fst == (11 : Int) then some ((c.fst, (0 : Int), c.snd.snd.fst, [], [], c.snd.snd.snd.snd.snd.fst, c.snd.snd.snd.snd.snd.snd.fst, (0 : Int), c.snd.snd.snd.snd.snd.snd.snd.snd.fst, (0 : Int), (0 : Int), (0 : Int), (0 : Int)), true, ()) else some ((c.fst, (0 : Int), (0 : Int), [], [], (0 : Int), (0 : Int), (0 : Int), (0 : Int), (0 : Int), (0 : Int), (0 : Int), (0 : Int)), false, ()) := by kernel_rfl

def caseBare : PCase := ⟨[.ty cmdT], [cmdT, .bool], fun x => (fun (c : Cmd) => [(true, ((bareC c).1, (bareC c).2, ()))]) x.1⟩
theorem bare_val (c : Cmd) : evFn (env []) H.command_bare (LPof []) F.command_bare [valOf cmdT c] [] (finT [cmdT, .bool]) = some ((bareC c).1, (bareC c).2, ()) := by
  rw [bare_ev]
  unfold bareC
  have e1 : (bif c.fst == (0 : Int) then some (c.fst == (0 : Int), ()) else bif c.fst == (7 : Int) then some (c.fst == (7 : Int), ()) else some (c.fst == (10 : Int), ())) = some (c.1 == 0 || (c.1 == 7 || c.1 == 10), ()) := by
    cases h0 : c.1 == 0 <;> cases h7 : c.1 == 7 <;> simp [h0, h7]
  have e2 : (bif c.fst == (5 : Int) then some (c.fst == (5 : Int), ()) else some (c.fst == (9 : Int), ())) = some (c.1 == 5 || c.1 == 9, ()) := by
    cases h0 : c.1 == 5 <;> simp [h0]
  rw [e1, e2]
  simp only [Option.bind_some]
  cases c.1 == 0 || (c.1 == 7 || c.1 == 10) with
  | true => rfl
  | false => cases c.1 == 1 with
    | true => rfl
    | false => cases c.1 == 2 with
      | true => rfl
      | false => cases c.1 == 3 with
        | true => rfl
        | false => cases c.1 == 4 with
          | true => rfl
          | false => cases c.1 == 5 || c.1 == 9 with
            | true => rfl
            | false => cases c.1 == 6 with
              | true => rfl
              | false => cases c.1 == 8 with
                | true => rfl
                | false => cases c.1 == 11 <;> rfl
theorem bare_ok : caseBare.ok P0 I.command_bare := case_ok2 (H := H.command_bare) (E := env []) (env_ok env_nil) glob0 mixed0 G.command_bare Bd.command_bare (by kernel_rfl) noLoops fun ⟨c, ()⟩ y h hw => by
  obtain ⟨hc, rfl⟩ := pick_pre h
  exact bare_val c

end Go.Sim.XS
namespace Go.Sim.XS
set_option linter.unusedSimpArgs false
set_option linter.unusedVariables false
noncomputable abbrev consA1 : List (FuncId × Con) := [(I.record_Right, .pure (pureOf [caseRecright]))]
theorem consA1_ok : ∀ x ∈ consA1, HoldsC P0 x.1 x.2 := by
  intro x hx
  simp at hx
  subst hx
  exact ⟨pureOf_holds (by simp; exact recright_ok), C.record_Right⟩
theorem rec1_ev (r : recT.den) : evFn (env consA1) H.command_records_1 (LPof []) F.command_records_1 [valOf recT r] [] (finT [.bool]) = Option.bind (bif r.fst != (0 : Int) then some true else some !recR r) fun v => some (v, ()) := by kernel_rfl

def caseRec1 : PCase := ⟨[.ty recT], [.bool], fun x => (fun (r : Rec) => [(true, ((r.1 != 0 || !recR r), ()))]) x.1⟩
theorem rec1_val (r : Rec) : evFn (env consA1) H.command_records_1 (LPof []) F.command_records_1 [valOf recT r] [] (finT [.bool]) = some ((r.1 != 0 || !recR r), ()) := by
  rw [rec1_ev]; simp only [or_bif, Option.bind_some]
theorem rec1_ok : caseRec1.ok P0 I.command_records_1 := case_ok2 (H := H.command_records_1) (E := env consA1) (env_ok consA1_ok) glob0 mixed0 G.command_records_1 Bd.command_records_1 (by kernel_rfl) noLoops fun ⟨r, ()⟩ y h hw => by
  obtain ⟨hc, rfl⟩ := pick_pre h
  exact rec1_val r
noncomputable abbrev consA2 : List (FuncId × Con) := [(I.command_records_1, .pure (pureOf [caseRec1]))]
theorem consA2_ok : ∀ x ∈ consA2, HoldsC P0 x.1 x.2 := by
  intro x hx
  simp at hx
  subst hx
  exact ⟨pureOf_holds (by simp; exact rec1_ok), C.command_records_1⟩
def difB (a b : List Rec) (i : Nat) : Bool := !(recEqB (a.getD i recTy.zero) (b.getD i recTy.zero))
theorem equal_rd {R : Type} (a b : List Rec) (f : Bool) (n i : Int) (K : Ex → St → Option R) : roundK (env []) H.slices_Equal_api_Record_api_Record 0 (LPof []) V.slices_Equal_api_Record_api_Record_4 L.slices_Equal_api_Record_api_Record_4 ⟨[(0, .vl recT a), (1, .vl recT b), (4, .bool f), (12, .int .i64 n), (13, .int .i64 i)], [], 0⟩ K = bif decide (i < n) then bif decide ((0 : Int) ≤ i) && decide (i < (↑a.length : Int)) then bif decide ((0 : Int) ≤ i) && decide (i < (↑b.length : Int)) then bif !((a.getD i.toNat recTy.zero).fst == (b.getD i.toNat recTy.zero).fst && ((a.getD i.toNat recTy.zero).snd.fst == (b.getD i.toNat recTy.zero).snd.fst && ((a.getD i.toNat recTy.zero).snd.snd.fst == (b.getD i.toNat recTy.zero).snd.snd.fst && ((a.getD i.toNat recTy.zero).snd.snd.snd.fst == (b.getD i.toNat recTy.zero).snd.snd.snd.fst && ((a.getD i.toNat recTy.zero).snd.snd.snd.snd == (b.getD i.toNat recTy.zero).snd.snd.snd.snd && true))))) then K Ex.ret { slots := [(0, AV.vl recTy a), (1, AV.vl recTy b), (4, AV.bool false), (12, AV.int IntKind.i64 n), (13, AV.int IntKind.i64 i)], objs := [], nx := 0 } else K Ex.normal { slots := [(0, AV.vl recTy a), (1, AV.vl recTy b), (4, AV.bool f), (12, AV.int IntKind.i64 n), (13, AV.int IntKind.i64 (IntKind.i64.wrap (i + (1 : Int))))], objs := [], nx := 0 } else none else none else K (Ex.exit 0) { slots := [(0, AV.vl recTy a), (1, AV.vl recTy b), (4, AV.bool f), (12, AV.int IntKind.i64 n), (13, AV.int IntKind.i64 i)], objs := [], nx := 0 } := by kernel_rfl

theorem index1_rd {R : Type} (a : List Rec) (f n i : Int) (K : Ex → St → Option R) : roundK (env consA2) H.slices_IndexFunc_api_Record_api_Record 0 (LPof []) V.slices_IndexFunc_api_Record_api_Record_2 L.slices_IndexFunc_api_Record_api_Record_2 ⟨[(0, .vl recT a), (1, .fn (.func I.command_records_1) [] []), (4, .int .i64 f), (7, .int .i64 n), (8, .int .i64 i)], [], 0⟩ K = bif decide (i < n) then bif decide ((0 : Int) ≤ i) && decide (i < (↑a.length : Int)) then bif (a.getD i.toNat recTy.zero).fst != (0 : Int) || !recR (a.getD i.toNat recTy.zero) then K Ex.ret { slots := [(0, AV.vl recTy a), (1, AV.fn (Fn.func 144) [] []), (4, AV.int IntKind.i64 i), (7, AV.int IntKind.i64 n), (8, AV.int IntKind.i64 i)], objs := [], nx := 0 } else K Ex.normal { slots := [(0, AV.vl recTy a), (1, AV.fn (Fn.func 144) [] []), (4, AV.int IntKind.i64 f), (7, AV.int IntKind.i64 n), (8, AV.int IntKind.i64 (IntKind.i64.wrap (i + (1 : Int))))], objs := [], nx := 0 } else none else K (Ex.exit 0) { slots := [(0, AV.vl recTy a), (1, AV.fn (Fn.func 144) [] []), (4, AV.int IntKind.i64 f), (7, AV.int IntKind.i64 n), (8, AV.int IntKind.i64 i)], objs := [], nx := 0 } := by kernel_rfl

theorem big_rd {R : Type} (c : Cmd) (f : Bool) (i : Int) (K : Ex → St → Option R) : roundK (env []) H.cooperagelaw10_Big 0 (LPof []) V.cooperagelaw10_Big_2 L.cooperagelaw10_Big_2 ⟨[(1, .ptr 0 (.tl 0) 0), (2, .bool f), (3, .int .i64 i)], [(0, .arr 13 .bool [] [enc cmdT c])], 1⟩ K = Option.bind (bif decide (i < (↑(List.length c.snd.snd.snd.fst) : Int)) then some (decide (i < (70 : Int))) else some false) fun v => bif v then Option.bind (bif decide ((0 : Int) ≤ i) && decide (i < (↑(List.length c.snd.snd.snd.fst) : Int)) then bif decide ((↑(List.length (List.getD c.snd.snd.snd.fst i.toNat recTy.zero).snd.snd.fst) : Int) > (250 : Int)) then some true else bif decide ((0 : Int) ≤ i) && decide (i < (↑(List.length c.snd.snd.snd.fst) : Int)) then some (decide ((↑(List.length (List.getD c.snd.snd.snd.fst i.toNat recTy.zero).snd.snd.snd.fst) : Int) > (2100 : Int))) else none else none) fun v => bif v then K Ex.ret { slots := [(1, AV.ptr 0 (Elt.tl 0) 0), (2, AV.bool true), (3, AV.int IntKind.i64 i)], objs := [(0, AObj.arr 13 Ty.bool [] [[AV.int IntKind.i64 c.fst, AV.int IntKind.i64 c.snd.fst, AV.int IntKind.i64 c.snd.snd.fst, AV.vl recTy c.snd.snd.snd.fst, AV.str c.snd.snd.snd.snd.fst, AV.int IntKind.i64 c.snd.snd.snd.snd.snd.fst, AV.int IntKind.i64 c.snd.snd.snd.snd.snd.snd.fst, AV.int IntKind.i64 c.snd.snd.snd.snd.snd.snd.snd.fst, AV.int IntKind.u32 c.snd.snd.snd.snd.snd.snd.snd.snd.fst, AV.int IntKind.i64 c.snd.snd.snd.snd.snd.snd.snd.snd.snd.fst, AV.int IntKind.i64 c.snd.snd.snd.snd.snd.snd.snd.snd.snd.snd.fst, AV.int IntKind.i64 c.snd.snd.snd.snd.snd.snd.snd.snd.snd.snd.snd.fst, AV.int IntKind.i64 c.snd.snd.snd.snd.snd.snd.snd.snd.snd.snd.snd.snd]])], nx := 1 } else K Ex.normal { slots := [(1, AV.ptr 0 (Elt.tl 0) 0), (2, AV.bool f), (3, AV.int IntKind.i64 (IntKind.i64.wrap (i + (1 : Int))))], objs := [(0, AObj.arr 13 Ty.bool [] [[AV.int IntKind.i64 c.fst, AV.int IntKind.i64 c.snd.fst, AV.int IntKind.i64 c.snd.snd.fst, AV.vl recTy c.snd.snd.snd.fst, AV.str c.snd.snd.snd.snd.fst, AV.int IntKind.i64 c.snd.snd.snd.snd.snd.fst, AV.int IntKind.i64 c.snd.snd.snd.snd.snd.snd.fst, AV.int IntKind.i64 c.snd.snd.snd.snd.snd.snd.snd.fst, AV.int IntKind.u32 c.snd.snd.snd.snd.snd.snd.snd.snd.fst, AV.int IntKind.i64 c.snd.snd.snd.snd.snd.snd.snd.snd.snd.fst, AV.int IntKind.i64 c.snd.snd.snd.snd.snd.snd.snd.snd.snd.snd.fst, AV.int IntKind.i64 c.snd.snd.snd.snd.snd.snd.snd.snd.snd.snd.snd.fst, AV.int IntKind.i64 c.snd.snd.snd.snd.snd.snd.snd.snd.snd.snd.snd.snd]])], nx := 1 } else K (Ex.exit 0) { slots := [(1, AV.ptr 0 (Elt.tl 0) 0), (2, AV.bool f), (3, AV.int IntKind.i64 i)], objs := [(0, AObj.arr 13 Ty.bool [] [[AV.int IntKind.i64 c.fst, AV.int IntKind.i64 c.snd.fst, AV.int IntKind.i64 c.snd.snd.fst, AV.vl recTy c.snd.snd.snd.fst, AV.str c.snd.snd.snd.snd.fst, AV.int IntKind.i64 c.snd.snd.snd.snd.snd.fst, AV.int IntKind.i64 c.snd.snd.snd.snd.snd.snd.fst, AV.int IntKind.i64 c.snd.snd.snd.snd.snd.snd.snd.fst, AV.int IntKind.u32 c.snd.snd.snd.snd.snd.snd.snd.snd.fst, AV.int IntKind.i64 c.snd.snd.snd.snd.snd.snd.snd.snd.snd.fst, AV.int IntKind.i64 c.snd.snd.snd.snd.snd.snd.snd.snd.snd.snd.fst, AV.int IntKind.i64 c.snd.snd.snd.snd.snd.snd.snd.snd.snd.snd.snd.fst, AV.int IntKind.i64 c.snd.snd.snd.snd.snd.snd.snd.snd.snd.snd.snd.snd]])], nx := 1 } := by kernel_rfl

def equalSt (a b : List Rec) (f : Bool) (n : Int) (i : Nat) : St := ⟨[(0, .vl recT a), (1, .vl recT b), (4, .bool f), (12, .int .i64 n), (13, .int .i64 i)], [], 0⟩
abbrev equalLC : LoopC := LoopC.of ⟨[(0, .vl recT), (1, .vl recT), (4, .bool), (12, .int .i64), (13, .int .i64)], []⟩ (fun x => decide (List.length x.1.2.1 = List.length x.1.1) && decide (x.1.2.2.2.1 = (List.length x.1.1 : Int)) && decide (x.1.2.2.2.2.1 = (0 : Int)))
    fun x => [((firstFrom (difB x.1.1 x.1.2.1) 0 (List.length x.1.1)).isSome, .ret, equalSt x.1.1 x.1.2.1 false (List.length x.1.1) ((firstFrom (difB x.1.1 x.1.2.1) 0 (List.length x.1.1)).getD 0)), (true, .exit 0, equalSt x.1.1 x.1.2.1 x.1.2.2.1 (List.length x.1.1) (List.length x.1.1))]
theorem equal_lok : LoopOK P0 H.slices_Equal_api_Record_api_Record 0 L.slices_Equal_api_Record_api_Record_4 equalLC :=
  loop_ok_of (env_ok env_nil) glob0 mixed0 noLoops V.slices_Equal_api_Record_api_Record_4 (by decide) fun ⟨⟨a, b, f, n, i, _⟩, _⟩ h hw => by
    simp only [Bool.and_eq_true, decide_eq_true_eq] at h
    obtain ⟨⟨h1, h3⟩, h2⟩ := h
    subst h2; subst h3
    have hm : List.length a ≤ maxL := hw.1.1.1
    unfold maxL at hm
    refine ⟨_, Eq.trans (search_rounds (S := equalSt a b f (List.length a)) (T := equalSt a b false (List.length a)) (p := difB a b) (n := List.length a) (e1 := .ret) (e2 := .exit 0) (s2 := equalSt a b f (List.length a) (List.length a)) (by simp) (by simp) (fun i hi K => ?_) (fun K => ?_) _ (List.length a) 0 (by omega)) search_pick⟩
    · unfold equalSt
      rw [equal_rd, cond_pos (by omega), cond_pos2 (by omega) (by omega), cond_pos2 (by omega) (by omega), Int.toNat_natCast, wrap64 (by omega) (by omega)]
      rfl
    · unfold equalSt
      rw [equal_rd, cond_neg (by omega)]
theorem equal_ev (a b : List Rec) : evFn (env []) H.slices_Equal_api_Record_api_Record (LPof [(4, equalLC)]) F.slices_Equal_api_Record_api_Record [.vl recT a, .vl recT b] [] (finT [.bool]) = bif (↑a.length : Int) != (↑b.length : Int) then some (false, ()) else bif decide (b.length = a.length) && decide ((↑a.length : Int) = (↑a.length : Int)) && true && (firstFrom (difB a b) 0 a.length).isSome then some (false, ()) else bif decide (b.length = a.length) && decide ((↑a.length : Int) = (↑a.length : Int)) && true && true then some (true, ()) else none := by kernel_rfl

def idx1St (a : List Rec) (f n : Int) (i : Nat) : St := ⟨[(0, .vl recT a), (1, .fn (.func I.command_records_1) [] []), (4, .int .i64 f), (7, .int .i64 n), (8, .int .i64 i)], [], 0⟩
abbrev idx1LC : LoopC := LoopC.of ⟨[(0, .vl recT), (1, .fn I.command_records_1 []), (4, .int .i64), (7, .int .i64), (8, .int .i64)], []⟩ (fun x => decide (x.1.2.2.2.1 = (List.length x.1.1 : Int)) && decide (x.1.2.2.2.2.1 = (0 : Int)))
    fun x => [((firstFrom (atR badR1 x.1.1) 0 (List.length x.1.1)).isSome, .ret, idx1St x.1.1 ((firstFrom (atR badR1 x.1.1) 0 (List.length x.1.1)).getD 0 : Nat) (List.length x.1.1) ((firstFrom (atR badR1 x.1.1) 0 (List.length x.1.1)).getD 0)), (true, .exit 0, idx1St x.1.1 x.1.2.2.1 (List.length x.1.1) (List.length x.1.1))]
theorem idx1_lok : LoopOK P0 H.slices_IndexFunc_api_Record_api_Record 0 L.slices_IndexFunc_api_Record_api_Record_2 idx1LC :=
  loop_ok_of (env_ok consA2_ok) glob0 mixed0 noLoops V.slices_IndexFunc_api_Record_api_Record_2 (by decide) fun ⟨⟨a, _, f, n, i, _⟩, _⟩ h hw => by
    simp only [Bool.and_eq_true, decide_eq_true_eq] at h
    obtain ⟨h3, h2⟩ := h
    subst h2; subst h3
    have hm : List.length a ≤ maxL := hw.1.1.1
    unfold maxL at hm
    refine ⟨_, Eq.trans (search_rounds (S := idx1St a f (List.length a)) (T := fun i => idx1St a i (List.length a) i) (p := atR badR1 a) (n := List.length a) (e1 := .ret) (e2 := .exit 0) (s2 := idx1St a f (List.length a) (List.length a)) (by simp) (by simp) (fun i hi K => ?_) (fun K => ?_) _ (List.length a) 0 (by omega)) search_pick⟩
    · unfold idx1St
      rw [index1_rd, cond_pos (by omega), cond_pos2 (by omega) (by omega), Int.toNat_natCast, wrap64 (by omega) (by omega)]
      rfl
    · unfold idx1St
      rw [index1_rd, cond_neg (by omega)]
theorem idx1_ev (a : List Rec) : evFn (env consA2) H.slices_IndexFunc_api_Record_api_Record (LPof [(2, idx1LC)]) F.slices_IndexFunc_api_Record_api_Record [.vl recT a, .fn (.func I.command_records_1) [] []] [] (finT [.int .i64]) = bif decide ((↑a.length : Int) = (↑a.length : Int)) && true && (firstFrom (atR badR1 a) 0 a.length).isSome then some ((↑((firstFrom (atR badR1 a) 0 a.length).getD 0) : Int), ()) else bif decide ((↑a.length : Int) = (↑a.length : Int)) && true && true then some ((-1 : Int), ()) else none := by kernel_rfl

abbrev cmdP : List Pat := [.int .i64, .int .i64, .int .i64, .vl recT, .str, .int .i64, .int .i64, .int .i64, .int .u32, .int .i64, .int .i64, .int .i64, .int .i64]
def bigSt (y : patsDen cmdP) (f : Bool) (i : Nat) : St := ⟨[(1, .ptr 0 (.tl 0) 0), (2, .bool f), (3, .int .i64 i)], [(0, .arr 13 .bool [] [patsMk cmdP y])], 1⟩
abbrev bigLC : LoopC := LoopC.of ⟨[(1, .lit (.ptr 0 (.tl 0) 0)), (2, .bool), (3, .int .i64)], [.box 13 [cmdP]]⟩ (fun x => decide (x.1.2.2.1 = (0 : Int)))
    fun x => [((firstFrom (atR bigQ x.2.1.1.2.2.2.1) 0 (min (List.length x.2.1.1.2.2.2.1) 70)).isSome, .ret, bigSt x.2.1.1 true ((firstFrom (atR bigQ x.2.1.1.2.2.2.1) 0 (min (List.length x.2.1.1.2.2.2.1) 70)).getD 0)),
      (true, .exit 0, bigSt x.2.1.1 x.1.2.1 (min (List.length x.2.1.1.2.2.2.1) 70))]
theorem big_lok : LoopOK P0 H.cooperagelaw10_Big 0 L.cooperagelaw10_Big_2 bigLC :=
  loop_ok_of (env_ok env_nil) glob0 mixed0 noLoops V.cooperagelaw10_Big_2 (by decide) fun ⟨⟨_, f, i, _⟩, ⟨⟨k, p, s, r, g, o, m, n, u, c1, c2, c3, c4, _⟩, _⟩, _⟩ h hw => by
    obtain rfl := of_decide_eq_true h
    have hm : List.length r ≤ maxL := hw.2.1.1.2.2.2.1.1
    unfold maxL at hm
    have hmin : min (List.length r) 70 ≤ List.length r ∧ min (List.length r) 70 ≤ 70 := ⟨Nat.min_le_left _ _, Nat.min_le_right _ _⟩
    have rd := fun (f : Bool) (i : Int) (K : Ex → St → Option (Ex × St)) => big_rd (k, p, s, r, g, o, m, n, u, c1, c2, c3, c4) f i K
    refine ⟨_, Eq.trans (search_rounds (S := bigSt (k, p, s, r, g, o, m, n, u, c1, c2, c3, c4, ()) f) (T := bigSt (k, p, s, r, g, o, m, n, u, c1, c2, c3, c4, ()) true) (p := atR bigQ r) (n := min (List.length r) 70) (e1 := .ret) (e2 := .exit 0) (s2 := bigSt (k, p, s, r, g, o, m, n, u, c1, c2, c3, c4, ()) f (min (List.length r) 70)) (by simp) (by simp) (fun i hi K => ?_) (fun K => ?_) _ (min (List.length r) 70) 0 (by omega)) search_pick⟩
    · refine (rd f i K).trans ?_
      simp only
      rw [cond_pos (by omega), decide_eq_true (show (i : Int) < 70 by omega)]
      simp only [Option.bind_some, cond_true]
      rw [cond_pos2 (by omega) (by omega), cond_pos2 (by omega) (by omega), or_bif, Int.toNat_natCast, wrap64 (by omega) (by omega)]
      rfl
    · refine (rd f _ K).trans ?_
      rw [and_bif]
      have : (decide (((min (List.length r) 70 : Nat) : Int) < (List.length r : Int)) && decide (((min (List.length r) 70 : Nat) : Int) < 70)) = false := by simp; omega
      rw [this]
      rfl
theorem big_ev (c : Cmd) : evFn (env []) H.cooperagelaw10_Big (LPof [(2, bigLC)]) F.cooperagelaw10_Big [valOf cmdT c] [] (finT [.bool]) = bif (firstFrom (atR bigQ c.snd.snd.snd.fst) 0 (min (List.length c.snd.snd.snd.fst) 70)).isSome then some (true, ()) else Option.bind (bif decide ((↑(List.length c.snd.snd.snd.fst) : Int) > (60 : Int)) then some true else some (decide ((↑(List.length c.snd.snd.snd.snd.fst) : Int) > (300 : Int)))) fun v => some (v, ()) := by kernel_rfl
def caseEqual : PCase := ⟨[.ty (.sl recT), .ty (.sl recT)], [.bool], fun x => (fun (a b : List Rec) => [(true, (decide (a = b), ()))]) x.1 x.2.1⟩
theorem equal_val (a b : List Rec) : evFn (env []) H.slices_Equal_api_Record_api_Record (LPof [(4, equalLC)]) F.slices_Equal_api_Record_api_Record [.vl recT a, .vl recT b] [] (finT [.bool]) = some (decide (a = b), ()) := by
  rw [equal_ev]
  by_cases h : b.length = a.length
  · have h1 : ((a.length : Int) != (b.length : Int)) = false := by simp; omega
    have := firstFrom_eq recEqB_eq recTy.zero h
    unfold difB
    rw [h1, this, decide_eq_true h]
    cases decide (a = b) <;> simp
  · have h1 : ((a.length : Int) != (b.length : Int)) = true := by simp; omega
    have h2 : a ≠ b := fun e => h (by rw [e])
    rw [h1, decide_eq_false h2]; rfl
theorem equal_ok : caseEqual.ok P0 I.slices_Equal_api_Record_api_Record := case_ok2 (H := H.slices_Equal_api_Record_api_Record) (E := env []) (env_ok env_nil) glob0 mixed0 G.slices_Equal_api_Record_api_Record Bd.slices_Equal_api_Record_api_Record (by kernel_rfl) (loops_good (tab := [(4, equalLC)]) (by kernel_rfl) (fun x hx => by simp at hx; subst hx; exact equal_lok)) fun ⟨a, b, ()⟩ y h hw => by
  obtain ⟨hc, rfl⟩ := pick_pre h
  exact equal_val a b
def caseIdx1 : PCase := ⟨[.ty (.sl recT), .fn I.command_records_1 []], [.int .i64], fun x => (fun (a : List Rec) (u : Unit) => [(true, ((((firstFrom (atR badR1 a) 0 (List.length a)).map fun j => (j : Int)).getD (-1)), ()))]) x.1 x.2.1⟩
theorem idx1_val (a : List Rec) (u : Unit) : evFn (env consA2) H.slices_IndexFunc_api_Record_api_Record (LPof [(2, idx1LC)]) F.slices_IndexFunc_api_Record_api_Record [.vl recT a, .fn (.func I.command_records_1) [] []] [] (finT [.int .i64]) = some ((((firstFrom (atR badR1 a) 0 (List.length a)).map fun j => (j : Int)).getD (-1)), ()) := by
  rw [idx1_ev]
  cases firstFrom (atR badR1 a) 0 a.length <;> simp
theorem idx1_ok : caseIdx1.ok P0 I.slices_IndexFunc_api_Record_api_Record := case_ok2 (H := H.slices_IndexFunc_api_Record_api_Record) (E := env consA2) (env_ok consA2_ok) glob0 mixed0 G.slices_IndexFunc_api_Record_api_Record Bd.slices_IndexFunc_api_Record_api_Record (by kernel_rfl) (loops_good (tab := [(2, idx1LC)]) (by kernel_rfl) (fun x hx => by simp at hx; subst hx; exact idx1_lok)) fun ⟨a, u, ()⟩ y h hw => by
  obtain ⟨hc, rfl⟩ := pick_pre h
  exact idx1_val a u
noncomputable abbrev consA3 : List (FuncId × Con) := [(I.slices_IndexFunc_api_Record_api_Record, .pure (pureOf [caseIdx1]))]
theorem consA3_ok : ∀ x ∈ consA3, HoldsC P0 x.1 x.2 := by
  intro x hx
  simp at hx
  subst hx
  exact ⟨pureOf_holds (by simp; exact idx1_ok), C.slices_IndexFunc_api_Record_api_Record⟩
theorem has1_ev (a : List Rec) : evFn (env consA3) H.slices_ContainsFunc_api_Record_api_Record (LPof []) F.slices_ContainsFunc_api_Record_api_Record [.vl recT a, .fn (.func I.command_records_1) [] []] [] (finT [.bool]) =
  some
    (decide
        ((Option.map (fun j => j) do
                let a ← firstFrom (atR badR1 a) 0 a.length
                pure (↑a : Int)).getD
            (-1 : Int) ≥
          (0 : Int)),
      ()) := by kernel_rfl

theorem idx_any (q : Rec → Bool) (a : List Rec) : decide ((((firstFrom (atR q a) 0 (List.length a)).map fun j => (j : Int)).getD (-1)) ≥ 0) = a.any q := by
  rw [← firstFrom_any0 (q := q) (d := recTy.zero) a]
  show _ = (firstFrom (atR q a) 0 a.length).isSome
  cases firstFrom (atR q a) 0 a.length with
  | none => rfl
  | some j => simp
def caseHas1 : PCase := ⟨[.ty (.sl recT), .fn I.command_records_1 []], [.bool], fun x => (fun (a : List Rec) (u : Unit) => [(true, (a.any badR1, ()))]) x.1 x.2.1⟩
theorem has1_val (a : List Rec) (u : Unit) : evFn (env consA3) H.slices_ContainsFunc_api_Record_api_Record (LPof []) F.slices_ContainsFunc_api_Record_api_Record [.vl recT a, .fn (.func I.command_records_1) [] []] [] (finT [.bool]) = some (a.any badR1, ()) := by
  rw [has1_ev, idx_any]
theorem has1_ok : caseHas1.ok P0 I.slices_ContainsFunc_api_Record_api_Record := case_ok2 (H := H.slices_ContainsFunc_api_Record_api_Record) (E := env consA3) (env_ok consA3_ok) glob0 mixed0 G.slices_ContainsFunc_api_Record_api_Record Bd.slices_ContainsFunc_api_Record_api_Record (by kernel_rfl) noLoops fun ⟨a, u, ()⟩ y h hw => by
  obtain ⟨hc, rfl⟩ := pick_pre h
  exact has1_val a u
def caseBig : PCase := ⟨[.ty cmdT], [.bool], fun x => (fun (c : Cmd) => [(true, (bigC c, ()))]) x.1⟩
theorem big_val (c : Cmd) : evFn (env []) H.cooperagelaw10_Big (LPof [(2, bigLC)]) F.cooperagelaw10_Big [valOf cmdT c] [] (finT [.bool]) = some (bigC c, ()) := by
  rw [big_ev]; simp only [or_bif, Option.bind_some, rtu_bif]; rfl
theorem big_ok : caseBig.ok P0 I.cooperagelaw10_Big := case_ok2 (H := H.cooperagelaw10_Big) (E := env []) (env_ok env_nil) glob0 mixed0 G.cooperagelaw10_Big Bd.cooperagelaw10_Big (by kernel_rfl) (loops_good (tab := [(2, bigLC)]) (by kernel_rfl) (fun x hx => by simp at hx; subst hx; exact big_lok)) fun ⟨c, ()⟩ y h hw => by
  obtain ⟨hc, rfl⟩ := pick_pre h
  exact big_val c

end Go.Sim.XS
namespace Go.Sim.XS
set_option linter.unusedSimpArgs false
set_option linter.unusedVariables false
noncomputable abbrev consB1 : List (FuncId × Con) := [(I.command_within, .pure (pureOf [caseWithin])), (I.slices_ContainsFunc_api_Record_api_Record, .pure (pureOf [caseHas1])), (I.slices_Equal_api_Record_api_Record, .pure (pureOf [caseEqual]))]
theorem consB1_ok : ∀ x ∈ consB1, HoldsC P0 x.1 x.2 := by
  intro x hx
  simp at hx
  rcases hx with rfl | rfl | rfl
  · exact ⟨pureOf_holds (by simp; exact within_ok), C.command_within⟩
  · exact ⟨pureOf_holds (by simp; exact has1_ok), C.slices_ContainsFunc_api_Record_api_Record⟩
  · exact ⟨pureOf_holds (by simp; exact equal_ok), C.slices_Equal_api_Record_api_Record⟩
theorem records_ev (a : List Rec) : evFn (env consB1) H.command_records (LPof []) F.command_records [.vl recT a] [] (finT [.bool]) = Option.bind (bif withinB (↑a.length : Int) (1 : Int) (50 : Int) then some !a.any badR1 else some false) fun v => some (v, ()) := by kernel_rfl

theorem conf_ev (c : confT.den) : evFn (env consB1) H.command_conf (LPof []) F.command_conf [valOf confT c] [] (finT [.bool]) = Option.bind (bif withinB c.fst (1 : Int) (1000 : Int) then bif withinB c.snd.fst (0 : Int) (1099511627776 : Int) then bif withinB c.snd.snd.fst (0 : Int) (1099511627776 : Int) then some (withinB c.snd.snd.snd (0 : Int) (1099511627776 : Int)) else some false else some false else some false) fun v => some (v, ()) := by kernel_rfl

theorem csame_ev (a b : Cmd) : evFn (env consB1) H.command_Same (LPof []) F.command_Same [valOf cmdT a, valOf cmdT b] [] (finT [.bool]) = Option.bind (bif a.fst == b.fst then bif a.snd.fst == b.snd.fst then bif a.snd.snd.fst == b.snd.snd.fst then bif a.snd.snd.snd.snd.fst == b.snd.snd.snd.snd.fst then bif a.snd.snd.snd.snd.snd.fst == b.snd.snd.snd.snd.snd.fst then bif a.snd.snd.snd.snd.snd.snd.fst == b.snd.snd.snd.snd.snd.snd.fst then bif a.snd.snd.snd.snd.snd.snd.snd.fst == b.snd.snd.snd.snd.snd.snd.snd.fst then bif a.snd.snd.snd.snd.snd.snd.snd.snd.fst == b.snd.snd.snd.snd.snd.snd.snd.snd.fst then bif a.snd.snd.snd.snd.snd.snd.snd.snd.snd.fst == b.snd.snd.snd.snd.snd.snd.snd.snd.snd.fst && (a.snd.snd.snd.snd.snd.snd.snd.snd.snd.snd.fst == b.snd.snd.snd.snd.snd.snd.snd.snd.snd.snd.fst && (a.snd.snd.snd.snd.snd.snd.snd.snd.snd.snd.snd.fst == b.snd.snd.snd.snd.snd.snd.snd.snd.snd.snd.snd.fst && (a.snd.snd.snd.snd.snd.snd.snd.snd.snd.snd.snd.snd == b.snd.snd.snd.snd.snd.snd.snd.snd.snd.snd.snd.snd && true))) then some (decide (a.snd.snd.snd.fst = b.snd.snd.snd.fst)) else some false else some false else some false else some false else some false else some false else some false else some false else some false) fun v => some (v, ()) := by kernel_rfl

noncomputable abbrev consB2 : List (FuncId × Con) := [(I.cooperageref10_within, .pure (pureOf [caseWithin10])), (I.cooperageref10_time, .pure (pureOf [caseTime10])), (I.cooperageref10_plain, .pure (pureOf [casePlain])), (I.cooperageref1_Right, .pure (pureOf [caseRight1])), (I.cooperageref1_Valid, .pure (pureOf [caseRValid]))]
theorem consB2_ok : ∀ x ∈ consB2, HoldsC P0 x.1 x.2 := by
  intro x hx
  simp at hx
  rcases hx with rfl | rfl | rfl | rfl | rfl
  · exact ⟨pureOf_holds (by simp; exact within10_ok), C.cooperageref10_within⟩
  · exact ⟨pureOf_holds (by simp; exact time10_ok), C.cooperageref10_time⟩
  · exact ⟨pureOf_holds (by simp; exact plain_ok), C.cooperageref10_plain⟩
  · exact ⟨pureOf_holds (by simp; exact right1_ok), C.cooperageref1_Right⟩
  · exact ⟨pureOf_holds (by simp; exact rvalid_ok), C.cooperageref1_Valid⟩
theorem rright_rd {R : Type} (c : Cmd) (f : Bool) (i : Int) (K : Ex → St → Option R) : roundK (env consB2) H.cooperageref10_Right 0 (LPof []) V.cooperageref10_Right_12 L.cooperageref10_Right_12 ⟨[(1, .ptr 0 (.tl 0) 0), (2, .bool f), (3, .int .i64 i)], [(0, .arr 13 .bool [] [enc cmdT c])], 1⟩ K = bif decide (i < (↑(List.length c.snd.snd.snd.fst) : Int)) then Option.bind (bif decide ((0 : Int) ≤ i) && decide (i < (↑(List.length c.snd.snd.snd.fst) : Int)) then bif (List.getD c.snd.snd.snd.fst i.toNat recTy.zero).fst != (0 : Int) then some true else bif decide ((0 : Int) ≤ i) && decide (i < (↑(List.length c.snd.snd.snd.fst) : Int)) then some !recR (List.getD c.snd.snd.snd.fst i.toNat recTy.zero) else none else none) fun v => bif v then K Ex.ret { slots := [(1, AV.ptr 0 (Elt.tl 0) 0), (2, AV.bool false), (3, AV.int IntKind.i64 i)], objs := [(0, AObj.arr 13 Ty.bool [] [[AV.int IntKind.i64 c.fst, AV.int IntKind.i64 c.snd.fst, AV.int IntKind.i64 c.snd.snd.fst, AV.vl recTy c.snd.snd.snd.fst, AV.str c.snd.snd.snd.snd.fst, AV.int IntKind.i64 c.snd.snd.snd.snd.snd.fst, AV.int IntKind.i64 c.snd.snd.snd.snd.snd.snd.fst, AV.int IntKind.i64 c.snd.snd.snd.snd.snd.snd.snd.fst, AV.int IntKind.u32 c.snd.snd.snd.snd.snd.snd.snd.snd.fst, AV.int IntKind.i64 c.snd.snd.snd.snd.snd.snd.snd.snd.snd.fst, AV.int IntKind.i64 c.snd.snd.snd.snd.snd.snd.snd.snd.snd.snd.fst, AV.int IntKind.i64 c.snd.snd.snd.snd.snd.snd.snd.snd.snd.snd.snd.fst, AV.int IntKind.i64 c.snd.snd.snd.snd.snd.snd.snd.snd.snd.snd.snd.snd]])], nx := 1 } else K Ex.normal { slots := [(1, AV.ptr 0 (Elt.tl 0) 0), (2, AV.bool f), (3, AV.int IntKind.i64 (IntKind.i64.wrap (i + (1 : Int))))], objs := [(0, AObj.arr 13 Ty.bool [] [[AV.int IntKind.i64 c.fst, AV.int IntKind.i64 c.snd.fst, AV.int IntKind.i64 c.snd.snd.fst, AV.vl recTy c.snd.snd.snd.fst, AV.str c.snd.snd.snd.snd.fst, AV.int IntKind.i64 c.snd.snd.snd.snd.snd.fst, AV.int IntKind.i64 c.snd.snd.snd.snd.snd.snd.fst, AV.int IntKind.i64 c.snd.snd.snd.snd.snd.snd.snd.fst, AV.int IntKind.u32 c.snd.snd.snd.snd.snd.snd.snd.snd.fst, AV.int IntKind.i64 c.snd.snd.snd.snd.snd.snd.snd.snd.snd.fst, AV.int IntKind.i64 c.snd.snd.snd.snd.snd.snd.snd.snd.snd.snd.fst, AV.int IntKind.i64 c.snd.snd.snd.snd.snd.snd.snd.snd.snd.snd.snd.fst, AV.int IntKind.i64 c.snd.snd.snd.snd.snd.snd.snd.snd.snd.snd.snd.snd]])], nx := 1 } else K (Ex.exit 1) { slots := [(1, AV.ptr 0 (Elt.tl 0) 0), (2, AV.bool f), (3, AV.int IntKind.i64 i)], objs := [(0, AObj.arr 13 Ty.bool [] [[AV.int IntKind.i64 c.fst, AV.int IntKind.i64 c.snd.fst, AV.int IntKind.i64 c.snd.snd.fst, AV.vl recTy c.snd.snd.snd.fst, AV.str c.snd.snd.snd.snd.fst, AV.int IntKind.i64 c.snd.snd.snd.snd.snd.fst, AV.int IntKind.i64 c.snd.snd.snd.snd.snd.snd.fst, AV.int IntKind.i64 c.snd.snd.snd.snd.snd.snd.snd.fst, AV.int IntKind.u32 c.snd.snd.snd.snd.snd.snd.snd.snd.fst, AV.int IntKind.i64 c.snd.snd.snd.snd.snd.snd.snd.snd.snd.fst, AV.int IntKind.i64 c.snd.snd.snd.snd.snd.snd.snd.snd.snd.snd.fst, AV.int IntKind.i64 c.snd.snd.snd.snd.snd.snd.snd.snd.snd.snd.snd.fst, AV.int IntKind.i64 c.snd.snd.snd.snd.snd.snd.snd.snd.snd.snd.snd.snd]])], nx := 1 } := by kernel_rfl
def caseRecords : PCase := ⟨[.ty (.sl recT)], [.bool], fun x => (fun (a : List Rec) => [(true, (recsB a, ()))]) x.1⟩
theorem records_val (a : List Rec) : evFn (env consB1) H.command_records (LPof []) F.command_records [.vl recT a] [] (finT [.bool]) = some (recsB a, ()) := by
  rw [records_ev]; simp only [and_bif, Option.bind_some]; rfl
theorem records_ok : caseRecords.ok P0 I.command_records := case_ok2 (H := H.command_records) (E := env consB1) (env_ok consB1_ok) glob0 mixed0 G.command_records Bd.command_records (by kernel_rfl) noLoops fun ⟨a, ()⟩ y h hw => by
  obtain ⟨hc, rfl⟩ := pick_pre h
  exact records_val a
def caseConf : PCase := ⟨[.ty confT], [.bool], fun x => (fun (c : Cnf) => [(true, (confB c, ()))]) x.1⟩
theorem conf_val (c : Cnf) : evFn (env consB1) H.command_conf (LPof []) F.command_conf [valOf confT c] [] (finT [.bool]) = some (confB c, ()) := by
  rw [conf_ev]; simp only [and_bif, Option.bind_some]; rfl
theorem conf_ok : caseConf.ok P0 I.command_conf := case_ok2 (H := H.command_conf) (E := env consB1) (env_ok consB1_ok) glob0 mixed0 G.command_conf Bd.command_conf (by kernel_rfl) noLoops fun ⟨c, ()⟩ y h hw => by
  obtain ⟨hc, rfl⟩ := pick_pre h
  exact conf_val c
def caseCsame : PCase := ⟨[.ty cmdT, .ty cmdT], [.bool], fun x => (fun (a b : Cmd) => [(true, (decide (a = b), ()))]) x.1 x.2.1⟩
theorem csame_val (a b : Cmd) : evFn (env consB1) H.command_Same (LPof []) F.command_Same [valOf cmdT a, valOf cmdT b] [] (finT [.bool]) = some (decide (a = b), ()) := by
  rw [csame_ev]; simp only [and_bif, Option.bind_some]; rw [cmd_eq]
theorem csame_ok : caseCsame.ok P0 I.command_Same := case_ok2 (H := H.command_Same) (E := env consB1) (env_ok consB1_ok) glob0 mixed0 G.command_Same Bd.command_Same (by kernel_rfl) noLoops fun ⟨a, b, ()⟩ y h hw => by
  obtain ⟨hc, rfl⟩ := pick_pre h
  exact csame_val a b
noncomputable abbrev consB3 : List (FuncId × Con) := [(I.command_bare, .pure (pureOf [caseBare])), (I.command_within, .pure (pureOf [caseWithin])), (I.command_records, .pure (pureOf [caseRecords])), (I.command_conf, .pure (pureOf [caseConf])), (I.command_Same, .pure (pureOf [caseCsame])), (I.names_Valid, .pure (pureOf [caseValid]))]
theorem consB3_ok : ∀ x ∈ consB3, HoldsC P0 x.1 x.2 := by
  intro x hx
  simp at hx
  rcases hx with rfl | rfl | rfl | rfl | rfl | rfl
  · exact ⟨pureOf_holds (by simp; exact bare_ok), C.command_bare⟩
  · exact ⟨pureOf_holds (by simp; exact within_ok), C.command_within⟩
  · exact ⟨pureOf_holds (by simp; exact records_ok), C.command_records⟩
  · exact ⟨pureOf_holds (by simp; exact conf_ok), C.command_conf⟩
  · exact ⟨pureOf_holds (by simp; exact csame_ok), C.command_Same⟩
  · exact ⟨pureOf_holds (by simp; exact valid_ok), C.names_Valid⟩
theorem cright_ev (c : Cmd) : evFn (env consB3) H.command_Right (LPof []) F.command_Right [valOf cmdT c] [] (finT [.bool]) = Option.bind (bif !(bareC c).snd then some true else some !decide ((bareC c).fst = c)) fun v => bif v then some (false, ()) else bif c.fst == (1 : Int) then Option.bind (bif withinB c.snd.fst (0 : Int) (1099511627776 : Int) then bif withinB c.snd.snd.fst (0 : Int) (1099511627776 : Int) then bif decide (c.snd.fst > (0 : Int)) then some (recsB c.snd.snd.snd.fst) else bif c.snd.snd.fst == (0 : Int) then some (recsB c.snd.snd.snd.fst) else some false else some false else some false) fun v => some (v, ()) else bif c.fst == (2 : Int) then Option.bind (bif withinB c.snd.snd.snd.snd.snd.fst (0 : Int) (1125899906842624 : Int) then some (withinB c.snd.snd.snd.snd.snd.snd.fst (1 : Int) (100 : Int)) else some false) fun v => some (v, ()) else bif c.fst == (3 : Int) then Option.bind (bif withinB c.snd.snd.snd.snd.snd.fst (0 : Int) (1125899906842624 : Int) then some (validL c.snd.snd.snd.snd.fst) else some false) fun v => some (v, ()) else bif c.fst == (4 : Int) then some (validL c.snd.snd.snd.snd.fst, ()) else bif c.fst == (6 : Int) then some (confB c.snd.snd.snd.snd.snd.snd.snd.snd.snd, ()) else bif c.fst == (11 : Int) then Option.bind (bif withinB c.snd.snd.snd.snd.snd.fst (0 : Int) (1125899906842624 : Int) then bif withinB c.snd.snd.fst (0 : Int) (1099511627776 : Int) then some (withinB c.snd.snd.snd.snd.snd.snd.fst (0 : Int) (1099511627776 : Int)) else some false else some false) fun v => some (v, ()) else Option.bind (bif withinB c.snd.snd.snd.snd.snd.snd.snd.fst (-1099511627776 : Int) (1099511627776 : Int) then some (withinB c.snd.snd.snd.snd.snd.fst (0 : Int) (1125899906842624 : Int)) else some false) fun v => some (v, ()) := by kernel_rfl

def rrSt (y : patsDen cmdP) (f : Bool) (i : Nat) : St := ⟨[(1, .ptr 0 (.tl 0) 0), (2, .bool f), (3, .int .i64 i)], [(0, .arr 13 .bool [] [patsMk cmdP y])], 1⟩
abbrev rrLC : LoopC := LoopC.of ⟨[(1, .lit (.ptr 0 (.tl 0) 0)), (2, .bool), (3, .int .i64)], [.box 13 [cmdP]]⟩ (fun x => decide (x.1.2.2.1 = (0 : Int)))
    fun x => [((firstFrom (atR badR1 x.2.1.1.2.2.2.1) 0 (List.length x.2.1.1.2.2.2.1)).isSome, .ret, rrSt x.2.1.1 false ((firstFrom (atR badR1 x.2.1.1.2.2.2.1) 0 (List.length x.2.1.1.2.2.2.1)).getD 0)),
      (true, .exit 1, rrSt x.2.1.1 x.1.2.1 (List.length x.2.1.1.2.2.2.1))]
theorem rr_lok : LoopOK P0 H.cooperageref10_Right 0 L.cooperageref10_Right_12 rrLC :=
  loop_ok_of (env_ok consB2_ok) glob0 mixed0 noLoops V.cooperageref10_Right_12 (by decide) fun ⟨⟨_, f, i, _⟩, ⟨⟨k, p, s, r, g, o, m, n, u, c1, c2, c3, c4, _⟩, _⟩, _⟩ h hw => by
    obtain rfl := of_decide_eq_true h
    have hm : List.length r ≤ maxL := hw.2.1.1.2.2.2.1.1
    unfold maxL at hm
    have rd := fun (f : Bool) (i : Int) (K : Ex → St → Option (Ex × St)) => rright_rd (k, p, s, r, g, o, m, n, u, c1, c2, c3, c4) f i K
    refine ⟨_, Eq.trans (search_rounds (S := rrSt (k, p, s, r, g, o, m, n, u, c1, c2, c3, c4, ()) f) (T := rrSt (k, p, s, r, g, o, m, n, u, c1, c2, c3, c4, ()) false) (p := atR badR1 r) (n := List.length r) (e1 := .ret) (e2 := .exit 1) (s2 := rrSt (k, p, s, r, g, o, m, n, u, c1, c2, c3, c4, ()) f (List.length r)) (by simp) (by simp) (fun i hi K => ?_) (fun K => ?_) _ (List.length r) 0 (by omega)) search_pick⟩
    · refine (rd f i K).trans ?_
      simp only
      rw [cond_pos (by omega), cond_pos2 (by omega) (by omega), cond_pos2 (by omega) (by omega), or_bif, Int.toNat_natCast, wrap64 (by omega) (by omega)]
      rfl
    · refine (rd f _ K).trans ?_
      rw [cond_neg (by simp)]
      rfl
theorem rright_ev (c : Cmd) : evFn (env consB2) H.cooperageref10_Right (LPof [(12, rrLC)]) F.cooperageref10_Right [valOf cmdT c] [] (finT [.bool]) = bif !plainC c then some (false, ()) else Option.bind (bif c.fst == (0 : Int) then some (c.fst == (0 : Int), ()) else bif c.fst == (7 : Int) then some (c.fst == (7 : Int), ()) else some (c.fst == (10 : Int), ())) fun v => bif v.fst then some (true, ()) else bif c.fst == (1 : Int) then Option.bind (bif !withinB c.snd.fst (0 : Int) (1099511627776 : Int) then some true else bif !withinB c.snd.snd.fst (0 : Int) (1099511627776 : Int) then some true else bif c.snd.fst == (0 : Int) then bif c.snd.snd.fst != (0 : Int) then some true else bif decide ((↑(List.length c.snd.snd.snd.fst) : Int) < (1 : Int)) then some true else some (decide ((↑(List.length c.snd.snd.snd.fst) : Int) > (50 : Int))) else bif decide ((↑(List.length c.snd.snd.snd.fst) : Int) < (1 : Int)) then some true else some (decide ((↑(List.length c.snd.snd.snd.fst) : Int) > (50 : Int)))) fun v => bif v then some (false, ()) else bif (firstFrom (atR badR1 c.snd.snd.snd.fst) 0 (List.length c.snd.snd.snd.fst)).isSome then some (false, ()) else some (true, ()) else bif c.fst == (2 : Int) then Option.bind (bif withinB c.snd.snd.snd.snd.snd.fst (0 : Int) (1125899906842624 : Int) then bif decide (c.snd.snd.snd.snd.snd.snd.fst ≥ (1 : Int)) then some (decide (c.snd.snd.snd.snd.snd.snd.fst ≤ (100 : Int))) else some false else some false) fun v => some (v, ()) else bif c.fst == (3 : Int) then Option.bind (bif withinB c.snd.snd.snd.snd.snd.fst (0 : Int) (1125899906842624 : Int) then some (validL c.snd.snd.snd.snd.fst) else some false) fun v => some (v, ()) else bif c.fst == (4 : Int) then some (validL c.snd.snd.snd.snd.fst, ()) else Option.bind (bif c.fst == (5 : Int) then some (c.fst == (5 : Int), ()) else some (c.fst == (9 : Int), ())) fun v => bif v.fst then some (withinB c.snd.snd.snd.snd.snd.snd.snd.fst (-1099511627776 : Int) (1099511627776 : Int), ()) else bif c.fst == (8 : Int) then Option.bind (bif withinB c.snd.snd.snd.snd.snd.snd.snd.fst (-1099511627776 : Int) (1099511627776 : Int) then some (withinB c.snd.snd.snd.snd.snd.fst (0 : Int) (1125899906842624 : Int)) else some false) fun v => some (v, ()) else bif c.fst == (6 : Int) then Option.bind (bif decide (c.snd.snd.snd.snd.snd.snd.snd.snd.snd.fst ≥ (1 : Int)) then bif decide (c.snd.snd.snd.snd.snd.snd.snd.snd.snd.fst ≤ (1000 : Int)) then bif withinB c.snd.snd.snd.snd.snd.snd.snd.snd.snd.snd.fst (0 : Int) (1099511627776 : Int) then bif withinB c.snd.snd.snd.snd.snd.snd.snd.snd.snd.snd.snd.fst (0 : Int) (1099511627776 : Int) then some (withinB c.snd.snd.snd.snd.snd.snd.snd.snd.snd.snd.snd.snd (0 : Int) (1099511627776 : Int)) else some false else some false else some false else some false) fun v => some (v, ()) else bif c.fst == (11 : Int) then Option.bind (bif withinB c.snd.snd.snd.snd.snd.fst (0 : Int) (1125899906842624 : Int) then bif withinB c.snd.snd.fst (0 : Int) (1099511627776 : Int) then some (withinB c.snd.snd.snd.snd.snd.snd.fst (0 : Int) (1099511627776 : Int)) else some false else some false) fun v => some (v, ()) else some (false, ()) := by kernel_rfl
theorem recs_lens (r : List Rec) : (decide (((List.length r : Nat) : Int) < 1) || decide (((List.length r : Nat) : Int) > 50)) = !withinB (List.length r) 1 50 := by
  unfold withinB
  apply Bool.eq_iff_iff.2
  simp
def caseCright : PCase := ⟨[.ty cmdT], [.bool], fun x => (fun (c : Cmd) => [(true, (rightC c, ()))]) x.1⟩
theorem cright_val (c : Cmd) : evFn (env consB3) H.command_Right (LPof []) F.command_Right [valOf cmdT c] [] (finT [.bool]) = some (rightC c, ()) := by
  rw [cright_ev, ← prog_right]
  simp only [and_bif, or_bif, nand_bif, nor_bif, ors_bif, ors2_bif, oand_bif, selfor, someu_bif, Option.bind_some]
  unfold tailC
  cases (bareC c).2 <;> cases decide ((bareC c).1 = c) <;> rfl
theorem cright_ok : caseCright.ok P0 I.command_Right := case_ok2 (H := H.command_Right) (E := env consB3) (env_ok consB3_ok) glob0 mixed0 G.command_Right Bd.command_Right (by kernel_rfl) noLoops fun ⟨c, ()⟩ y h hw => by
  obtain ⟨hc, rfl⟩ := pick_pre h
  exact cright_val c
def caseRright : PCase := ⟨[.ty cmdT], [.bool], fun x => (fun (c : Cmd) => [(true, (rightC c, ()))]) x.1⟩
theorem rright_val (c : Cmd) : evFn (env consB2) H.cooperageref10_Right (LPof [(12, rrLC)]) F.cooperageref10_Right [valOf cmdT c] [] (finT [.bool]) = some (rightC c, ()) := by
  rw [rright_ev]
  unfold rightC
  have e1 : (bif (firstFrom (atR badR1 c.2.2.2.1) 0 (List.length c.2.2.2.1)).isSome then some (false, ()) else some (true, ())) = some (!List.any c.2.2.2.1 badR1, ()) := by
    have := firstFrom_any0 (q := badR1) (d := recTy.zero) c.2.2.2.1
    rw [← this]
    show _ = some (!(firstFrom (atR badR1 c.2.2.2.1) 0 (List.length c.2.2.2.1)).isSome, ())
    cases (firstFrom (atR badR1 c.2.2.2.1) 0 (List.length c.2.2.2.1)).isSome <;> rfl
  simp only [recs_lens, e1, and_bif, or_bif, nand_bif, nor_bif, ors_bif, ors2_bif, oand_bif, selfor, someu_bif, Option.bind_some]
  cases plainC c with
  | false => rfl
  | true =>
    cases c.1 == 0 || (c.1 == 7 || c.1 == 10) with
    | true => rfl
    | false =>
      cases c.1 == 1 with
      | true =>
        unfold recsB
        cases hp : withinB c.2.1 0 1099511627776 with
        | false => rfl
        | true =>
          rw [within_pos hp]
          cases withinB c.2.2.1 0 1099511627776 <;> cases c.2.1 == 0 <;> cases h : c.2.2.1 == 0 <;> cases withinB (List.length c.2.2.2.1) 1 50 <;> simp [bne, h]
      | false =>
        cases c.1 == 2 with
        | true => rfl
        | false =>
          cases c.1 == 3 with
          | true => rfl
          | false =>
            cases c.1 == 4 with
            | true => rfl
            | false =>
              cases c.1 == 5 || c.1 == 9 with
              | true => rfl
              | false =>
                cases c.1 == 8 with
                | true => rfl
                | false =>
                  cases c.1 == 6 with
                  | true =>
                    unfold confB withinB
                    simp only [cond_true, cond_false, Bool.true_and, Bool.and_assoc, Bool.not_true]
                  | false => cases c.1 == 11 <;> rfl
theorem rright_ok : caseRright.ok P0 I.cooperageref10_Right := case_ok2 (H := H.cooperageref10_Right) (E := env consB2) (env_ok consB2_ok) glob0 mixed0 G.cooperageref10_Right Bd.cooperageref10_Right (by kernel_rfl) (loops_good (tab := [(12, rrLC)]) (by kernel_rfl) (fun x hx => by simp at hx; subst hx; exact rr_lok)) fun ⟨c, ()⟩ y h hw => by
  obtain ⟨hc, rfl⟩ := pick_pre h
  exact rright_val c
end Go.Sim.XS
namespace Go.Sim
set_option linter.unusedSectionVars false
set_option linter.unusedSimpArgs false
set_option linter.unusedVariables false

section
variable {P : Program} [Tabs P] {own : Own P} {φ : Nat → Nat} {β : Beta} {w : World}
end
end Go.Sim
namespace Go.Sim
set_option linter.unusedSectionVars false
set_option linter.unusedSimpArgs false
set_option linter.unusedVariables false

def finM (k0 n : Nat) (v : AV) (s : St) : Option (AV × List AObj) :=
  (fun ls => cond (nodupB ls) (some (v.ren (idx ls 0), ls.map fun l => (getO s.objs l).ren (idx ls 0))) none)
    (List.range k0 ++ ((List.range (n - k0)).map (fun i => s.nx + i) ++ (reach (getO s.objs) reachFuel (locsK (getO s.objs) k0 ++ v.locs) (List.range k0)).drop k0))
def finVM (out : Pat) (outs : List OPat) (k0 n : Nat) (v : AV) (s : St) : Option (out.den × opatsDen outs) := (finM k0 n v s).bind fun r => (out.view r.1).bind fun a => (opatsView outs r.2).bind fun b => some (a, b)

/-- A call of which only the first k0 objects keep their numbers. -/
def evFnM {R : Type} (k0 : Nat) (E : Env) (H : Hint) (LP : Loops R) (fn : Func) (args : List AV) (objs : List AObj) (K : AV → St → Option R) : Option R :=
  match fn.body with
  | none => none
  | some c => ev E H k0 LP c (initSt args objs) fun e s => match e with
    | .exit _ => none
    | _ => (resultsOf E s fn.results.toList).bind fun vs => K (oneOr vs) s

section
variable {P : Program} [Tabs P] {own : Own P} {φ φ' : Nat → Nat} {β β' : Beta} {w w' : World} {E : Env} {H : Hint} {R : Type}

theorem evFn_coreM (hE : EnvOK P E) (hg : GlobOK P E) (hm : P.follows .mixedOrders = true) {n : FuncId} {fn : Func} (hf : P.funcs[n]? = some fn) {args : List AV} {objs : List AObj} (hok : fnOk H fn args.length = true) {c : Code} (hb : fn.body = some c)
    {k0 : Nat} (hk0 : k0 ≤ objs.length) {LP : Loops R} (hL : LoopsGood P H k0 LP c) {K : AV → St → Option R} {r : R} (h : evFnM k0 E H LP fn args objs K = some r) : ∃ v s', K v s' = some r ∧
    ∀ (own : Own P) φ β w vs, VL φ β w args vs → WInv own φ β (fun l => (objs[l]?).getD .dead) w → (∀ l, objs.length ≤ l → β l = none) →
      Calls P n vs.toArray w fun e w' => ∃ u φ' β', e = .returned u ∧ Run k0 own φ β w φ' β' w' ∧ V φ' β' w' v u ∧ WInv own φ' β' (getO s'.objs) w' ∧ (∀ l, s'.nx ≤ l → β' l = none) := by
  unfold fnOk at hok
  simp only [Bool.and_eq_true] at hok
  obtain ⟨hnt, hle⟩ := hok
  have hnt := Nat.eq_of_beq_eq_true hnt
  have hle := Nat.le_of_ble_eq_true hle
  unfold evFnM at h
  rw [hb] at h
  simp only at h
  obtain ⟨e, s', h, hC⟩ := ev_sound hE hg hm c hL _ _ _ h
  have key : ∃ vs, resultsOf E s' fn.results.toList = some vs ∧ K (oneOr vs) s' = some r ∧ (e.out = .normal ∨ e.out = .ret) := by
    cases e with
    | exit i => cases h
    | normal => obtain ⟨vs, h1, h2⟩ := bind_some h; exact ⟨vs, h1, h2, .inl rfl⟩
    | ret => obtain ⟨vs, h1, h2⟩ := bind_some h; exact ⟨vs, h1, h2, .inr rfl⟩
  obtain ⟨avs, hres, hfin, he⟩ := key
  refine ⟨oneOr avs, s', hfin, fun own φ β w vs hV hW htop => ?_⟩
  have hvl := hV.length
  refine calls_of_wp hf hb ?_
  have hrel : Rel H k0 own φ β (initSt args objs) { tmps := vs.toArray ++ Array.replicate (fn.ntmps - vs.toArray.size) undef, defers := [] } w := by
    refine ⟨?_, rfl, fun x => ?_, ?_, fun l hl => ⟨?_, htop l hl⟩, hk0⟩
    · simp only [Array.size_append, List.size_toArray, Array.size_replicate]; omega
    · unfold slotAt initSt
      rw [lk_numbered]
      simp only [Nat.zero_le, if_true, Nat.sub_zero]
      cases ha : args[x]? with
      | none => simp [V]
      | some v =>
        obtain ⟨u, hu, hVu⟩ := hV.get ha
        simp only [Option.getD_some]
        have : (Act.eval { tmps := vs.toArray ++ Array.replicate (fn.ntmps - vs.toArray.size) undef, defers := [] } (.tmp x)) = u := by
          have hlt := (List.getElem?_eq_some_iff.1 hu).1
          simp only [Act.eval, Array.getD_eq_getD_getElem?]
          rw [Array.getElem?_append_left (by simpa using hlt)]
          simp [hu]
        rw [this]; exact hVu
    · have : getO (initSt args objs).objs = fun l => (objs[l]?).getD .dead := funext fun l => getO_numbered objs l
      rw [this]; exact hW
    · unfold initSt
      rw [getO_numbered]
      have : objs[l]? = none := by simpa [initSt] using hl
      rw [this]; rfl
  refine hC own φ β _ w hrel _ fun φ' β' a' w' hr hrun => ?_
  obtain ⟨us, g1, g2⟩ := results_sound hE hr _ _ hres
  have hrunR : (results fn a'.tmps).run P w' = .ok (if h : us.toArray.size = 1 then us.toArray[0] else .tuple us.toArray) w' := by
    rw [results_eq, Array.mapM_eq_mapM_toList]
    simp [g1]
  have hpost : a'.defers = [] ∧ ∃ v, (results fn a'.tmps).run P w' = .ok v w' ∧ ∃ u φ2 β2, Ending.returned v = .returned u ∧ Run k0 own φ β w φ2 β2 w' ∧ V φ2 β2 w' (oneOr avs) u ∧
      WInv own φ2 β2 (getO s'.objs) w' ∧ ∀ l, s'.nx ≤ l → β2 l = none :=
    ⟨hr.defers, _, hrunR, _, φ', β', rfl, hrun, oneOr_sound g2, hr.inv, fun l hl => (hr.top l hl).2⟩
  rcases he with he | he <;> rw [he] <;> exact hpost
theorem dead_none {l : Nat} {ob : AObj} (h : ObjRel φ β w l ob) (hb : β l = none) : ob = .dead := by
  cases ob with
  | dead => rfl
  | arr sz t xs tail => simp only [ObjRel, hb] at h
  | log t xs => simp only [ObjRel, hb] at h
  | map kt vt es => simp only [ObjRel] at h; obtain ⟨_, p, _, _, h, _⟩ := h; rw [hb] at h; cases h
  | siter s pos => simp only [ObjRel] at h; obtain ⟨_, p, h, _⟩ := h; rw [hb] at h; cases h
theorem finM_sound {k0 : Nat} {n : FuncId} {args : List AV} {objs objs' : List AObj} (hk0 : k0 ≤ objs.length) {v r : AV} {s' : St} (hfin : finM k0 objs.length v s' = some (r, objs'))
    (hC : ∀ (own : Own P) φ β w vs, VL φ β w args vs → WInv own φ β (fun l => (objs[l]?).getD .dead) w → (∀ l, objs.length ≤ l → β l = none) →
      Calls P n vs.toArray w fun e w' => ∃ u φ' β', e = .returned u ∧ Run k0 own φ β w φ' β' w' ∧ V φ' β' w' v u ∧ WInv own φ' β' (getO s'.objs) w' ∧ (∀ l, s'.nx ≤ l → β' l = none)) : EffGood P n args objs r objs' := by
  unfold finM at hfin
  obtain ⟨hc, hfin⟩ := cond_none hfin
  generalize (reach (getO s'.objs) reachFuel (locsK (getO s'.objs) k0 ++ v.locs) (List.range k0)).drop k0 = rest at hc hfin
  obtain ⟨ls, hls⟩ : ∃ ls, ls = List.range k0 ++ ((List.range (objs.length - k0)).map (fun i => s'.nx + i) ++ rest) := ⟨_, rfl⟩
  rw [← hls] at hc hfin
  simp only [Option.some.injEq, Prod.mk.injEq] at hfin
  obtain ⟨rfl, rfl⟩ := hfin
  have hlo : ∀ l, l < k0 → ls[l]? = some l := fun l hl => by
    rw [hls, List.getElem?_append_left (by simpa using hl), List.getElem?_range hl]
  have hmid : ∀ l, k0 ≤ l → l < objs.length → ls[l]? = some (s'.nx + (l - k0)) := fun l h1 h2 => by
    rw [hls, List.getElem?_append_right (by simpa using h1), List.length_range, List.getElem?_append_left (by simp; omega), List.getElem?_map, List.getElem?_range (by omega)]
    rfl
  have hlen : objs.length ≤ ls.length := by rw [hls]; simp; omega
  intro own φ β w vs hV hW htop
  refine (hC own φ β w vs hV hW htop).mono fun e w' ⟨u, φ', β', he, hrun, hVu, hWI, ht⟩ => ?_
  have hW1 := hWI.sub hc
  have hmn : ∀ l, k0 ≤ l → l < objs.length → subB ls β' l = none := fun l h1 h2 => by
    unfold subB
    rw [hmid l h1 h2]
    exact ht _ (by omega)
  obtain ⟨β2, hβ2⟩ : ∃ β2 : Beta, β2 = fun l => if k0 ≤ l ∧ l < objs.length then β l else subB ls β' l := ⟨_, rfl⟩
  have hb1 : ∀ l, ¬ (k0 ≤ l ∧ l < objs.length) → β2 l = subB ls β' l := fun l h => by rw [hβ2]; simp only [h, if_false]
  have hb2 : ∀ l, k0 ≤ l → l < objs.length → β2 l = β l := fun l h1 h2 => by rw [hβ2]; simp only [h1, h2, and_self, if_true]
  have hext : Ext (subB ls β') β2 := fun l x hx => by
    by_cases h : k0 ≤ l ∧ l < objs.length
    · rw [hmn l h.1 h.2] at hx; cases hx
    · rw [hb1 l h]; exact hx
  have e2 : (fun l => ((ls.map fun l => (getO s'.objs l).ren (idx ls 0))[l]?).getD .dead) = getO (numbered 0 (ls.map fun l => (getO s'.objs l).ren (idx ls 0))) := funext fun l => (getO_numbered _ l).symm
  have hsame : ∀ l, getO (numbered 0 (ls.map fun l => (getO s'.objs l).ren (idx ls 0))) l ≠ .dead → β2 l = subB ls β' l := fun l hl => by
    by_cases h : k0 ≤ l ∧ l < objs.length
    · exact absurd (dead_none (hW1.rel l) (hmn l h.1 h.2)) hl
    · exact hb1 l h
  refine ⟨u, φ', β2, he, ⟨hrun.keeps, fun l hl => ?_, hrun.grow, hrun.old⟩, V.keep (.refl _ _) hext _ _ (V.ren subB_idx _ _ hVu), ?_, fun l hl => ?_⟩
  · by_cases h : k0 ≤ l
    · exact hb2 l h hl
    · rw [hb1 l (fun h' => h h'.1), ← hrun.agree l (by omega)]
      simp [subB, hlo l (by omega)]
  · rw [e2]
    refine ⟨fun m => (hW1.rel m).keep (.refl _ _) hext (fun _ _ => ⟨rfl, rfl⟩), fun m p hm hp => hW1.mine m p hm (by rw [← hsame m hm]; exact hp), fun m m' p q hne h1 h2 h3 h4 => hW1.dist m m' p q hne h1 h2 (by rw [← hsame m h1]; exact h3) (by rw [← hsame m' h2]; exact h4), hW1.fresh, hW1.laid⟩
  · have hl : ls.length ≤ l := by simpa using hl
    rw [hb1 l (fun h => by omega)]
    have : ls[l]? = none := by simpa using hl
    simp [subB, this]
/-- A case whose first k0 objects keep their numbers. -/
theorem vcase_okM (hE : EnvOK P E) (hg : GlobOK P E) (hm : P.follows .mixedOrders = true) {n : FuncId} {fn : Func} (hf : P.funcs[n]? = some fn) {c : VCase} {cd : Code} (hb : fn.body = some cd) (k0 : Nat) (hk0 : Nat.ble k0 c.objs.length = true)
    (hok : (Nat.beq H.nt fn.ntmps && Nat.ble c.ins.length fn.ntmps) = true) {LP : Loops (c.out.den × opatsDen c.outs)} (hL : LoopsGood P H k0 LP cd)
    (h : ∀ x y r, pick (c.f x y) = some r → patsWf c.ins x → opatsWf c.objs y → evFnM k0 E H LP fn (patsMk c.ins x) (opatsMk c.objs y) (finVM c.out c.outs k0 c.objs.length) = some r) : c.e.ok P n := fun (x : patsDen c.ins) (y : opatsDen c.objs) r objs' hxy hw1 hw2 => by
  obtain ⟨z, hz, e0⟩ := pick_mapAlt hxy
  cases e0
  have he := h x y z hz hw1 hw2
  have hlen : ∀ (ps : List Pat) (x : patsDen ps), (patsMk ps x).length = ps.length := fun ps => by
    induction ps with
    | nil => intro _; rfl
    | cons p ps ih => intro x; simp [patsMk, ih]
  have holen : ∀ (ps : List OPat) (x : opatsDen ps), (opatsMk ps x).length = ps.length := fun ps => by
    induction ps with
    | nil => intro _; rfl
    | cons p ps ih => intro x; simp [opatsMk, ih]
  have hl : c.objs.length = (opatsMk c.objs y).length := (holen c.objs y).symm
  have hk : k0 ≤ (opatsMk c.objs y).length := by rw [← hl]; exact Nat.le_of_ble_eq_true hk0
  rw [hl] at he
  obtain ⟨v, s', hv, hC⟩ := evFn_coreM hE hg hm hf (args := patsMk c.ins x) (objs := opatsMk c.objs y) (by unfold fnOk; rw [hlen c.ins x]; exact hok) hb hk hL he
  unfold finVM at hv
  obtain ⟨⟨r, os⟩, h1, hv⟩ := bind_some hv
  obtain ⟨a, h2, hv⟩ := bind_some hv
  obtain ⟨b, h3, hv⟩ := bind_some hv
  cases hv
  have hE2 := finM_sound hk h1 hC
  exact hE2.told h2 h3
end
end Go.Sim
namespace Go.Sim
set_option linter.unusedSimpArgs false
set_option linter.unusedVariables false

def preN (n : Nat) : List Int := if n < 128 then [] else ((n % 128 + 128 : Nat) : Int) :: preN (n / 128)
termination_by n
decreasing_by omega
def lastN (n : Nat) : Nat := if n < 128 then n else lastN (n / 128)
termination_by n
decreasing_by omega
def putN (n : Nat) : List Int := preN n ++ [(lastN n : Int)]
theorem pow7 (i : Nat) : 2 ^ (7 * (i + 1)) = 2 ^ (7 * i) * 128 := by rw [Nat.mul_add, Nat.pow_add]
def foldV (n : Int) : Int := bif decide (n < 0) then -2 * n - 1 else 2 * n
/-! ### What the code computes -/
theorem wrapu8_mod (n : Int) : IntKind.u8.wrap n = n % 256 := by simp [IntKind.wrap, IntKind.bits, IntKind.signed]
set_option maxRecDepth 10000 in
theorem or128 : ∀ y : Fin 256, (y.val ||| 128) = y.val % 128 + 128 := by decide
theorem put_byte {x : Int} (h : 0 ≤ x) : IntKind.u8.wrap (↑(BitVec.ofInt 8 (IntKind.u8.wrap x) ||| BitVec.ofInt 8 (128 : Int)).toNat : Int) = ((x.toNat % 128 + 128 : Nat) : Int) := by
  have e1 : (BitVec.ofInt 8 (IntKind.u8.wrap x)).toNat = x.toNat % 256 := by
    rw [wrapu8_mod]
    simp only [BitVec.toNat_ofInt]
    omega
  have e2 : (BitVec.ofInt 8 (128 : Int)).toNat = 128 := by decide
  rw [BitVec.toNat_or, e1, e2]
  have := or128 ⟨x.toNat % 256, Nat.mod_lt _ (by omega)⟩
  simp only at this
  rw [this, wrapu8_mod]
  omega
theorem fdiv128 {x : Int} (h : 0 ≤ x) : x.fdiv 128 = ((x.toNat / 128 : Nat) : Int) := by
  rw [Int.fdiv_eq_ediv_of_nonneg _ (by omega)]; omega
theorem ofInt64 {x : Int} (h : 0 ≤ x) (h' : x < 18446744073709551616) : (BitVec.ofInt 64 x).toNat = x.toNat := by
  simp only [BitVec.toNat_ofInt]; omega
theorem xor_ones (x : BitVec 64) : (BitVec.ofInt 64 (18446744073709551615 : Int) ^^^ x).toNat = 18446744073709551615 - x.toNat := by
  have e : BitVec.ofInt 64 (18446744073709551615 : Int) = BitVec.allOnes 64 := by decide
  rw [e, BitVec.allOnes_xor, BitVec.toNat_not]
theorem fold_val {n : Int} (h1 : -9223372036854775808 ≤ n) (h2 : n ≤ 9223372036854775807) : (bif decide (n < (0 : Int)) then
    some (IntKind.u64.wrap (↑(BitVec.ofInt 64 (18446744073709551615 : Int) ^^^ BitVec.ofInt 64 (IntKind.u64.wrap (IntKind.u64.wrap n * (2 : Int)))).toNat : Int), ())
    else some (IntKind.u64.wrap (IntKind.u64.wrap n * (2 : Int)), ())) = some (foldV n, ()) := by
  unfold foldV
  have e : IntKind.u64.wrap (IntKind.u64.wrap n * 2) = (bif decide (n < 0) then 2 * n + 18446744073709551616 else 2 * n) := by
    rw [wrapu64_mod, wrapu64_mod]
    by_cases h : n < 0
    · simp only [h, decide_true, cond_true]; omega
    · simp only [h, decide_false, cond_false]; omega
  rw [e]
  by_cases h : n < 0
  · simp only [h, decide_true, cond_true]
    rw [xor_ones, ofInt64 (by omega) (by omega)]
    congr 2
    rw [wrapu64_mod]
    omega
  · simp only [h, decide_false, cond_false]
theorem fold_in {n : Int} (h1 : -9223372036854775808 ≤ n) (h2 : n ≤ 9223372036854775807) : 0 ≤ foldV n ∧ foldV n ≤ 18446744073709551615 := by
  unfold foldV
  by_cases h : n < 0
  · simp only [h, decide_true, cond_true]; omega
  · simp only [h, decide_false, cond_false]; omega
theorem preN_lt {n : Nat} (h : n < 128) : preN n = [] := by rw [preN, if_pos h]
theorem preN_ge {n : Nat} (h : ¬ n < 128) : preN n = ((n % 128 + 128 : Nat) : Int) :: preN (n / 128) := by rw [preN, if_neg h]
theorem lastN_lt {n : Nat} (h : n < 128) : lastN n = n := by rw [lastN, if_pos h]
theorem lastN_ge {n : Nat} (h : ¬ n < 128) : lastN n = lastN (n / 128) := by rw [lastN, if_neg h]
theorem lastN_small (n : Nat) : lastN n < 128 := by
  induction n using Nat.strongRecOn with
  | ind n ih =>
    by_cases h : n < 128
    · rw [lastN_lt h]; exact h
    · rw [lastN_ge h]; exact ih _ (by omega)
theorem preN_len : ∀ (k n : Nat), n < 2 ^ (7 * (k + 1)) → (preN n).length ≤ k
  | 0, n, h => by rw [preN_lt (by simpa using h)]; simp
  | k + 1, n, h => by
    by_cases h' : n < 128
    · rw [preN_lt h']; simp
    · rw [preN_ge h', List.length_cons]
      rw [pow7] at h
      have := preN_len k (n / 128) (Nat.div_lt_of_lt_mul (by rw [Nat.mul_comm]; exact h))
      omega
theorem preN_len9 {n : Nat} (h : n < 18446744073709551616) : (preN n).length ≤ 9 := preN_len 9 n (by omega)
theorem putN_len {n : Nat} (h : n < 18446744073709551616) : (putN n).length ≤ 10 := by
  have := preN_len9 h
  unfold putN; simp only [List.length_append, List.length_cons, List.length_nil]; omega
end Go.Sim
namespace Go.Sim
set_option linter.unusedSimpArgs false
set_option linter.unusedVariables false

def encR (r : Rec) : List Int := putN r.1.toNat ++ putN (foldV r.2.1).toNat ++ [bif r.2.2.2.2 then (1 : Int) else 0] ++ putN (List.length r.2.2.1) ++ bytesOf r.2.2.1 ++ putN (List.length r.2.2.2.1) ++ bytesOf r.2.2.2.1
def putR (b : List Int) (r : Rec) : List Int := bif recR r then b ++ encR r else b
theorem encR_len {r : Rec} (h : recR r = true) : (encR r).length ≤ 2241 := by
  obtain ⟨o, t, k, v, d⟩ := r
  simp only [recR, Bool.and_eq_true, decide_eq_true_eq] at h
  obtain ⟨h1, h2, h3, h4, h5, h6, h7, h8⟩ := h
  have hk : (bytesOf k).length = k.length := by simp [bytesOf]
  have hv : (bytesOf v).length = v.length := by simp [bytesOf]
  have hf := fold_in (n := t) (by omega) (by omega)
  have a1 := putN_len (n := o.toNat) (by omega)
  have a2 := putN_len (n := (foldV t).toNat) (by omega)
  have a3 := putN_len (n := List.length k) (by omega)
  have a4 := putN_len (n := List.length v) (by omega)
  simp only [encR, List.length_append, List.length_cons, List.length_nil, hk, hv]
  omega
end Go.Sim
namespace Go.Sim
set_option linter.unusedSimpArgs false
set_option linter.unusedVariables false
def polyB : BitVec 32 := 3988292384#32
def bitB (v : BitVec 32) : BitVec 32 := bif v.getLsbD 0 then (v >>> 1) ^^^ polyB else v >>> 1
def itB : Nat → BitVec 32 → BitVec 32
  | 0, v => v
  | n + 1, v => itB n (bitB v)
def byteB (v : BitVec 32) (c : Int) : BitVec 32 := itB 8 (v ^^^ BitVec.ofInt 32 c)
def crcB (v : BitVec 32) (b : List Int) : BitVec 32 := b.foldl byteB v
def sumB (b : List Int) : BitVec 32 := ~~~ crcB (~~~ 0#32) b
theorem low_cases (v : BitVec 32) : (v &&& 1#32 = 1#32 ∧ v.getLsbD 0 = true) ∨ (v &&& 1#32 = 0#32 ∧ v.getLsbD 0 = false) := by
  have h : (v &&& 1#32).toNat = v.toNat % 2 := by
    rw [BitVec.toNat_and]
    exact Nat.and_one_is_mod v.toNat
  have g : v.getLsbD 0 = decide (v.toNat % 2 = 1) := by
    unfold BitVec.getLsbD
    exact Nat.testBit_zero v.toNat
  rcases Nat.mod_two_eq_zero_or_one v.toNat with e | e
  · exact .inr ⟨BitVec.eq_of_toNat_eq (by rw [h, e]; rfl), by rw [g, e]; rfl⟩
  · exact .inl ⟨BitVec.eq_of_toNat_eq (by rw [h, e]; rfl), by rw [g, e]; rfl⟩
theorem ofInt_bv (v : BitVec 32) : BitVec.ofInt 32 (v.toNat : Int) = v := by
  apply BitVec.eq_of_toNat_eq
  have := v.isLt
  rw [BitVec.toNat_ofInt]
  omega
theorem wrap_bv (v : BitVec 32) : IntKind.u32.wrap (v.toNat : Int) = (v.toNat : Int) := by
  have := v.isLt
  exact wrap_in (In.u32.2 ⟨by omega, by omega⟩)
theorem fdiv_bv (v : BitVec 32) : (v.toNat : Int).fdiv 2 = ((v >>> 1).toNat : Int) := by
  rw [BitVec.toNat_ushiftRight, Nat.shiftRight_eq_div_pow]
  rw [Int.fdiv_eq_ediv_of_nonneg _ (by omega)]
  rfl
theorem bit_prog (v : BitVec 32) : IntKind.u32.wrap (((BitVec.ofInt 32 ((v.toNat : Int).fdiv 2) ^^^ BitVec.ofInt 32 (IntKind.u32.wrap (((BitVec.ofInt 32 3988292384 &&& BitVec.ofInt 32
    (IntKind.u32.wrap (0 - IntKind.u32.wrap ((BitVec.ofInt 32 (v.toNat : Int) &&& BitVec.ofInt 32 1).toNat : Int)))).toNat : Nat) : Int))).toNat : Nat) : Int) = ((bitB v).toNat : Int) := by
  rw [ofInt_bv, fdiv_bv, ofInt_bv, show BitVec.ofInt 32 1 = 1#32 from rfl]
  unfold bitB
  rcases low_cases v with ⟨h, g⟩ | ⟨h, g⟩
  · rw [h, g, cond_true]
    rw [show BitVec.ofInt 32 (IntKind.u32.wrap (((BitVec.ofInt 32 3988292384 &&& BitVec.ofInt 32 (IntKind.u32.wrap (0 - IntKind.u32.wrap ((1#32).toNat : Int)))).toNat : Nat) : Int)) = polyB by decide, wrap_bv]
  · rw [h, g, cond_false]
    rw [show BitVec.ofInt 32 (IntKind.u32.wrap (((BitVec.ofInt 32 3988292384 &&& BitVec.ofInt 32 (IntKind.u32.wrap (0 - IntKind.u32.wrap ((0#32).toNat : Int)))).toNat : Nat) : Int)) = 0#32 by decide, BitVec.xor_zero, wrap_bv]
theorem bit_ref1 (v : BitVec 32) : (IntKind.u32.wrap ((BitVec.ofInt 32 (v.toNat : Int) &&& BitVec.ofInt 32 1).toNat : Int) == 1) = v.getLsbD 0 := by
  rw [ofInt_bv, show BitVec.ofInt 32 1 = 1#32 from rfl]
  rcases low_cases v with ⟨h, g⟩ | ⟨h, g⟩
  · rw [h, g]; decide
  · rw [h, g]; decide
theorem bit_ref2 (v : BitVec 32) : IntKind.u32.wrap (((BitVec.ofInt 32 ((v.toNat : Int).fdiv 2) ^^^ BitVec.ofInt 32 3988292384).toNat : Nat) : Int) = (((v >>> 1) ^^^ polyB).toNat : Int) := by
  rw [fdiv_bv, ofInt_bv, show BitVec.ofInt 32 3988292384 = polyB from rfl, wrap_bv]
/-! ### One turned byte gives another sum -/
end Go.Sim
namespace Go.Sim.XU
set_option linter.unusedSimpArgs false
set_option linter.unusedVariables false
set_option maxRecDepth 10000
theorem env_nil : ∀ x ∈ ([] : List (FuncId × Con)), HoldsC P0 x.1 x.2 := fun x h => by cases h
abbrev u8T : Ty := .int .u8
theorem right1_ev (r : recT.den) : evFn (env []) H.cooperageref1_Right (LPof []) F.cooperageref1_Right [valOf recT r] [] (finT [.bool]) = Option.bind (bif decide (r.fst ≥ (0 : Int)) then bif decide (r.fst ≤ (1125899906842624 : Int)) then bif decide (r.snd.fst ≥ (-1099511627776 : Int)) then bif decide (r.snd.fst ≤ (1099511627776 : Int)) then bif decide ((↑(List.length r.snd.snd.fst) : Int) ≥ (1 : Int)) then bif decide ((↑(List.length r.snd.snd.fst) : Int) ≤ (200 : Int)) then bif decide ((↑(List.length r.snd.snd.snd.fst) : Int) ≤ (2000 : Int)) then bif !r.snd.snd.snd.snd then some true else some (r.snd.snd.snd.fst == []) else some false else some false else some false else some false else some false else some false else some false) fun v => some (v, ()) := by kernel_rfl

def caseRight1 : PCase := ⟨[.ty recT], [.bool], fun x => (fun (r : Rec) => [(true, (recR r, ()))]) x.1⟩
theorem right1_val (r : Rec) : evFn (env []) H.cooperageref1_Right (LPof []) F.cooperageref1_Right [valOf recT r] [] (finT [.bool]) = some (recR r, ()) := by
  rw [right1_ev]; simp only [and_bif, or_bif, nand_bif, nor_bif, Option.bind_some]; rfl
theorem right1_ok : caseRight1.ok P0 I.cooperageref1_Right := case_ok2 (H := H.cooperageref1_Right) (E := env []) (env_ok env_nil) glob0 mixed0 G.cooperageref1_Right Bd.cooperageref1_Right (by kernel_rfl) noLoops fun ⟨r, ()⟩ y h hw => by
  obtain ⟨hc, rfl⟩ := pick_pre h
  exact right1_val r
theorem recright_ev (r : recT.den) : evFn (env []) H.record_Right (LPof []) F.record_Right [valOf recT r] [] (finT [.bool]) = Option.bind (bif decide (r.fst ≥ (0 : Int)) then bif decide (r.fst ≤ (1125899906842624 : Int)) then bif decide (r.snd.fst ≥ (-1099511627776 : Int)) then bif decide (r.snd.fst ≤ (1099511627776 : Int)) then bif !r.snd.snd.fst == [] then bif decide ((↑(List.length r.snd.snd.fst) : Int) ≤ (200 : Int)) then bif decide ((↑(List.length r.snd.snd.snd.fst) : Int) ≤ (2000 : Int)) then bif r.snd.snd.snd.snd then some !!r.snd.snd.snd.fst == [] else some true else some false else some false else some false else some false else some false else some false else some false) fun v => some (v, ()) := by kernel_rfl

def caseRecright : PCase := ⟨[.ty recT], [.bool], fun x => (fun (r : Rec) => [(true, (recR r, ()))]) x.1⟩
theorem recright_val (r : Rec) : evFn (env []) H.record_Right (LPof []) F.record_Right [valOf recT r] [] (finT [.bool]) = some (recR r, ()) := by
  rw [recright_ev]; simp only [and_bif, or_bif, nand_bif, nor_bif, Option.bind_some, Bool.not_not, recR_key r.2.2.1]; rfl
theorem recright_ok : caseRecright.ok P0 I.record_Right := case_ok2 (H := H.record_Right) (E := env []) (env_ok env_nil) glob0 mixed0 G.record_Right Bd.record_Right (by kernel_rfl) noLoops fun ⟨r, ()⟩ y h hw => by
  obtain ⟨hc, rfl⟩ := pick_pre h
  exact recright_val r
theorem vfold_ev (n : Int) : evFn (env []) H.varint_Fold (LPof []) F.varint_Fold [.int .i64 n] [] (finT [.int .u64]) = bif decide (n < (0 : Int)) then some (IntKind.u64.wrap (↑(BitVec.ofInt 64 (18446744073709551615 : Int) ^^^ BitVec.ofInt 64 (IntKind.u64.wrap (IntKind.u64.wrap n * (2 : Int)))).toNat : Int), ()) else some (IntKind.u64.wrap (IntKind.u64.wrap n * (2 : Int)), ()) := by kernel_rfl

def caseFold : PCase := ⟨[.ty (.int .i64)], [.int .u64], fun x => (fun (n : Int) => [(true, (foldV n, ()))]) x.1⟩
theorem vfold_val (n : Int) (hn : In .i64 n) : evFn (env []) H.varint_Fold (LPof []) F.varint_Fold [.int .i64 n] [] (finT [.int .u64]) = some (foldV n, ()) := by
  rw [vfold_ev, fold_val (In.i64.1 hn).1 (In.i64.1 hn).2]
theorem vfold_ok : caseFold.ok P0 I.varint_Fold := case_ok2 (H := H.varint_Fold) (E := env []) (env_ok env_nil) glob0 mixed0 G.varint_Fold Bd.varint_Fold (by kernel_rfl) noLoops fun ⟨n, ()⟩ y h hw => by
  obtain ⟨hc, rfl⟩ := pick_pre h
  exact vfold_val n hw.1
theorem vput_rd {R : Type} (x : Int) (o : List Int) (K : Ex → St → Option R) : roundK (env []) H.varint_Put 0 (LPof []) V.varint_Put_2 L.varint_Put_2 ⟨[(1, .int .u64 x), (5, .hw 0)], [(0, .arr 1 (.int .u8) o [])], 1⟩ K = bif decide (x ≥ (128 : Int)) then bif decide ((o ++ [IntKind.u8.wrap (↑(BitVec.ofInt 8 (IntKind.u8.wrap x) ||| BitVec.ofInt 8 (128 : Int)).toNat : Int)]).length * 1 ≤ 140737488355328) then K Ex.normal { slots := [(1, AV.int IntKind.u64 (x.fdiv (128 : Int))), (5, AV.hw 0)], objs := [(0, AObj.arr 1 (Ty.int IntKind.u8) (o ++ [IntKind.u8.wrap (↑(BitVec.ofInt 8 (IntKind.u8.wrap x) ||| BitVec.ofInt 8 (128 : Int)).toNat : Int)]) [])], nx := 1 } else none else K (Ex.exit 0) { slots := [(1, AV.int IntKind.u64 x), (5, AV.hw 0)], objs := [(0, AObj.arr 1 (Ty.int IntKind.u8) o [])], nx := 1 } := by kernel_rfl

def vputSt (x : Int) (o : List Int) : St := ⟨[(1, .int .u64 x), (5, .hw 0)], [(0, .arr 1 (.int .u8) o [])], 1⟩
theorem vput_rounds {R : Type} (K : Ex → St → Option R) : ∀ (n : Nat) (o : List Int), o.length + (preN n).length < 140737488355328 →
    ∃ m, rounds (env []) H.varint_Put 0 (LPof []) V.varint_Put_2 L.varint_Put_2 m (vputSt n o) K = K (.exit 0) (vputSt (lastN n) (o ++ preN n)) := by
  intro n
  induction n using Nat.strongRecOn with
  | ind n ih =>
    intro o ho
    by_cases h : n < 128
    · refine ⟨1, ?_⟩
      rw [rounds_succ']
      refine (vput_rd _ _ _).trans ?_
      rw [cond_neg (by omega), lastN_lt h, preN_lt h, List.append_nil]
      rfl
    · rw [preN_ge h, List.length_cons] at ho
      obtain ⟨m, hm⟩ := ih (n / 128) (by omega) (o ++ [((n % 128 + 128 : Nat) : Int)]) (by simp only [List.length_append, List.length_cons, List.length_nil]; omega)
      refine ⟨m + 1, ?_⟩
      rw [rounds_succ']
      refine (vput_rd _ _ _).trans ?_
      have e1 := put_byte (x := (n : Int)) (by omega)
      have e2 := fdiv128 (x := (n : Int)) (by omega)
      rw [Int.toNat_natCast] at e1 e2
      rw [cond_pos (by omega), e1, e2, cond_pos (by simp only [List.length_append, List.length_cons, List.length_nil]; omega), lastN_ge h, preN_ge h]
      refine Eq.trans hm ?_
      rw [List.append_assoc]
      rfl
abbrev vputLC : LoopC := LoopC.of ⟨[(1, .int .u64), (5, .lit (.hw 0))], [.arr 1 (.int .u8) []]⟩ (fun x => decide (x.2.1.1.length ≤ 140737488355000))
    fun x => [(true, .exit 0, vputSt (lastN x.1.1.toNat) (x.2.1.1 ++ preN x.1.1.toNat))]
theorem vput_go (x : Int) (o : List Int) (h : o.length ≤ 140737488355000) (hx : In .u64 x) : ∃ n, rounds (env []) H.varint_Put 0 (LPof []) V.varint_Put_2 L.varint_Put_2 n (vputSt x o) (fun e s => some (e, s)) = some (.exit 0, vputSt (lastN x.toNat) (o ++ preN x.toNat)) := by
  have hx := In.u64.1 hx
  have h9 := preN_len9 (n := x.toNat) (by omega)
  obtain ⟨m, hm⟩ := vput_rounds (fun e s => some (e, s)) x.toNat o (by omega)
  have e : ((x.toNat : Nat) : Int) = x := by omega
  rw [e] at hm
  exact ⟨m, hm⟩
theorem vput_lok : LoopOK P0 H.varint_Put 0 L.varint_Put_2 vputLC :=
  loop_ok_of (env_ok env_nil) glob0 mixed0 noLoops V.varint_Put_2 (by decide) fun ⟨⟨x, _⟩, ⟨⟨o, _⟩, _⟩⟩ h hw => vput_go x o (of_decide_eq_true h) hw.1.1
theorem vput_ev (b : List Int) (x : Int) : evFn (env []) H.varint_Put (LPof [(2, vputLC)]) F.varint_Put [.vl (.int .u8) b, .int .u64 x] [] (finV (.lit (.hw 0)) [.arr 1 (.int .u8) []] 0) = bif decide (b.length * 1 ≤ 140737488355328) then bif decide (b.length ≤ 140737488355000) && true then bif decide ((b ++ preN x.toNat ++ [IntKind.u8.wrap (↑(lastN x.toNat) : Int)]).length * 1 ≤ 140737488355328) then some ((), (b ++ preN x.toNat ++ [IntKind.u8.wrap (↑(lastN x.toNat) : Int)], ()), ()) else none else none else none := by kernel_rfl

theorem lastN_byte (n : Nat) : IntKind.u8.wrap ((lastN n : Nat) : Int) = (lastN n : Int) := by
  have := lastN_small n
  rw [wrapu8_mod]; omega
def caseVput : VCase := ⟨[.vl u8T, .int .u64], [], .lit (.hw 0), [.arr 1 u8T []], fun ⟨b, x, ()⟩ () => [(decide (b.length ≤ 140737488355000), ((), ((b ++ putN x.toNat, ()), ())))]⟩
theorem vput_val (b : List Int) (x : Int) (hc : (decide (b.length ≤ 140737488355000)) = true) (hx : In .u64 x) : evFn (env []) H.varint_Put (LPof [(2, vputLC)]) F.varint_Put [.vl u8T b, .int .u64 x] [] (finV (.lit (.hw 0)) [.arr 1 u8T []] 0) = some ((), ((b ++ putN x.toNat, ()), ())) := by
  have hb := of_decide_eq_true hc
  have h9 := preN_len9 (n := x.toNat) (by have := (In.u64.1 hx).2; have := (In.u64.1 hx).1; omega)
  rw [vput_ev, cond_pos (by omega), cond_and_none, cond_pos hb, cond_true, cond_pos (by simp only [List.length_append, List.length_cons, List.length_nil]; omega), lastN_byte, List.append_assoc]
  rfl
theorem vput_ok : caseVput.e.ok P0 I.varint_Put := vcase_ok (c := caseVput) (H := H.varint_Put) (E := env []) (env_ok env_nil) glob0 mixed0 G.varint_Put Bd.varint_Put (by kernel_rfl) (loops_good (tab := [(2, vputLC)]) (by kernel_rfl) (fun x hx => by simp at hx; subst hx; exact vput_lok)) fun ⟨b, x, ()⟩ () r h hw1 hw2 => by
  obtain ⟨hc, rfl⟩ := pick_pre h
  exact vput_val b x hc hw1.2.1
theorem rfold_ev (n : Int) : evFn (env []) H.cooperageref1_Fold (LPof []) F.cooperageref1_Fold [.int .i64 n] [] (finT [.int .u64]) = bif decide (n < (0 : Int)) then some (IntKind.u64.wrap (IntKind.u64.wrap (IntKind.u64.wrap (IntKind.i64.wrap ((0 : Int) - IntKind.i64.wrap (n + (1 : Int)))) * (2 : Int)) + (1 : Int)), ()) else some (IntKind.u64.wrap (IntKind.u64.wrap n * (2 : Int)), ()) := by kernel_rfl

end Go.Sim.XU
namespace Go.Sim.XU
set_option linter.unusedSimpArgs false
set_option linter.unusedVariables false
set_option maxRecDepth 10000
theorem crcin_rd {R : Type} (x : Int) (b : List Int) (n i k : Int) (K : Ex → St → Option R) : roundK (env []) H.crc_More 0 (LPof []) V.crc_More_7 L.crc_More_7 ⟨[(5, .int .u32 x), (11, .vl u8T b), (12, .int .i64 n), (13, .int .i64 i), (21, .int .i64 k)], [], 0⟩ K = bif decide (k < (8 : Int)) then K Ex.normal { slots := [(5, AV.int IntKind.u32 (IntKind.u32.wrap (↑(BitVec.ofInt 32 (x.fdiv (2 : Int)) ^^^ BitVec.ofInt 32 (IntKind.u32.wrap (↑(BitVec.ofInt 32 (3988292384 : Int) &&& BitVec.ofInt 32 (IntKind.u32.wrap ((0 : Int) - IntKind.u32.wrap (↑(BitVec.ofInt 32 x &&& BitVec.ofInt 32 (1 : Int)).toNat : Int)))).toNat : Int))).toNat : Int))), (11, AV.vl (Ty.int IntKind.u8) b), (12, AV.int IntKind.i64 n), (13, AV.int IntKind.i64 i), (21, AV.int IntKind.i64 (IntKind.i64.wrap (k + (1 : Int))))], objs := [], nx := 0 } else K (Ex.exit 2) { slots := [(5, AV.int IntKind.u32 x), (11, AV.vl (Ty.int IntKind.u8) b), (12, AV.int IntKind.i64 n), (13, AV.int IntKind.i64 i), (21, AV.int IntKind.i64 k)], objs := [], nx := 0 } := by kernel_rfl

theorem rcrcin_rd {R : Type} (x : Int) (b : List Int) (i k : Int) (K : Ex → St → Option R) : roundK (env []) H.cooperageref1_More 0 (LPof []) V.cooperageref1_More_7 L.cooperageref1_More_7 ⟨[(1, .vl u8T b), (5, .int .u32 x), (6, .int .i64 i), (7, .int .i64 k)], [], 0⟩ K = bif decide (k < (8 : Int)) then bif IntKind.u32.wrap (↑(BitVec.ofInt 32 x &&& BitVec.ofInt 32 (1 : Int)).toNat : Int) == (1 : Int) then K Ex.normal { slots := [(1, AV.vl (Ty.int IntKind.u8) b), (5, AV.int IntKind.u32 (IntKind.u32.wrap (↑(BitVec.ofInt 32 (x.fdiv (2 : Int)) ^^^ BitVec.ofInt 32 (3988292384 : Int)).toNat : Int))), (6, AV.int IntKind.i64 i), (7, AV.int IntKind.i64 (IntKind.i64.wrap (k + (1 : Int))))], objs := [], nx := 0 } else K Ex.normal { slots := [(1, AV.vl (Ty.int IntKind.u8) b), (5, AV.int IntKind.u32 (x.fdiv (2 : Int))), (6, AV.int IntKind.i64 i), (7, AV.int IntKind.i64 (IntKind.i64.wrap (k + (1 : Int))))], objs := [], nx := 0 } else K (Ex.exit 2) { slots := [(1, AV.vl (Ty.int IntKind.u8) b), (5, AV.int IntKind.u32 x), (6, AV.int IntKind.i64 i), (7, AV.int IntKind.i64 k)], objs := [], nx := 0 } := by kernel_rfl

def crcinSt (v : BitVec 32) (b : List Int) (n i k : Int) : St := ⟨[(5, .int .u32 (v.toNat : Int)), (11, .vl u8T b), (12, .int .i64 n), (13, .int .i64 i), (21, .int .i64 k)], [], 0⟩
theorem crcin_loop {R : Type} (b : List Int) (n i : Int) (K : Ex → St → Option R) : ∀ (m k : Nat) (v : BitVec 32), k + m = 8 → rounds (env []) H.crc_More 0 (LPof []) V.crc_More_7 L.crc_More_7 (m + 1) (crcinSt v b n i k) K = K (.exit 2) (crcinSt (itB m v) b n i 8)
  | 0, k, v, h => by
    obtain rfl : k = 8 := by omega
    rw [rounds_succ']
    refine (crcin_rd _ _ _ _ _ _).trans ?_
    rw [cond_neg (by omega)]
    rfl
  | m + 1, k, v, h => by
    rw [rounds_succ']
    refine (crcin_rd _ _ _ _ _ _).trans ?_
    rw [cond_pos (by omega), bit_prog, wrap64 (by omega) (by omega)]
    exact crcin_loop b n i K m (k + 1) (bitB v) (by omega)
theorem u32_bv {x : Int} (h : In .u32 x) : ∃ v : BitVec 32, x = (v.toNat : Int) := by
  have := In.u32.1 h
  refine ⟨BitVec.ofNat 32 x.toNat, ?_⟩
  rw [BitVec.toNat_ofNat]
  omega
abbrev crcinLC : LoopC := LoopC.of ⟨[(5, .int .u32), (11, .vl u8T), (12, .int .i64), (13, .int .i64), (21, .int .i64)], []⟩ (fun x => decide (x.1.2.2.2.2.1 = (0 : Int)))
  fun x => [(true, .exit 2, crcinSt (itB 8 (BitVec.ofInt 32 x.1.1)) x.1.2.1 x.1.2.2.1 x.1.2.2.2.1 8)]
theorem crcin_go (x : Int) (hx : In .u32 x) (b : List Int) (n i : Int) : ∃ m, rounds (env []) H.crc_More 0 (LPof []) V.crc_More_7 L.crc_More_7 m ⟨[(5, .int .u32 x), (11, .vl u8T b), (12, .int .i64 n), (13, .int .i64 i), (21, .int .i64 0)], [], 0⟩ (fun e s => some (e, s)) =
    some (.exit 2, crcinSt (itB 8 (BitVec.ofInt 32 x)) b n i 8) := by
  obtain ⟨v, rfl⟩ := u32_bv hx
  rw [ofInt_bv]
  exact ⟨9, crcin_loop b n i _ 8 0 v (by omega)⟩
theorem crcin_lok : LoopOK P0 H.crc_More 0 L.crc_More_7 crcinLC :=
  loop_ok_of (env_ok env_nil) glob0 mixed0 noLoops V.crc_More_7 (by decide) fun ⟨⟨x, b, n, i, k, _⟩, _⟩ h hw => by
    obtain rfl := of_decide_eq_true h
    exact crcin_go x hw.1.1 b n i
theorem crc_rd {R : Type} (x : Int) (b : List Int) (n i : Int) (K : Ex → St → Option R) : roundK (env []) H.crc_More 0 (LPof [(7, crcinLC)]) V.crc_More_3 L.crc_More_3 ⟨[(5, .int .u32 x), (11, .vl u8T b), (12, .int .i64 n), (13, .int .i64 i)], [], 0⟩ K = bif decide (i < n) then bif decide ((0 : Int) ≤ i) && decide (i < (↑b.length : Int)) then K Ex.normal { slots := [(5, AV.int IntKind.u32 (↑(itB 8 (BitVec.ofInt 32 (IntKind.u32.wrap (↑(BitVec.ofInt 32 x ^^^ BitVec.ofInt 32 (IntKind.u32.wrap (b.getD i.toNat (0 : Int)))).toNat : Int)))).toNat : Int)), (11, AV.vl (Ty.int IntKind.u8) b), (12, AV.int IntKind.i64 n), (13, AV.int IntKind.i64 (IntKind.i64.wrap (i + (1 : Int))))], objs := [], nx := 0 } else none else K (Ex.exit 0) { slots := [(5, AV.int IntKind.u32 x), (11, AV.vl (Ty.int IntKind.u8) b), (12, AV.int IntKind.i64 n), (13, AV.int IntKind.i64 i)], objs := [], nx := 0 } := by kernel_rfl

def rcrcinSt (v : BitVec 32) (b : List Int) (i k : Int) : St := ⟨[(1, .vl u8T b), (5, .int .u32 (v.toNat : Int)), (6, .int .i64 i), (7, .int .i64 k)], [], 0⟩
theorem rcrcin_loop {R : Type} (b : List Int) (i : Int) (K : Ex → St → Option R) : ∀ (m k : Nat) (v : BitVec 32), k + m = 8 → rounds (env []) H.cooperageref1_More 0 (LPof []) V.cooperageref1_More_7 L.cooperageref1_More_7 (m + 1) (rcrcinSt v b i k) K = K (.exit 2) (rcrcinSt (itB m v) b i 8)
  | 0, k, v, h => by
    obtain rfl : k = 8 := by omega
    rw [rounds_succ']
    refine (rcrcin_rd _ _ _ _ _).trans ?_
    rw [cond_neg (by omega)]
    rfl
  | m + 1, k, v, h => by
    have ih := rcrcin_loop b i K m (k + 1) (bitB v) (by omega)
    rw [rounds_succ']
    refine (rcrcin_rd _ _ _ _ _).trans ?_
    rw [cond_pos (by omega), bit_ref1, bit_ref2, fdiv_bv, wrap64 (by omega) (by omega)]
    unfold bitB at ih
    rw [show itB (m + 1) v = itB m (bitB v) from rfl]
    unfold bitB
    cases hv : v.getLsbD 0 with
    | true => simp only [hv, cond_true] at ih; exact ih
    | false => simp only [hv, cond_false] at ih; exact ih
abbrev rcrcinLC : LoopC := LoopC.of ⟨[(1, .vl u8T), (5, .int .u32), (6, .int .i64), (7, .int .i64)], []⟩ (fun x => decide (x.1.2.2.2.1 = (0 : Int)))
  fun x => [(true, .exit 2, rcrcinSt (itB 8 (BitVec.ofInt 32 x.1.2.1)) x.1.1 x.1.2.2.1 8)]
theorem rcrcin_go (x : Int) (hx : In .u32 x) (b : List Int) (i : Int) : ∃ m, rounds (env []) H.cooperageref1_More 0 (LPof []) V.cooperageref1_More_7 L.cooperageref1_More_7 m ⟨[(1, .vl u8T b), (5, .int .u32 x), (6, .int .i64 i), (7, .int .i64 0)], [], 0⟩ (fun e s => some (e, s)) =
    some (.exit 2, rcrcinSt (itB 8 (BitVec.ofInt 32 x)) b i 8) := by
  obtain ⟨v, rfl⟩ := u32_bv hx
  rw [ofInt_bv]
  exact ⟨9, rcrcin_loop b i _ 8 0 v (by omega)⟩
theorem rcrcin_lok : LoopOK P0 H.cooperageref1_More 0 L.cooperageref1_More_7 rcrcinLC :=
  loop_ok_of (env_ok env_nil) glob0 mixed0 noLoops V.cooperageref1_More_7 (by decide) fun ⟨⟨b, x, i, k, _⟩, _⟩ h hw => by
    obtain rfl := of_decide_eq_true h
    exact rcrcin_go x hw.1.2.1 b i
theorem rcrc_rd {R : Type} (x : Int) (b : List Int) (i : Int) (K : Ex → St → Option R) : roundK (env []) H.cooperageref1_More 0 (LPof [(7, rcrcinLC)]) V.cooperageref1_More_3 L.cooperageref1_More_3 ⟨[(1, .vl u8T b), (5, .int .u32 x), (6, .int .i64 i)], [], 0⟩ K = bif decide (i < (↑b.length : Int)) then bif decide ((0 : Int) ≤ i) && decide (i < (↑b.length : Int)) then K Ex.normal { slots := [(1, AV.vl (Ty.int IntKind.u8) b), (5, AV.int IntKind.u32 (↑(itB 8 (BitVec.ofInt 32 (IntKind.u32.wrap (↑(BitVec.ofInt 32 x ^^^ BitVec.ofInt 32 (IntKind.u32.wrap (b.getD i.toNat (0 : Int)))).toNat : Int)))).toNat : Int)), (6, AV.int IntKind.i64 (IntKind.i64.wrap (i + (1 : Int))))], objs := [], nx := 0 } else none else K (Ex.exit 0) { slots := [(1, AV.vl (Ty.int IntKind.u8) b), (5, AV.int IntKind.u32 x), (6, AV.int IntKind.i64 i)], objs := [], nx := 0 } := by kernel_rfl

theorem u32_byte {c : Int} (h : In .u8 c) : IntKind.u32.wrap c = c := by have := In.u8'.1 h; exact wrap_in (In.u32.2 ⟨by omega, by omega⟩)
theorem drop_one {b r : List Int} {i : Nat} {c : Int} (hr : b.drop i = c :: r) : i < b.length ∧ b.getD i 0 = c ∧ b.drop (i + 1) = r := by
  refine ⟨?_, ?_, ?_⟩
  · have := congrArg List.length hr; simp at this; omega
  · have := congrArg (fun l => l.getD 0 (0 : Int)) hr
    simpa [List.getD_eq_getElem?_getD] using this
  · rw [show b.drop (i + 1) = (b.drop i).drop 1 by rw [List.drop_drop], hr]; rfl
def crcSt (v : BitVec 32) (b : List Int) (i : Nat) : St := ⟨[(5, .int .u32 (v.toNat : Int)), (11, .vl u8T b), (12, .int .i64 b.length), (13, .int .i64 i)], [], 0⟩
theorem crc_rounds {R : Type} (K : Ex → St → Option R) (b : List Int) (hm : b.length ≤ 9223372036854775807) : ∀ (r : List Int) (i : Nat) (v : BitVec 32), b.drop i = r → i ≤ b.length → (∀ c ∈ r, In .u8 c) →
    ∃ m, rounds (env []) H.crc_More 0 (LPof [(7, crcinLC)]) V.crc_More_3 L.crc_More_3 m (crcSt v b i) K = K (.exit 0) (crcSt (crcB v r) b b.length)
  | [], i, v, hr, hl, hb => by
    have : i = b.length := by have := congrArg List.length hr; simp at this; omega
    refine ⟨1, ?_⟩
    rw [rounds_succ']
    refine (crc_rd _ _ _ _ _).trans ?_
    rw [cond_neg (by omega), this]
    rfl
  | c :: r, i, v, hr, hl, hb => by
    obtain ⟨h1, h2, h3⟩ := drop_one hr
    obtain ⟨m, hm'⟩ := crc_rounds K b hm r (i + 1) (byteB v c) h3 (by omega) (fun x hx => hb x (List.mem_cons_of_mem _ hx))
    refine ⟨m + 1, ?_⟩
    rw [rounds_succ']
    refine (crc_rd _ _ _ _ _).trans ?_
    rw [cond_pos (by omega), cond_pos2 (by omega) (by omega), Int.toNat_natCast, h2, u32_byte (hb c (by simp)), ofInt_bv, wrap_bv, ofInt_bv, wrap64 (by omega) (by omega)]
    exact hm'
abbrev crcLC : LoopC := LoopC.of ⟨[(5, .int .u32), (11, .vl u8T), (12, .int .i64), (13, .int .i64)], []⟩ (fun x => decide (x.1.2.2.1 = (List.length x.1.2.1 : Int)) && decide (x.1.2.2.2.1 = (0 : Int)))
  fun x => [(true, .exit 0, crcSt (crcB (BitVec.ofInt 32 x.1.1) x.1.2.1) x.1.2.1 (List.length x.1.2.1))]
theorem crc_go (x : Int) (hx : In .u32 x) (b : List Int) (hm : b.length ≤ maxL) (hb : ∀ c ∈ b, In .u8 c) : ∃ m, rounds (env []) H.crc_More 0 (LPof [(7, crcinLC)]) V.crc_More_3 L.crc_More_3 m ⟨[(5, .int .u32 x), (11, .vl u8T b), (12, .int .i64 b.length), (13, .int .i64 0)], [], 0⟩ (fun e s => some (e, s)) =
    some (.exit 0, crcSt (crcB (BitVec.ofInt 32 x) b) b b.length) := by
  obtain ⟨v, rfl⟩ := u32_bv hx
  rw [ofInt_bv]
  exact crc_rounds _ b hm b 0 v rfl (by omega) hb
theorem crcin_lg {R : Type} : LoopsGood P0 H.crc_More 0 (LPof (R := R) [(7, crcinLC)]) L.crc_More_3 := loops_good (tab := [(7, crcinLC)]) (by kernel_rfl) (fun x hx => by simp at hx; subst hx; exact crcin_lok)
theorem crc_lok : LoopOK P0 H.crc_More 0 L.crc_More_3 crcLC :=
  loop_ok_of (env_ok env_nil) glob0 mixed0 crcin_lg V.crc_More_3 (by decide) fun ⟨⟨x, b, n, i, _⟩, _⟩ h hw => by
    simp only [Bool.and_eq_true, decide_eq_true_eq] at h
    obtain ⟨rfl, rfl⟩ := h
    exact crc_go x hw.1.1 b hw.1.2.1.1 hw.1.2.1.2
def rcrcSt (v : BitVec 32) (b : List Int) (i : Nat) : St := ⟨[(1, .vl u8T b), (5, .int .u32 (v.toNat : Int)), (6, .int .i64 i)], [], 0⟩
theorem rcrc_rounds {R : Type} (K : Ex → St → Option R) (b : List Int) (hm : b.length ≤ 9223372036854775807) : ∀ (r : List Int) (i : Nat) (v : BitVec 32), b.drop i = r → i ≤ b.length → (∀ c ∈ r, In .u8 c) →
    ∃ m, rounds (env []) H.cooperageref1_More 0 (LPof [(7, rcrcinLC)]) V.cooperageref1_More_3 L.cooperageref1_More_3 m (rcrcSt v b i) K = K (.exit 0) (rcrcSt (crcB v r) b b.length)
  | [], i, v, hr, hl, hb => by
    have : i = b.length := by have := congrArg List.length hr; simp at this; omega
    refine ⟨1, ?_⟩
    rw [rounds_succ']
    refine (rcrc_rd _ _ _ _).trans ?_
    rw [cond_neg (by omega), this]
    rfl
  | c :: r, i, v, hr, hl, hb => by
    obtain ⟨h1, h2, h3⟩ := drop_one hr
    obtain ⟨m, hm'⟩ := rcrc_rounds K b hm r (i + 1) (byteB v c) h3 (by omega) (fun x hx => hb x (List.mem_cons_of_mem _ hx))
    refine ⟨m + 1, ?_⟩
    rw [rounds_succ']
    refine (rcrc_rd _ _ _ _).trans ?_
    rw [cond_pos (by omega), cond_pos2 (by omega) (by omega), Int.toNat_natCast, h2, u32_byte (hb c (by simp)), ofInt_bv, wrap_bv, ofInt_bv, wrap64 (by omega) (by omega)]
    exact hm'
abbrev rcrcLC : LoopC := LoopC.of ⟨[(1, .vl u8T), (5, .int .u32), (6, .int .i64)], []⟩ (fun x => decide (x.1.2.2.1 = (0 : Int)))
  fun x => [(true, .exit 0, rcrcSt (crcB (BitVec.ofInt 32 x.1.2.1) x.1.1) x.1.1 (List.length x.1.1))]
theorem rcrc_go (x : Int) (hx : In .u32 x) (b : List Int) (hm : b.length ≤ maxL) (hb : ∀ c ∈ b, In .u8 c) : ∃ m, rounds (env []) H.cooperageref1_More 0 (LPof [(7, rcrcinLC)]) V.cooperageref1_More_3 L.cooperageref1_More_3 m ⟨[(1, .vl u8T b), (5, .int .u32 x), (6, .int .i64 0)], [], 0⟩ (fun e s => some (e, s)) =
    some (.exit 0, rcrcSt (crcB (BitVec.ofInt 32 x) b) b b.length) := by
  obtain ⟨v, rfl⟩ := u32_bv hx
  rw [ofInt_bv]
  exact rcrc_rounds _ b hm b 0 v rfl (by omega) hb
theorem rcrcin_lg {R : Type} : LoopsGood P0 H.cooperageref1_More 0 (LPof (R := R) [(7, rcrcinLC)]) L.cooperageref1_More_3 := loops_good (tab := [(7, rcrcinLC)]) (by kernel_rfl) (fun x hx => by simp at hx; subst hx; exact rcrcin_lok)
theorem rcrc_lok : LoopOK P0 H.cooperageref1_More 0 L.cooperageref1_More_3 rcrcLC :=
  loop_ok_of (env_ok env_nil) glob0 mixed0 rcrcin_lg V.cooperageref1_More_3 (by decide) fun ⟨⟨b, x, i, _⟩, _⟩ h hw => by
    obtain rfl := of_decide_eq_true h
    exact rcrc_go x hw.1.2.1 b hw.1.1.1 hw.1.1.2
theorem crcm_ev (x : Int) (b : List Int) : evFn (env []) H.crc_More (LPof [(3, crcLC)]) F.crc_More [.int .u32 x, .vl u8T b] [] (finT [.int .u32]) = bif decide ((↑b.length : Int) = (↑b.length : Int)) && true && true then some (IntKind.u32.wrap (↑(BitVec.ofInt 32 (4294967295 : Int) ^^^ BitVec.ofInt 32 (↑(crcB (BitVec.ofInt 32 (IntKind.u32.wrap (↑(BitVec.ofInt 32 (4294967295 : Int) ^^^ BitVec.ofInt 32 x).toNat : Int))) b).toNat : Int)).toNat : Int), ()) else none := by kernel_rfl

theorem rcrcm_ev (x : Int) (b : List Int) : evFn (env []) H.cooperageref1_More (LPof [(3, rcrcLC)]) F.cooperageref1_More [.int .u32 x, .vl u8T b] [] (finT [.int .u32]) = some (IntKind.u32.wrap (↑(BitVec.ofInt 32 (4294967295 : Int) ^^^ BitVec.ofInt 32 (↑(crcB (BitVec.ofInt 32 (IntKind.u32.wrap (↑(BitVec.ofInt 32 (4294967295 : Int) ^^^ BitVec.ofInt 32 x).toNat : Int))) b).toNat : Int)).toNat : Int), ()) := by kernel_rfl

theorem ones_xor (v : BitVec 32) : BitVec.ofInt 32 4294967295 ^^^ v = ~~~ v := by
  rw [show BitVec.ofInt 32 4294967295 = BitVec.allOnes 32 from rfl, BitVec.allOnes_xor]
def caseCrcM : PCase := ⟨[.ty (.int .u32), .ty (.sl u8T)], [.int .u32], fun x => (fun (x : Int) (b : List Int) => [(true, (((~~~ crcB (~~~ BitVec.ofInt 32 x) b).toNat : Int), ()))]) x.1 x.2.1⟩
theorem crcm_val (x : Int) (b : List Int) : evFn (env []) H.crc_More (LPof [(3, crcLC)]) F.crc_More [.int .u32 x, .vl u8T b] [] (finT [.int .u32]) = some (((~~~ crcB (~~~ BitVec.ofInt 32 x) b).toNat : Int), ()) := by
  rw [crcm_ev]
  simp only [decide_true, Bool.and_true, cond_true, ones_xor, wrap_bv, ofInt_bv]
theorem crcm_ok : caseCrcM.ok P0 I.crc_More := case_ok2 (H := H.crc_More) (E := env []) (env_ok env_nil) glob0 mixed0 G.crc_More Bd.crc_More (by kernel_rfl) (loops_good (tab := [(3, crcLC)]) (by kernel_rfl) (fun x hx => by simp at hx; subst hx; exact crc_lok)) fun ⟨x, b, ()⟩ y h hw => by
  obtain ⟨hc, rfl⟩ := pick_pre h
  exact crcm_val x b
def caseRcrcM : PCase := ⟨[.ty (.int .u32), .ty (.sl u8T)], [.int .u32], fun x => (fun (x : Int) (b : List Int) => [(true, (((~~~ crcB (~~~ BitVec.ofInt 32 x) b).toNat : Int), ()))]) x.1 x.2.1⟩
theorem rcrcm_val (x : Int) (b : List Int) : evFn (env []) H.cooperageref1_More (LPof [(3, rcrcLC)]) F.cooperageref1_More [.int .u32 x, .vl u8T b] [] (finT [.int .u32]) = some (((~~~ crcB (~~~ BitVec.ofInt 32 x) b).toNat : Int), ()) := by
  rw [rcrcm_ev]
  simp only [ones_xor, wrap_bv, ofInt_bv]
theorem rcrcm_ok : caseRcrcM.ok P0 I.cooperageref1_More := case_ok2 (H := H.cooperageref1_More) (E := env []) (env_ok env_nil) glob0 mixed0 G.cooperageref1_More Bd.cooperageref1_More (by kernel_rfl) (loops_good (tab := [(3, rcrcLC)]) (by kernel_rfl) (fun x hx => by simp at hx; subst hx; exact rcrc_lok)) fun ⟨x, b, ()⟩ y h hw => by
  obtain ⟨hc, rfl⟩ := pick_pre h
  exact rcrcm_val x b
noncomputable abbrev consF1 : List (FuncId × Con) := [(I.crc_More, .pure (pureOf [caseCrcM])), (I.cooperageref1_More, .pure (pureOf [caseRcrcM]))]
theorem consF1_ok : ∀ x ∈ consF1, HoldsC P0 x.1 x.2 := by
  intro x hx
  simp at hx
  rcases hx with rfl | rfl
  · exact ⟨pureOf_holds (by simp; exact crcm_ok), C.crc_More⟩
  · exact ⟨pureOf_holds (by simp; exact rcrcm_ok), C.cooperageref1_More⟩
theorem crcs_ev (b : List Int) : evFn (env consF1) H.crc_Sum (LPof []) F.crc_Sum [.vl u8T b] [] (finT [.int .u32]) = some ((↑(~~~crcB (~~~BitVec.ofInt 32 (0 : Int)) b).toNat : Int), ()) := by kernel_rfl

theorem rcrcs_ev (b : List Int) : evFn (env consF1) H.cooperageref1_Sum (LPof []) F.cooperageref1_Sum [.vl u8T b] [] (finT [.int .u32]) = some ((↑(~~~crcB (~~~BitVec.ofInt 32 (0 : Int)) b).toNat : Int), ()) := by kernel_rfl

def sumI (b : List Int) : Int := (sumB b).toNat
theorem sum0 (b : List Int) : ((~~~ crcB (~~~ BitVec.ofInt 32 0) b).toNat : Int) = sumI b := rfl
def caseCrcS : PCase := ⟨[.ty (.sl u8T)], [.int .u32], fun x => (fun (b : List Int) => [(true, (sumI b, ()))]) x.1⟩
theorem crcs_val (b : List Int) : evFn (env consF1) H.crc_Sum (LPof []) F.crc_Sum [.vl u8T b] [] (finT [.int .u32]) = some (sumI b, ()) := by
  rw [crcs_ev, sum0]
theorem crcs_ok : caseCrcS.ok P0 I.crc_Sum := case_ok2 (H := H.crc_Sum) (E := env consF1) (env_ok consF1_ok) glob0 mixed0 G.crc_Sum Bd.crc_Sum (by kernel_rfl) noLoops fun ⟨b, ()⟩ y h hw => by
  obtain ⟨hc, rfl⟩ := pick_pre h
  exact crcs_val b
def caseRcrcS : PCase := ⟨[.ty (.sl u8T)], [.int .u32], fun x => (fun (b : List Int) => [(true, (sumI b, ()))]) x.1⟩
theorem rcrcs_val (b : List Int) : evFn (env consF1) H.cooperageref1_Sum (LPof []) F.cooperageref1_Sum [.vl u8T b] [] (finT [.int .u32]) = some (sumI b, ()) := by
  rw [rcrcs_ev, sum0]
theorem rcrcs_ok : caseRcrcS.ok P0 I.cooperageref1_Sum := case_ok2 (H := H.cooperageref1_Sum) (E := env consF1) (env_ok consF1_ok) glob0 mixed0 G.cooperageref1_Sum Bd.cooperageref1_Sum (by kernel_rfl) noLoops fun ⟨b, ()⟩ y h hw => by
  obtain ⟨hc, rfl⟩ := pick_pre h
  exact rcrcs_val b
theorem writ_ev (x : Int) : evFn (env []) H.frame_written (LPof []) F.frame_written [.int .u32 x] [] (finT [.sl u8T]) = some ([IntKind.u8.wrap (x.fdiv (16777216 : Int)), IntKind.u8.wrap (x.fdiv (65536 : Int)), IntKind.u8.wrap (x.fdiv (256 : Int)), IntKind.u8.wrap x], ()) := by kernel_rfl

def writI (x : Int) : List Int := [IntKind.u8.wrap (x.fdiv 16777216), IntKind.u8.wrap (x.fdiv 65536), IntKind.u8.wrap (x.fdiv 256), IntKind.u8.wrap x]
def caseWrit : PCase := ⟨[.ty (.int .u32)], [.sl u8T], fun x => (fun (x : Int) => [(true, (writI x, ()))]) x.1⟩
theorem writ_val (x : Int) : evFn (env []) H.frame_written (LPof []) F.frame_written [.int .u32 x] [] (finT [.sl u8T]) = some (writI x, ()) := by
  exact writ_ev x
theorem writ_ok : caseWrit.ok P0 I.frame_written := case_ok2 (H := H.frame_written) (E := env []) (env_ok env_nil) glob0 mixed0 G.frame_written Bd.frame_written (by kernel_rfl) noLoops fun ⟨x, ()⟩ y h hw => by
  obtain ⟨hc, rfl⟩ := pick_pre h
  exact writ_val x
theorem rput_rd {R : Type} (x : Int) (o : List Int) (K : Ex → St → Option R) : roundK (env []) H.cooperageref1_Put 0 (LPof []) V.cooperageref1_Put_2 L.cooperageref1_Put_2 ⟨[(0, .hw 0), (1, .int .u64 x)], [(0, .arr 1 (.int .u8) o [])], 1⟩ K = bif decide (x > (127 : Int)) then bif decide ((o ++ [IntKind.u8.wrap (↑(BitVec.ofInt 8 (IntKind.u8.wrap (IntKind.u64.wrap (↑(BitVec.ofInt 64 x &&& BitVec.ofInt 64 (127 : Int)).toNat : Int))) ||| BitVec.ofInt 8 (128 : Int)).toNat : Int)]).length * 1 ≤ 140737488355328) then K Ex.normal { slots := [(0, AV.hw 0), (1, AV.int IntKind.u64 (x.fdiv (128 : Int)))], objs := [(0, AObj.arr 1 (Ty.int IntKind.u8) (o ++ [IntKind.u8.wrap (↑(BitVec.ofInt 8 (IntKind.u8.wrap (IntKind.u64.wrap (↑(BitVec.ofInt 64 x &&& BitVec.ofInt 64 (127 : Int)).toNat : Int))) ||| BitVec.ofInt 8 (128 : Int)).toNat : Int)]) [])], nx := 1 } else none else K (Ex.exit 0) { slots := [(0, AV.hw 0), (1, AV.int IntKind.u64 x)], objs := [(0, AObj.arr 1 (Ty.int IntKind.u8) o [])], nx := 1 } := by kernel_rfl

theorem put_byte7 {x : Int} (h : 0 ≤ x) : IntKind.u8.wrap (((BitVec.ofInt 8 (IntKind.u8.wrap (IntKind.u64.wrap (((BitVec.ofInt 64 x &&& BitVec.ofInt 64 127).toNat : Nat) : Int))) ||| BitVec.ofInt 8 128).toNat : Nat) : Int) = ((x.toNat % 128 + 128 : Nat) : Int) := by
  have e : (BitVec.ofInt 64 x &&& BitVec.ofInt 64 127).toNat = x.toNat % 128 := by
    rw [BitVec.toNat_and, show (BitVec.ofInt 64 127).toNat = 2 ^ 7 - 1 by rfl, Nat.and_two_pow_sub_one_eq_mod, BitVec.toNat_ofInt]
    omega
  have e2 : IntKind.u64.wrap ((x.toNat % 128 : Nat) : Int) = ((x.toNat % 128 : Nat) : Int) := by rw [wrapu64_mod]; omega
  rw [e, e2, put_byte (by omega), Int.toNat_natCast]
  omega
def rputSt (x : Int) (o : List Int) : St := ⟨[(0, .hw 0), (1, .int .u64 x)], [(0, .arr 1 (.int .u8) o [])], 1⟩
theorem rput_rounds {R : Type} (K : Ex → St → Option R) : ∀ (n : Nat) (o : List Int), o.length + (preN n).length < 140737488355328 →
    ∃ m, rounds (env []) H.cooperageref1_Put 0 (LPof []) V.cooperageref1_Put_2 L.cooperageref1_Put_2 m (rputSt n o) K = K (.exit 0) (rputSt (lastN n) (o ++ preN n)) := by
  intro n
  induction n using Nat.strongRecOn with
  | ind n ih =>
    intro o ho
    by_cases h : n < 128
    · refine ⟨1, ?_⟩
      rw [rounds_succ']
      refine (rput_rd _ _ _).trans ?_
      rw [cond_neg (by omega), lastN_lt h, preN_lt h, List.append_nil]
      rfl
    · rw [preN_ge h, List.length_cons] at ho
      obtain ⟨m, hm⟩ := ih (n / 128) (by omega) (o ++ [((n % 128 + 128 : Nat) : Int)]) (by simp only [List.length_append, List.length_cons, List.length_nil]; omega)
      refine ⟨m + 1, ?_⟩
      rw [rounds_succ']
      refine (rput_rd _ _ _).trans ?_
      have e1 := put_byte7 (x := (n : Int)) (by omega)
      have e2 := fdiv128 (x := (n : Int)) (by omega)
      rw [Int.toNat_natCast] at e1 e2
      rw [cond_pos (by omega), e1, e2, cond_pos (by simp only [List.length_append, List.length_cons, List.length_nil]; omega), lastN_ge h, preN_ge h]
      refine Eq.trans hm ?_
      rw [List.append_assoc]
      rfl
abbrev rputLC : LoopC := LoopC.of ⟨[(0, .lit (.hw 0)), (1, .int .u64)], [.arr 1 (.int .u8) []]⟩ (fun x => decide (x.2.1.1.length ≤ 140737488355000))
    fun x => [(true, .exit 0, rputSt (lastN x.1.2.1.toNat) (x.2.1.1 ++ preN x.1.2.1.toNat))]
theorem rput_go (x : Int) (o : List Int) (h : o.length ≤ 140737488355000) (hx : In .u64 x) : ∃ n, rounds (env []) H.cooperageref1_Put 0 (LPof []) V.cooperageref1_Put_2 L.cooperageref1_Put_2 n (rputSt x o) (fun e s => some (e, s)) = some (.exit 0, rputSt (lastN x.toNat) (o ++ preN x.toNat)) := by
  have hx := In.u64.1 hx
  have h9 := preN_len9 (n := x.toNat) (by omega)
  obtain ⟨m, hm⟩ := rput_rounds (fun e s => some (e, s)) x.toNat o (by omega)
  have e : ((x.toNat : Nat) : Int) = x := by omega
  rw [e] at hm
  exact ⟨m, hm⟩
theorem rput_lok : LoopOK P0 H.cooperageref1_Put 0 L.cooperageref1_Put_2 rputLC :=
  loop_ok_of (env_ok env_nil) glob0 mixed0 noLoops V.cooperageref1_Put_2 (by decide) fun ⟨⟨_, x, _⟩, ⟨⟨o, _⟩, _⟩⟩ h hw => rput_go x o (of_decide_eq_true h) hw.1.2.1
theorem rput_ev (b : List Int) (x : Int) : evFn (env []) H.cooperageref1_Put (LPof [(2, rputLC)]) F.cooperageref1_Put [.vl u8T b, .int .u64 x] [] (finV (.lit (.hw 0)) [.arr 1 u8T []] 0) = bif decide (b.length * 1 ≤ 140737488355328) then bif decide (b.length ≤ 140737488355000) && true then bif decide ((b ++ preN x.toNat ++ [IntKind.u8.wrap (↑(lastN x.toNat) : Int)]).length * 1 ≤ 140737488355328) then some ((), (b ++ preN x.toNat ++ [IntKind.u8.wrap (↑(lastN x.toNat) : Int)], ()), ()) else none else none else none := by kernel_rfl

def caseRput : VCase := ⟨[.vl u8T, .int .u64], [], .lit (.hw 0), [.arr 1 u8T []], fun ⟨b, x, ()⟩ () => [(decide (b.length ≤ 140737488355000), ((), ((b ++ putN x.toNat, ()), ())))]⟩
theorem rput_val (b : List Int) (x : Int) (hc : (decide (b.length ≤ 140737488355000)) = true) (hx : In .u64 x) : evFn (env []) H.cooperageref1_Put (LPof [(2, rputLC)]) F.cooperageref1_Put [.vl u8T b, .int .u64 x] [] (finV (.lit (.hw 0)) [.arr 1 u8T []] 0) = some ((), ((b ++ putN x.toNat, ()), ())) := by
  have hb := of_decide_eq_true hc
  have h9 := preN_len9 (n := x.toNat) (by have := (In.u64.1 hx).2; have := (In.u64.1 hx).1; omega)
  rw [rput_ev, cond_pos (by omega), hc, Bool.true_and, cond_true, cond_pos (by simp only [List.length_append, List.length_cons, List.length_nil]; omega), lastN_byte, List.append_assoc]
  rfl
theorem rput_ok : caseRput.e.ok P0 I.cooperageref1_Put := vcase_ok (c := caseRput) (H := H.cooperageref1_Put) (E := env []) (env_ok env_nil) glob0 mixed0 G.cooperageref1_Put Bd.cooperageref1_Put (by kernel_rfl) (loops_good (tab := [(2, rputLC)]) (by kernel_rfl) (fun x hx => by simp at hx; subst hx; exact rput_lok)) fun ⟨b, x, ()⟩ () r h hw1 hw2 => by
  obtain ⟨hc, rfl⟩ := pick_pre h
  exact rput_val b x hc hw1.2.1
noncomputable abbrev consF2 : List (FuncId × Con) := [(I.crc_Sum, .pure (pureOf [caseCrcS])), (I.cooperageref1_Sum, .pure (pureOf [caseRcrcS])), (I.frame_written, .pure (pureOf [caseWrit])), (I.cooperageref1_Put, .eff (effOf [caseRput.e])), (I.varint_Put, .eff (effOf [caseVput.e]))]
theorem consF2_ok : ∀ x ∈ consF2, HoldsC P0 x.1 x.2 := by
  intro x hx
  simp at hx
  rcases hx with rfl | rfl | rfl | rfl | rfl
  · exact ⟨pureOf_holds (by simp; exact crcs_ok), C.crc_Sum⟩
  · exact ⟨pureOf_holds (by simp; exact rcrcs_ok), C.cooperageref1_Sum⟩
  · exact ⟨pureOf_holds (by simp; exact writ_ok), C.frame_written⟩
  · exact ⟨fun args objs r objs2 h _ => effOf_holds (by simp; exact rput_ok) args objs r objs2 h, C.cooperageref1_Put⟩
  · exact ⟨fun args objs r objs2 h _ => effOf_holds (by simp; exact vput_ok) args objs r objs2 h, C.varint_Put⟩
theorem fput_ev (b p : List Int) : evFn (env consF2) H.frame_Put (LPof []) F.frame_Put [.vl u8T b, .vl u8T p] [] (finT [.sl u8T]) = bif decide (b.length ≤ 140737488355000) then bif decide ((b ++ putN (IntKind.u64.wrap (↑p.length : Int)).toNat ++ writI (sumI p)).length * 1 ≤ 140737488355328) then bif decide ((b ++ putN (IntKind.u64.wrap (↑p.length : Int)).toNat ++ writI (sumI p) ++ p).length * 1 ≤ 140737488355328) then some (b ++ putN (IntKind.u64.wrap (↑p.length : Int)).toNat ++ writI (sumI p) ++ p, ()) else none else none else none := by kernel_rfl

theorem rfput_ev (b p : List Int) : evFn (env consF2) H.cooperageref1_PutFrame (LPof []) F.cooperageref1_PutFrame [.vl u8T b, .vl u8T p] [] (finT [.sl u8T]) = bif decide (b.length ≤ 140737488355000) then bif decide ((b ++ putN (IntKind.u64.wrap (↑p.length : Int)).toNat ++ [IntKind.u8.wrap ((sumI p).fdiv (16777216 : Int)), IntKind.u8.wrap ((sumI p).fdiv (65536 : Int)), IntKind.u8.wrap ((sumI p).fdiv (256 : Int)), IntKind.u8.wrap (sumI p)]).length * 1 ≤ 140737488355328) then bif decide ((b ++ putN (IntKind.u64.wrap (↑p.length : Int)).toNat ++ [IntKind.u8.wrap ((sumI p).fdiv (16777216 : Int)), IntKind.u8.wrap ((sumI p).fdiv (65536 : Int)), IntKind.u8.wrap ((sumI p).fdiv (256 : Int)), IntKind.u8.wrap (sumI p)] ++ p).length * 1 ≤ 140737488355328) then some (b ++ putN (IntKind.u64.wrap (↑p.length : Int)).toNat ++ [IntKind.u8.wrap ((sumI p).fdiv (16777216 : Int)), IntKind.u8.wrap ((sumI p).fdiv (65536 : Int)), IntKind.u8.wrap ((sumI p).fdiv (256 : Int)), IntKind.u8.wrap (sumI p)] ++ p, ()) else none else none else none := by kernel_rfl

def frameE (p : List Int) : List Int := putN p.length ++ writI (sumI p) ++ p
theorem writI_len (x : Int) : (writI x).length = 4 := rfl
def caseFput : PCase := ⟨[.ty (.sl u8T), .ty (.sl u8T)], [.sl u8T], fun x => (fun (b p : List Int) => [(decide (b.length + p.length ≤ 140737488350000), (b ++ frameE p, ()))]) x.1 x.2.1⟩
theorem fput_val (b p : List Int) (hc : (decide (b.length + p.length ≤ 140737488350000)) = true) : evFn (env consF2) H.frame_Put (LPof []) F.frame_Put [.vl u8T b, .vl u8T p] [] (finT [.sl u8T]) = some (b ++ frameE p, ()) := by
  have h := of_decide_eq_true hc
  have h9 := putN_len (n := p.length) (by omega)
  rw [fput_ev, wrapu64 (by omega) (by omega), Int.toNat_natCast, cond_pos (by omega), cond_pos (by simp only [List.length_append, writI_len]; omega), cond_pos (by simp only [List.length_append, writI_len]; omega)]
  unfold frameE
  simp only [List.append_assoc]
theorem fput_ok : caseFput.ok P0 I.frame_Put := case_ok2 (H := H.frame_Put) (E := env consF2) (env_ok consF2_ok) glob0 mixed0 G.frame_Put Bd.frame_Put (by kernel_rfl) noLoops fun ⟨b, p, ()⟩ y h hw => by
  obtain ⟨hc, rfl⟩ := pick_pre h
  exact fput_val b p hc
def caseRfput : PCase := ⟨[.ty (.sl u8T), .ty (.sl u8T)], [.sl u8T], fun x => (fun (b p : List Int) => [(decide (b.length + p.length ≤ 140737488350000), (b ++ frameE p, ()))]) x.1 x.2.1⟩
theorem rfput_val (b p : List Int) (hc : (decide (b.length + p.length ≤ 140737488350000)) = true) : evFn (env consF2) H.cooperageref1_PutFrame (LPof []) F.cooperageref1_PutFrame [.vl u8T b, .vl u8T p] [] (finT [.sl u8T]) = some (b ++ frameE p, ()) := by
  have h := of_decide_eq_true hc
  have h9 := putN_len (n := p.length) (by omega)
  rw [rfput_ev, wrapu64 (by omega) (by omega), Int.toNat_natCast]
  have e : [IntKind.u8.wrap ((sumI p).fdiv 16777216), IntKind.u8.wrap ((sumI p).fdiv 65536), IntKind.u8.wrap ((sumI p).fdiv 256), IntKind.u8.wrap (sumI p)] = writI (sumI p) := rfl
  rw [e, cond_pos (by omega), cond_pos (by simp only [List.length_append, writI_len]; omega), cond_pos (by simp only [List.length_append, writI_len]; omega)]
  unfold frameE
  simp only [List.append_assoc]
theorem rfput_ok : caseRfput.ok P0 I.cooperageref1_PutFrame := case_ok2 (H := H.cooperageref1_PutFrame) (E := env consF2) (env_ok consF2_ok) glob0 mixed0 G.cooperageref1_PutFrame Bd.cooperageref1_PutFrame (by kernel_rfl) noLoops fun ⟨b, p, ()⟩ y h hw => by
  obtain ⟨hc, rfl⟩ := pick_pre h
  exact rfput_val b p hc
end Go.Sim.XU
namespace Go.Sim.XU
set_option linter.unusedSimpArgs false
set_option linter.unusedVariables false
set_option maxRecDepth 10000
noncomputable abbrev consR1 : List (FuncId × Con) := [(I.record_Right, .pure (pureOf [caseRecright])), (I.varint_Put, .eff (effOf [caseVput.e])), (I.varint_Fold, .pure (pureOf [caseFold]))]
theorem consR1_ok : ∀ x ∈ consR1, HoldsC P0 x.1 x.2 := by
  intro x hx
  simp at hx
  rcases hx with rfl | rfl | rfl
  · exact ⟨pureOf_holds (by simp; exact recright_ok), C.record_Right⟩
  · exact ⟨fun args objs r objs2 h _ => effOf_holds (by simp; exact vput_ok) args objs r objs2 h, C.varint_Put⟩
  · exact ⟨pureOf_holds (by simp; exact vfold_ok), C.varint_Fold⟩
theorem recput_ev (b : List Int) (r : Rec) : evFn (env consR1) H.record_Put (LPof []) F.record_Put [.vl u8T b, valOf recT r] [] (finV (.lit (.hw 0)) [.arr 1 u8T []] 0) = bif decide (b.length * 1 ≤ 140737488355328) then bif !recR r then some ((), (b, ()), ()) else bif decide (b.length ≤ 140737488355000) then bif decide (List.length (b ++ putN (IntKind.u64.wrap r.fst).toNat) ≤ 140737488355000) then bif r.snd.snd.snd.snd then bif decide ((b ++ putN (IntKind.u64.wrap r.fst).toNat ++ putN (foldV r.snd.fst).toNat ++ [(1 : Int)]).length * 1 ≤ 140737488355328) then bif decide ((b ++ putN (IntKind.u64.wrap r.fst).toNat ++ putN (foldV r.snd.fst).toNat ++ [(1 : Int)]).length ≤ 140737488355000) then bif decide ((b ++ putN (IntKind.u64.wrap r.fst).toNat ++ putN (foldV r.snd.fst).toNat ++ [(1 : Int)] ++ putN (IntKind.u64.wrap (↑(List.length r.snd.snd.fst) : Int)).toNat ++ bytesOf r.snd.snd.fst).length * 1 ≤ 140737488355328) then bif decide ((b ++ putN (IntKind.u64.wrap r.fst).toNat ++ putN (foldV r.snd.fst).toNat ++ [(1 : Int)] ++ putN (IntKind.u64.wrap (↑(List.length r.snd.snd.fst) : Int)).toNat ++ bytesOf r.snd.snd.fst).length ≤ 140737488355000) then bif decide ((b ++ putN (IntKind.u64.wrap r.fst).toNat ++ putN (foldV r.snd.fst).toNat ++ [(1 : Int)] ++ putN (IntKind.u64.wrap (↑(List.length r.snd.snd.fst) : Int)).toNat ++ bytesOf r.snd.snd.fst ++ putN (IntKind.u64.wrap (↑(List.length r.snd.snd.snd.fst) : Int)).toNat ++ bytesOf r.snd.snd.snd.fst).length * 1 ≤ 140737488355328) then some ((), (b ++ putN (IntKind.u64.wrap r.fst).toNat ++ putN (foldV r.snd.fst).toNat ++ [(1 : Int)] ++ putN (IntKind.u64.wrap (↑(List.length r.snd.snd.fst) : Int)).toNat ++ bytesOf r.snd.snd.fst ++ putN (IntKind.u64.wrap (↑(List.length r.snd.snd.snd.fst) : Int)).toNat ++ bytesOf r.snd.snd.snd.fst, ()), ()) else none else none else none else none else none else bif decide ((b ++ putN (IntKind.u64.wrap r.fst).toNat ++ putN (foldV r.snd.fst).toNat ++ [(0 : Int)]).length * 1 ≤ 140737488355328) then bif decide ((b ++ putN (IntKind.u64.wrap r.fst).toNat ++ putN (foldV r.snd.fst).toNat ++ [(0 : Int)]).length ≤ 140737488355000) then bif decide ((b ++ putN (IntKind.u64.wrap r.fst).toNat ++ putN (foldV r.snd.fst).toNat ++ [(0 : Int)] ++ putN (IntKind.u64.wrap (↑(List.length r.snd.snd.fst) : Int)).toNat ++ bytesOf r.snd.snd.fst).length * 1 ≤ 140737488355328) then bif decide ((b ++ putN (IntKind.u64.wrap r.fst).toNat ++ putN (foldV r.snd.fst).toNat ++ [(0 : Int)] ++ putN (IntKind.u64.wrap (↑(List.length r.snd.snd.fst) : Int)).toNat ++ bytesOf r.snd.snd.fst).length ≤ 140737488355000) then bif decide ((b ++ putN (IntKind.u64.wrap r.fst).toNat ++ putN (foldV r.snd.fst).toNat ++ [(0 : Int)] ++ putN (IntKind.u64.wrap (↑(List.length r.snd.snd.fst) : Int)).toNat ++ bytesOf r.snd.snd.fst ++ putN (IntKind.u64.wrap (↑(List.length r.snd.snd.snd.fst) : Int)).toNat ++ bytesOf r.snd.snd.snd.fst).length * 1 ≤ 140737488355328) then some ((), (b ++ putN (IntKind.u64.wrap r.fst).toNat ++ putN (foldV r.snd.fst).toNat ++ [(0 : Int)] ++ putN (IntKind.u64.wrap (↑(List.length r.snd.snd.fst) : Int)).toNat ++ bytesOf r.snd.snd.fst ++ putN (IntKind.u64.wrap (↑(List.length r.snd.snd.snd.fst) : Int)).toNat ++ bytesOf r.snd.snd.snd.fst, ()), ()) else none else none else none else none else none else none else none else none := by kernel_rfl

theorem recput_go (b : List Int) (r : Rec) (hb : b.length ≤ 140737488350000) : evFn (env consR1) H.record_Put (LPof []) F.record_Put [.vl u8T b, valOf recT r] [] (finV (.lit (.hw 0)) [.arr 1 u8T []] 0) = some ((), ((putR b r, ()), ())) := by
  rw [recput_ev, cond_pos (by omega)]
  unfold putR
  cases hr : recR r with
  | false => rfl
  | true =>
    have hl := encR_len hr
    obtain ⟨o, t, k, v, d⟩ := r
    simp only [recR, Bool.and_eq_true, decide_eq_true_eq] at hr
    obtain ⟨h1, h2, h3, h4, h5, h6, h7, h8⟩ := hr
    have hk : (bytesOf k).length = k.length := by simp [bytesOf]
    have hv : (bytesOf v).length = v.length := by simp [bytesOf]
    have w1 : IntKind.u64.wrap o = o := wrapu64 (by omega) (by omega)
    have w2 : (IntKind.u64.wrap ((List.length k : Nat) : Int)).toNat = List.length k := by rw [wrapu64 (by omega) (by omega)]; omega
    have w3 : (IntKind.u64.wrap ((List.length v : Nat) : Int)).toNat = List.length v := by rw [wrapu64 (by omega) (by omega)]; omega
    simp only [encR, List.length_append, List.length_cons, List.length_nil, hk, hv] at hl
    simp only [w1, w2, w3, Bool.not_true, cond_false, cond_true, encR]
    cases d <;> simp only [cond_true, cond_false, List.append_assoc] <;>
      (repeat rw [cond_pos (by first | omega | (simp only [List.length_append, List.length_cons, List.length_nil, hk, hv]; omega))])
def caseRecput : VCase := ⟨[.vl u8T, .agg [.int .i64, .int .i64, .str, .str, .bool]], [], .lit (.hw 0), [.arr 1 u8T []], fun ⟨b, ⟨o, t, k, v, d, ()⟩, ()⟩ () => [(decide (b.length ≤ 140737488350000), ((), ((putR b (o, t, k, v, d), ()), ())))]⟩
theorem recput_val (b : List Int) (o : Int) (t : Int) (k : List UInt8) (v : List UInt8) (d : Bool) (hc : (decide (b.length ≤ 140737488350000)) = true) : evFn (env consR1) H.record_Put (LPof []) F.record_Put [.vl u8T b, .agg [.int .i64 o, .int .i64 t, .str k, .str v, .bool d]] [] (finV (.lit (.hw 0)) [.arr 1 u8T []] 0) = some ((), ((putR b (o, t, k, v, d), ()), ())) := by
  exact recput_go b (o, t, k, v, d) (of_decide_eq_true hc)
theorem recput_ok : caseRecput.e.ok P0 I.record_Put := vcase_ok (c := caseRecput) (H := H.record_Put) (E := env consR1) (env_ok consR1_ok) glob0 mixed0 G.record_Put Bd.record_Put (by kernel_rfl) noLoops fun ⟨b, ⟨o, t, k, v, d, ()⟩, ()⟩ () r h hw1 hw2 => by
  obtain ⟨hc, rfl⟩ := pick_pre h
  exact recput_val b o t k v d hc
def caseRfold : PCase := ⟨[.ty (.int .i64)], [.int .u64], fun x => (fun (n : Int) => [(true, (foldV n, ()))]) x.1⟩
theorem rfold_val (n : Int) (hn : In .i64 n) : evFn (env []) H.cooperageref1_Fold (LPof []) F.cooperageref1_Fold [.int .i64 n] [] (finT [.int .u64]) = some (foldV n, ()) := by
  have h := In.i64.1 hn
  rw [rfold_ev]
  unfold foldV
  by_cases h0 : n < 0
  · rw [cond_pos h0, wrap64 (n := n + 1) (by omega) (by omega), wrap64 (by omega) (by omega), wrapu64 (n := 0 - (n + 1)) (by omega) (by omega), wrapu64 (n := (0 - (n + 1)) * 2) (by omega) (by omega), wrapu64 (by omega) (by omega)]
    simp only [h0]
    simp
    omega
  · rw [cond_neg h0, wrapu64 (n := n) (by omega) (by omega), wrapu64 (by omega) (by omega)]
    simp only [h0]
    simp
    omega
theorem rfold_ok : caseRfold.ok P0 I.cooperageref1_Fold := case_ok2 (H := H.cooperageref1_Fold) (E := env []) (env_ok env_nil) glob0 mixed0 G.cooperageref1_Fold Bd.cooperageref1_Fold (by kernel_rfl) noLoops fun ⟨n, ()⟩ y h hw => by
  obtain ⟨hc, rfl⟩ := pick_pre h
  exact rfold_val n hw.1
noncomputable abbrev consR2 : List (FuncId × Con) := [(I.cooperageref1_Right, .pure (pureOf [caseRight1])), (I.cooperageref1_Put, .eff (effOf [caseRput.e])), (I.cooperageref1_Fold, .pure (pureOf [caseRfold]))]
theorem consR2_ok : ∀ x ∈ consR2, HoldsC P0 x.1 x.2 := by
  intro x hx
  simp at hx
  rcases hx with rfl | rfl | rfl
  · exact ⟨pureOf_holds (by simp; exact right1_ok), C.cooperageref1_Right⟩
  · exact ⟨fun args objs r objs2 h _ => effOf_holds (by simp; exact rput_ok) args objs r objs2 h, C.cooperageref1_Put⟩
  · exact ⟨pureOf_holds (by simp; exact rfold_ok), C.cooperageref1_Fold⟩
def H.rrec2 : Hint := { H.cooperageref1_PutRecord with vs := [11, 16, 29, 38, 4] }
theorem rrecput_ev (b : List Int) (r : Rec) : evFn (env consR2) H.rrec2 (LPof []) F.cooperageref1_PutRecord [.vl u8T b, valOf recT r] [] (finT [.sl u8T]) = bif decide (b.length * 1 ≤ 140737488355328) then bif !recR r then some (b, ()) else bif decide (b.length ≤ 140737488355000) then bif decide (List.length (b ++ putN (IntKind.u64.wrap r.fst).toNat) ≤ 140737488355000) then bif r.snd.snd.snd.snd then bif decide ((b ++ putN (IntKind.u64.wrap r.fst).toNat ++ putN (foldV r.snd.fst).toNat ++ [(1 : Int)]).length * 1 ≤ 140737488355328) then bif decide ((b ++ putN (IntKind.u64.wrap r.fst).toNat ++ putN (foldV r.snd.fst).toNat ++ [(1 : Int)]).length ≤ 140737488355000) then bif decide ((b ++ putN (IntKind.u64.wrap r.fst).toNat ++ putN (foldV r.snd.fst).toNat ++ [(1 : Int)] ++ putN (IntKind.u64.wrap (↑(List.length r.snd.snd.fst) : Int)).toNat ++ bytesOf r.snd.snd.fst).length * 1 ≤ 140737488355328) then bif decide ((b ++ putN (IntKind.u64.wrap r.fst).toNat ++ putN (foldV r.snd.fst).toNat ++ [(1 : Int)] ++ putN (IntKind.u64.wrap (↑(List.length r.snd.snd.fst) : Int)).toNat ++ bytesOf r.snd.snd.fst).length ≤ 140737488355000) then bif decide ((b ++ putN (IntKind.u64.wrap r.fst).toNat ++ putN (foldV r.snd.fst).toNat ++ [(1 : Int)] ++ putN (IntKind.u64.wrap (↑(List.length r.snd.snd.fst) : Int)).toNat ++ bytesOf r.snd.snd.fst ++ putN (IntKind.u64.wrap (↑(List.length r.snd.snd.snd.fst) : Int)).toNat ++ bytesOf r.snd.snd.snd.fst).length * 1 ≤ 140737488355328) then some (b ++ putN (IntKind.u64.wrap r.fst).toNat ++ putN (foldV r.snd.fst).toNat ++ [(1 : Int)] ++ putN (IntKind.u64.wrap (↑(List.length r.snd.snd.fst) : Int)).toNat ++ bytesOf r.snd.snd.fst ++ putN (IntKind.u64.wrap (↑(List.length r.snd.snd.snd.fst) : Int)).toNat ++ bytesOf r.snd.snd.snd.fst, ()) else none else none else none else none else none else bif decide ((b ++ putN (IntKind.u64.wrap r.fst).toNat ++ putN (foldV r.snd.fst).toNat ++ [(0 : Int)]).length * 1 ≤ 140737488355328) then bif decide ((b ++ putN (IntKind.u64.wrap r.fst).toNat ++ putN (foldV r.snd.fst).toNat ++ [(0 : Int)]).length ≤ 140737488355000) then bif decide ((b ++ putN (IntKind.u64.wrap r.fst).toNat ++ putN (foldV r.snd.fst).toNat ++ [(0 : Int)] ++ putN (IntKind.u64.wrap (↑(List.length r.snd.snd.fst) : Int)).toNat ++ bytesOf r.snd.snd.fst).length * 1 ≤ 140737488355328) then bif decide ((b ++ putN (IntKind.u64.wrap r.fst).toNat ++ putN (foldV r.snd.fst).toNat ++ [(0 : Int)] ++ putN (IntKind.u64.wrap (↑(List.length r.snd.snd.fst) : Int)).toNat ++ bytesOf r.snd.snd.fst).length ≤ 140737488355000) then bif decide ((b ++ putN (IntKind.u64.wrap r.fst).toNat ++ putN (foldV r.snd.fst).toNat ++ [(0 : Int)] ++ putN (IntKind.u64.wrap (↑(List.length r.snd.snd.fst) : Int)).toNat ++ bytesOf r.snd.snd.fst ++ putN (IntKind.u64.wrap (↑(List.length r.snd.snd.snd.fst) : Int)).toNat ++ bytesOf r.snd.snd.snd.fst).length * 1 ≤ 140737488355328) then some (b ++ putN (IntKind.u64.wrap r.fst).toNat ++ putN (foldV r.snd.fst).toNat ++ [(0 : Int)] ++ putN (IntKind.u64.wrap (↑(List.length r.snd.snd.fst) : Int)).toNat ++ bytesOf r.snd.snd.fst ++ putN (IntKind.u64.wrap (↑(List.length r.snd.snd.snd.fst) : Int)).toNat ++ bytesOf r.snd.snd.snd.fst, ()) else none else none else none else none else none else none else none else none := by kernel_rfl

theorem rrecput_go (b : List Int) (r : Rec) (hb : b.length ≤ 140737488350000) : evFn (env consR2) H.rrec2 (LPof []) F.cooperageref1_PutRecord [.vl u8T b, valOf recT r] [] (finT [.sl u8T]) = some (putR b r, ()) := by
  rw [rrecput_ev, cond_pos (by omega)]
  unfold putR
  cases hr : recR r with
  | false => rfl
  | true =>
    have hl := encR_len hr
    obtain ⟨o, t, k, v, d⟩ := r
    simp only [recR, Bool.and_eq_true, decide_eq_true_eq] at hr
    obtain ⟨h1, h2, h3, h4, h5, h6, h7, h8⟩ := hr
    have hk : (bytesOf k).length = k.length := by simp [bytesOf]
    have hv : (bytesOf v).length = v.length := by simp [bytesOf]
    have w1 : IntKind.u64.wrap o = o := wrapu64 (by omega) (by omega)
    have w2 : (IntKind.u64.wrap ((List.length k : Nat) : Int)).toNat = List.length k := by rw [wrapu64 (by omega) (by omega)]; omega
    have w3 : (IntKind.u64.wrap ((List.length v : Nat) : Int)).toNat = List.length v := by rw [wrapu64 (by omega) (by omega)]; omega
    simp only [encR, List.length_append, List.length_cons, List.length_nil, hk, hv] at hl
    simp only [w1, w2, w3, Bool.not_true, cond_false, cond_true, encR]
    cases d <;> simp only [cond_true, cond_false, List.append_assoc] <;>
      (repeat rw [cond_pos (by first | omega | (simp only [List.length_append, List.length_cons, List.length_nil, hk, hv]; omega))])
def caseRrecput : PCase := ⟨[.ty (.sl u8T), .ty recT], [.sl u8T], fun x => [(decide (List.length x.1 ≤ 140737488350000), (putR x.1 x.2.1, ()))]⟩
theorem rrecput_ok : caseRrecput.ok P0 I.cooperageref1_PutRecord := case_ok2 (H := H.rrec2) (E := env consR2) (env_ok consR2_ok) glob0 mixed0 G.cooperageref1_PutRecord Bd.cooperageref1_PutRecord (by kernel_rfl) noLoops fun ⟨b, r, ()⟩ y h hw => by
  obtain ⟨hc, rfl⟩ := pick_pre h
  exact rrecput_go b r (of_decide_eq_true hc)
noncomputable abbrev consB1 : List (FuncId × Con) := [(I.record_Right, .pure (pureOf [caseRecright])), (I.record_Put, .eff (effOf [caseRecput.e])), (I.frame_Put, .pure (pureOf [caseFput]))]
theorem consB1_ok : ∀ x ∈ consB1, HoldsC P0 x.1 x.2 := by
  intro x hx
  simp at hx
  rcases hx with rfl | rfl | rfl
  · exact ⟨pureOf_holds (by simp; exact recright_ok), C.record_Right⟩
  · exact ⟨fun args objs r objs2 h _ => effOf_holds (by simp; exact recput_ok) args objs r objs2 h, C.record_Put⟩
  · exact ⟨pureOf_holds (by simp; exact fput_ok), C.frame_Put⟩
def H.bytes2 : Hint := { H.segment_Bytes with vs := [16, 2] }
theorem sbytes_rd {R : Type} (l : List Rec) (o : List Int) (n i : Int) (K : Ex → St → Option R) : roundK (env consB1) H.bytes2 0 (LPof []) V.segment_Bytes_3 L.segment_Bytes_3 ⟨[(3, .hw 0), (6, .vl recT l), (7, .int .i64 n), (8, .int .i64 i)], [(0, .arr 1 u8T o [])], 1⟩ K = bif decide (i < n) then bif decide ((0 : Int) ≤ i) && decide (i < (↑l.length : Int)) then bif recR (l.getD i.toNat recTy.zero) then bif decide (0 + (putR [] (l.getD i.toNat recTy.zero)).length ≤ 140737488350000) then bif decide ((o ++ ([] ++ frameE (putR [] (l.getD i.toNat recTy.zero)))).length * 1 ≤ 140737488355328) then K Ex.normal { slots := [(3, AV.hw 0), (6, AV.vl recTy l), (7, AV.int IntKind.i64 n), (8, AV.int IntKind.i64 (IntKind.i64.wrap (i + (1 : Int))))], objs := [(0, AObj.arr 1 (Ty.int IntKind.u8) (o ++ ([] ++ frameE (putR [] (l.getD i.toNat recTy.zero)))) [])], nx := 1 } else none else none else K Ex.normal { slots := [(3, AV.hw 0), (6, AV.vl recTy l), (7, AV.int IntKind.i64 n), (8, AV.int IntKind.i64 (IntKind.i64.wrap (i + (1 : Int))))], objs := [(0, AObj.arr 1 (Ty.int IntKind.u8) o [])], nx := 1 } else none else K (Ex.exit 0) { slots := [(3, AV.hw 0), (6, AV.vl recTy l), (7, AV.int IntKind.i64 n), (8, AV.int IntKind.i64 i)], objs := [(0, AObj.arr 1 (Ty.int IntKind.u8) o [])], nx := 1 } := by kernel_rfl

noncomputable abbrev consB2 : List (FuncId × Con) := [(I.cooperageref1_Right, .pure (pureOf [caseRight1])), (I.cooperageref1_PutRecord, .pure (pureOf [caseRrecput])), (I.cooperageref1_PutFrame, .pure (pureOf [caseRfput]))]
theorem consB2_ok : ∀ x ∈ consB2, HoldsC P0 x.1 x.2 := by
  intro x hx
  simp at hx
  rcases hx with rfl | rfl | rfl
  · exact ⟨pureOf_holds (by simp; exact right1_ok), C.cooperageref1_Right⟩
  · exact ⟨pureOf_holds (by simp; exact rrecput_ok), C.cooperageref1_PutRecord⟩
  · exact ⟨pureOf_holds (by simp; exact rfput_ok), C.cooperageref1_PutFrame⟩
def frm (r : Rec) : List Int := bif recR r then frameE (encR r) else []
def bytS (l : List Rec) : List Int := (l.map frm).flatten
theorem frm_len (r : Rec) : (frm r).length ≤ 2260 := by
  unfold frm
  cases h : recR r with
  | false => simp
  | true =>
    have h1 := encR_len h
    have h2 := putN_len (n := (encR r).length) (by omega)
    simp only [cond_true, frameE, List.length_append, writI_len]
    omega
theorem bytS_snoc (l : List Rec) (r : Rec) : bytS (l ++ [r]) = bytS l ++ frm r := by unfold bytS; simp
theorem bytS_len (l : List Rec) : (bytS l).length ≤ 2260 * l.length := by
  induction l with
  | nil => simp [bytS]
  | cons r l ih =>
    have h := frm_len r
    have e : bytS (r :: l) = frm r ++ bytS l := by unfold bytS; simp
    rw [e, List.length_append, List.length_cons]
    omega
theorem take_snoc {l : List Rec} {i : Nat} (h : i < l.length) : l.take (i + 1) = l.take i ++ [l.getD i recTy.zero] := by
  rw [List.getD_eq_getElem?_getD, List.getElem?_eq_getElem h, List.take_add_one, List.getElem?_eq_getElem h]
  rfl
theorem bytS_take {l : List Rec} {i : Nat} (h : i < l.length) : bytS (l.take (i + 1)) = bytS (l.take i) ++ frm (l.getD i recTy.zero) := by
  rw [take_snoc h, bytS_snoc]
def sbSt (l : List Rec) (i : Nat) : St := ⟨[(3, .hw 0), (6, .vl recT l), (7, .int .i64 l.length), (8, .int .i64 i)], [(0, .arr 1 u8T (bytS (l.take i)) [])], 1⟩
theorem sb_rounds {R : Type} (l : List Rec) (hl : l.length ≤ 1000000000) (K : Ex → St → Option R) : ∀ (m i : Nat), i + m = l.length → rounds (env consB1) H.bytes2 0 (LPof []) V.segment_Bytes_3 L.segment_Bytes_3 (m + 1) (sbSt l i) K = K (.exit 0) (sbSt l l.length)
  | 0, i, h => by
    obtain rfl : i = l.length := by omega
    rw [rounds_succ']
    refine (sbytes_rd _ _ _ _ _).trans ?_
    rw [cond_neg (by omega)]
    rfl
  | m + 1, i, h => by
    have ih := sb_rounds l hl K m (i + 1) (by omega)
    have e1 := bytS_take (l := l) (i := i) (by omega)
    have h1 := frm_len (l.getD i recTy.zero)
    have h2 := bytS_len (l.take (i + 1))
    have h3 : (l.take (i + 1)).length = i + 1 := by simp; omega
    have e3 : IntKind.i64.wrap ((i : Int) + 1) = ((i + 1 : Nat) : Int) := by rw [wrap64 (by omega) (by omega)]; omega
    rw [rounds_succ']
    refine (sbytes_rd _ _ _ _ _).trans ?_
    rw [cond_pos (by omega), cond_pos2 (by omega) (by omega), Int.toNat_natCast, e3]
    unfold frm at e1
    cases hr : recR (l.getD i recTy.zero) with
    | false =>
      rw [hr, cond_false, List.append_nil] at e1
      rw [cond_false]
      have e4 : sbSt l (i + 1) = ⟨[(3, .hw 0), (6, .vl recT l), (7, .int .i64 l.length), (8, .int .i64 (i + 1 : Nat))], [(0, .arr 1 u8T (bytS (l.take i)) [])], 1⟩ := by unfold sbSt; rw [e1]
      rw [e4] at ih
      exact ih
    | true =>
      rw [hr, cond_true] at e1
      have h4 := encR_len hr
      have hp : putR [] (l.getD i recTy.zero) = encR (l.getD i recTy.zero) := by unfold putR; rw [hr]; rfl
      rw [cond_true, hp, List.nil_append, ← e1, cond_pos (by omega), cond_pos (by omega)]
      exact ih
abbrev sbLC : LoopC := LoopC.of ⟨[(3, .lit (.hw 0)), (6, .vl recT), (7, .int .i64), (8, .int .i64)], [.arr 1 u8T []]⟩ (fun x => decide (x.1.2.2.2.1 = (0 : Int)) && decide (x.1.2.2.1 = (List.length x.1.2.1 : Int)) && decide (List.length x.1.2.1 ≤ 1000000000) && List.isEmpty x.2.1.1)
  fun x => [(true, .exit 0, sbSt x.1.2.1 (List.length x.1.2.1))]
theorem sb_lok : LoopOK P0 H.bytes2 0 L.segment_Bytes_3 sbLC :=
  loop_ok_of (env_ok consB1_ok) glob0 mixed0 noLoops V.segment_Bytes_3 (by decide) fun ⟨⟨_, l, n, i, _⟩, ⟨⟨o, _⟩, _⟩⟩ h hw => by
    simp only [Bool.and_eq_true, decide_eq_true_eq] at h
    obtain ⟨⟨⟨rfl, rfl⟩, h3⟩, h4⟩ := h
    obtain rfl : o = [] := List.isEmpty_iff.1 h4
    exact ⟨_, sb_rounds l h3 _ l.length 0 (Nat.zero_add _)⟩
theorem sbytes_ev (l : List Rec) : evFn (env consB1) H.bytes2 (LPof [(3, sbLC)]) F.segment_Bytes [.vl recT l] [] (finT [.sl u8T]) = bif decide ((↑l.length : Int) = (↑l.length : Int)) && decide (l.length ≤ 1000000000) && true && true then some (bytS (List.take l.length l), ()) else none := by kernel_rfl

def caseSbytes : PCase := ⟨[.ty (.sl recT)], [.sl u8T], fun x => [(decide (List.length x.1 ≤ 1000000000), (bytS x.1, ()))]⟩
theorem sbytes_ok : caseSbytes.ok P0 I.segment_Bytes := case_ok2 (H := H.bytes2) (E := env consB1) (env_ok consB1_ok) glob0 mixed0 G.segment_Bytes Bd.segment_Bytes (by kernel_rfl) (loops_good (tab := [(3, sbLC)]) (by kernel_rfl) (fun x hx => by simp at hx; subst hx; exact sb_lok)) fun ⟨l, ()⟩ y h hw => by
  obtain ⟨hc, rfl⟩ := pick_pre h
  refine (sbytes_ev l).trans ?_
  simp only [hc, decide_true, Bool.and_self, cond_true, List.take_length]
  rfl
noncomputable abbrev consB3 : List (FuncId × Con) := [(I.segment_Bytes, .pure (pureOf [caseSbytes]))]
theorem consB3_ok : ∀ x ∈ consB3, HoldsC P0 x.1 x.2 := by
  intro x hx
  simp at hx
  subst hx
  exact ⟨pureOf_holds (by simp; exact sbytes_ok), C.segment_Bytes⟩
theorem size_ev (l : List Rec) : evFn (env consB3) H.segs_size (LPof []) F.segs_size [.vl recT l] [] (finT [.int .i64]) = bif decide (l.length ≤ 1000000000) then some ((↑(bytS l).length : Int), ()) else none := by kernel_rfl

def caseSize : PCase := ⟨[.ty (.sl recT)], [.int .i64], fun x => (fun (l : List Rec) => [(decide (List.length l ≤ 1000000000), (((bytS l).length : Int), ()))]) x.1⟩
theorem size_val (l : List Rec) (hc : (decide (List.length l ≤ 1000000000)) = true) : evFn (env consB3) H.segs_size (LPof []) F.segs_size [.vl recT l] [] (finT [.int .i64]) = some (((bytS l).length : Int), ()) := by
  rw [size_ev, hc]; rfl
theorem size_ok : caseSize.ok P0 I.segs_size := case_ok2 (H := H.segs_size) (E := env consB3) (env_ok consB3_ok) glob0 mixed0 G.segs_size Bd.segs_size (by kernel_rfl) noLoops fun ⟨l, ()⟩ y h hw => by
  obtain ⟨hc, rfl⟩ := pick_pre h
  exact size_val l hc
theorem latest_rd {R : Type} (l : List Rec) (t n i : Int) (K : Ex → St → Option R) : roundK (env []) H.segs_latest 0 (LPof []) V.segs_latest_3 L.segs_latest_3 ⟨[(3, .int .i64 t), (6, .vl recT l), (7, .int .i64 n), (8, .int .i64 i)], [], 0⟩ K = bif decide (i < n) then bif decide ((0 : Int) ≤ i) && decide (i < (↑l.length : Int)) then Option.bind (bif i == (0 : Int) then some true else some (decide ((l.getD i.toNat recTy.zero).snd.fst > t))) fun v => bif v then K Ex.normal { slots := [(3, AV.int IntKind.i64 (l.getD i.toNat recTy.zero).snd.fst), (6, AV.vl recTy l), (7, AV.int IntKind.i64 n), (8, AV.int IntKind.i64 (IntKind.i64.wrap (i + (1 : Int))))], objs := [], nx := 0 } else K Ex.normal { slots := [(3, AV.int IntKind.i64 t), (6, AV.vl recTy l), (7, AV.int IntKind.i64 n), (8, AV.int IntKind.i64 (IntKind.i64.wrap (i + (1 : Int))))], objs := [], nx := 0 } else none else K (Ex.exit 0) { slots := [(3, AV.int IntKind.i64 t), (6, AV.vl recTy l), (7, AV.int IntKind.i64 n), (8, AV.int IntKind.i64 i)], objs := [], nx := 0 } := by kernel_rfl

end Go.Sim.XU
namespace Go.Sim.XU
set_option linter.unusedSimpArgs false
set_option linter.unusedVariables false
set_option maxRecDepth 10000
abbrev segT : Ty := .pair (.int .i64) (.pair (.int .i64) (.pair (.int .i64) (.pair (.int .i64) (.pair (.sl recT) (.pair .bool (.pair .bool (.pair .bool (.pair (.int .i64) (.int .u32)))))))))
/-- The greatest time of the first i records. -/
def latI (l : List Rec) : Nat → Int
  | 0 => 0
  | i + 1 => bif decide (i = 0) || decide ((l.getD i recTy.zero).2.1 > latI l i) then (l.getD i recTy.zero).2.1 else latI l i
def latS (l : List Rec) : Int := latI l l.length
def laSt (l : List Rec) (i : Nat) : St := ⟨[(3, .int .i64 (latI l i)), (6, .vl recT l), (7, .int .i64 l.length), (8, .int .i64 i)], [], 0⟩
theorem i0_dec (i : Nat) : ((i : Int) == 0) = decide (i = 0) := by
  by_cases h : i = 0
  · subst h; rfl
  · rw [decide_eq_false h]
    simp
    exact h
theorem la_rounds {R : Type} (l : List Rec) (hl : l.length ≤ maxL) (K : Ex → St → Option R) : ∀ (m i : Nat), i + m = l.length → rounds (env []) H.segs_latest 0 (LPof []) V.segs_latest_3 L.segs_latest_3 (m + 1) (laSt l i) K = K (.exit 0) (laSt l l.length)
  | 0, i, h => by
    obtain rfl : i = l.length := by omega
    rw [rounds_succ']
    refine (latest_rd _ _ _ _ _).trans ?_
    rw [cond_neg (by omega)]
    rfl
  | m + 1, i, h => by
    have ih := la_rounds l hl K m (i + 1) (by omega)
    unfold maxL at hl
    have e3 : IntKind.i64.wrap ((i : Int) + 1) = ((i + 1 : Nat) : Int) := by rw [wrap64 (by omega) (by omega)]; omega
    rw [rounds_succ']
    refine (latest_rd _ _ _ _ _).trans ?_
    rw [cond_pos (by omega), cond_pos2 (by omega) (by omega), Int.toNat_natCast, e3, i0_dec, or_bif, Option.bind_some]
    have e4 : latI l (i + 1) = bif decide (i = 0) || decide ((l.getD i recTy.zero).2.1 > latI l i) then (l.getD i recTy.zero).2.1 else latI l i := rfl
    unfold laSt at ih
    rw [e4] at ih
    cases hb : decide (i = 0) || decide ((l.getD i recTy.zero).2.1 > latI l i) with
    | true => rw [hb] at ih; exact ih
    | false => rw [hb] at ih; exact ih
abbrev laLC : LoopC := LoopC.of ⟨[(3, .int .i64), (6, .vl recT), (7, .int .i64), (8, .int .i64)], []⟩ (fun x => decide (x.1.1 = (0 : Int)) && decide (x.1.2.2.2.1 = (0 : Int)) && decide (x.1.2.2.1 = (List.length x.1.2.1 : Int)))
  fun x => [(true, .exit 0, laSt x.1.2.1 (List.length x.1.2.1))]
theorem la_lok : LoopOK P0 H.segs_latest 0 L.segs_latest_3 laLC :=
  loop_ok_of (env_ok env_nil) glob0 mixed0 noLoops V.segs_latest_3 (by decide) fun ⟨⟨t, l, n, i, _⟩, _⟩ h hw => by
    simp only [Bool.and_eq_true, decide_eq_true_eq] at h
    obtain ⟨⟨rfl, rfl⟩, rfl⟩ := h
    exact ⟨_, la_rounds l hw.1.2.1.1 _ l.length 0 (Nat.zero_add _)⟩
theorem latest_ev (l : List Rec) : evFn (env []) H.segs_latest (LPof [(3, laLC)]) F.segs_latest [.vl recT l] [] (finT [.int .i64]) = bif decide ((↑l.length : Int) = (↑l.length : Int)) && true then some (latI l l.length, ()) else none := by kernel_rfl

def caseLatest : PCase := ⟨[.ty (.sl recT)], [.int .i64], fun x => (fun (l : List Rec) => [(true, (latS l, ()))]) x.1⟩
theorem latest_val (l : List Rec) : evFn (env []) H.segs_latest (LPof [(3, laLC)]) F.segs_latest [.vl recT l] [] (finT [.int .i64]) = some (latS l, ()) := by
  rw [latest_ev]
  simp only [decide_true, Bool.and_self, cond_true]
  rfl
theorem latest_ok : caseLatest.ok P0 I.segs_latest := case_ok2 (H := H.segs_latest) (E := env []) (env_ok env_nil) glob0 mixed0 G.segs_latest Bd.segs_latest (by kernel_rfl) (loops_good (tab := [(3, laLC)]) (by kernel_rfl) (fun x hx => by simp at hx; subst hx; exact la_lok)) fun ⟨l, ()⟩ y h hw => by
  obtain ⟨hc, rfl⟩ := pick_pre h
  exact latest_val l
abbrev actP : List Pat := [.int .i64, .int .i64, .lit (.int .i64 0), .lit (.int .i64 0), .lit (.hw 2), .lit (.bool false), .lit (.bool false), .lit (.bool false), .int .i64, .lit (.int .u32 0)]
def H.active2 : Hint := { H.segs_Log_active with tp := [13] }
theorem active_ev (f : List Seg) (b n z : Int) (rs : List Rec) : evFn (env []) H.active2 (LPof []) F.segs_Log_active [.ptr 0 (.tl 0) 0] [.arr 1 .bool [] [[.hw 1]], .arr 10 segT f [[.int .i64 b, .int .i64 n, .int .i64 0, .int .i64 0, .hw 2, .bool false, .bool false, .bool false, .int .i64 z, .int .u32 0]], .log recT rs] (finV (.lit (.ptr 1 (.tl 0) 0)) [.box 1 [[.lit (.hw 1)]], .arr 10 segT [actP], .log recT] 3) = bif decide ((0 : Int) ≤ IntKind.i64.wrap ((↑(f.length + 1) : Int) - (1 : Int))) && decide (IntKind.i64.wrap ((↑(f.length + 1) : Int) - (1 : Int)) < (↑(f.length + 1) : Int)) then bif decide ((IntKind.i64.wrap ((↑(f.length + 1) : Int) - (1 : Int))).toNat < f.length) then none else bif decide ((IntKind.i64.wrap ((↑(f.length + 1) : Int) - (1 : Int))).toNat - f.length = 0) then some ((), (((), ()), ()), (f, (b, n, (), (), (), (), (), (), z, (), ()), ()), rs, ()) else none else none := by kernel_rfl

def H.new2 : Hint := { H.segs_New with lg := [(1, 40)] }
theorem new_ev : evFn (env []) H.new2 (LPof []) F.segs_New [] [] (finV (.lit (.ptr 0 (.tl 0) 0)) [.box 1 [[.lit (.hw 1)]], .arr 10 segT [actP], .log recT] 0) = some ((), (((), ()), ()), ([], ((0 : Int), (0 : Int), (), (), (), (), (), (), (0 : Int), (), ()), ()), [], ()) := by kernel_rfl

abbrev logP : List OPat := [.box 1 [[.lit (.hw 1)]], .arr 10 segT [actP], .log recT]
abbrev actC (b n z : Int) : List AV := [.int .i64 b, .int .i64 n, .int .i64 0, .int .i64 0, .hw 2, .bool false, .bool false, .bool false, .int .i64 z, .int .u32 0]
def caseActive : VCase := ⟨[.lit (.ptr 0 (.tl 0) 0)], logP, .lit (.ptr 1 (.tl 0) 0), logP, fun _ ⟨a, ⟨f, y⟩, rs, _⟩ => [(decide (List.length f ≤ 1000000000), ((), (a, (f, y), rs, ())))]⟩
theorem act_ok : caseActive.e.ok P0 I.segs_Log_active := vcase_ok (c := caseActive) (H := H.active2) (E := env []) (env_ok env_nil) glob0 mixed0 G.segs_Log_active Bd.segs_Log_active (by kernel_rfl) noLoops fun _ ⟨_, ⟨f, ⟨b, n, _, _, _, _, _, _, z, _, _⟩, _⟩, rs, _⟩ r h hw1 hw2 => by
  obtain ⟨hc, rfl⟩ := pick_pre h
  have hc := of_decide_eq_true hc
  have e : IntKind.i64.wrap (((f.length + 1 : Nat) : Int) - 1) = (f.length : Int) := by rw [wrap64 (by omega) (by omega)]; omega
  refine (active_ev f b n z rs).trans ?_
  rw [e, cond_pos2 (by omega) (by omega), Int.toNat_natCast, cond_neg (by omega), cond_pos (by omega)]
  rfl
noncomputable abbrev consS1 : List (FuncId × Con) := [(I.segs_Log_active, .eff (effOf [caseActive.e])), (I.segs_latest, .pure (pureOf [caseLatest])), (I.segs_size, .pure (pureOf [caseSize])), (I.record_Right, .pure (pureOf [caseRecright]))]
theorem consS1_ok : ∀ x ∈ consS1, HoldsC P0 x.1 x.2 := by
  intro x hx
  simp at hx
  rcases hx with rfl | rfl | rfl | rfl
  · exact ⟨fun args objs r objs2 h _ => effOf_holds (by simp; exact act_ok) args objs r objs2 h, C.segs_Log_active⟩
  · exact ⟨pureOf_holds (by simp; exact latest_ok), C.segs_latest⟩
  · exact ⟨pureOf_holds (by simp; exact size_ok), C.segs_size⟩
  · exact ⟨pureOf_holds (by simp; exact recright_ok), C.record_Right⟩
/-- A log: the segments ahead of the active one; the active one's base, next, size, records. -/
abbrev LogS := List Seg × Int × Int × Int × List Rec
def actS (L : LogS) : Seg := (L.2.1, L.2.2.1, 0, 0, L.2.2.2.2, false, false, false, L.2.2.2.1, 0)
def segsL (L : LogS) : List Seg := L.1 ++ [actS L]
abbrev actQ : List Pat := [.int .i64, .int .i64, .lit (.int .i64 0), .lit (.int .i64 0), .lit (.hw 4), .lit (.bool false), .lit (.bool false), .lit (.bool false), .int .i64, .lit (.int .u32 0)]
abbrev logQ : List OPat := [.box 1 [[.lit (.hw 3)]], .dead, .dead, .arr 10 segT [actQ], .log recT]
def sealP (L : LogS) : LogS := bif L.2.1 == L.2.2.1 then L else (L.1 ++ [(L.2.1, L.2.2.1, latS L.2.2.2.2, 0, L.2.2.2.2, true, false, false, L.2.2.2.1, 0)], L.2.2.1, L.2.2.1, 0, [])
def lowP (L : LogS) : Int := bif decide (0 < L.1.length) then (L.1.getD 0 segTy.zero).1 else L.2.1
def smallS (g : Seg) : Bool := decide (g.2.2.2.2.1.length ≤ 1000000000)
/-- Nothing is too great. -/
def okB (c : Nat) (L : LogS) : Bool := decide (0 ≤ L.2.1) && decide (L.2.1 ≤ L.2.2.1) && decide (L.2.2.1 ≤ c) && decide (0 ≤ L.2.2.2.1) && decide (L.2.2.2.1 ≤ 2260 * c) && decide (L.1.length ≤ c) && decide (L.2.2.2.2.length ≤ c) && L.1.all smallS
theorem okB_iff {c : Nat} {L : LogS} : okB c L = true ↔ 0 ≤ L.2.1 ∧ L.2.1 ≤ L.2.2.1 ∧ L.2.2.1 ≤ c ∧ 0 ≤ L.2.2.2.1 ∧ L.2.2.2.1 ≤ 2260 * c ∧ L.1.length ≤ c ∧ L.2.2.2.2.length ≤ c ∧ L.1.all smallS = true := by
  unfold okB
  simp only [Bool.and_eq_true, decide_eq_true_eq]
  exact ⟨fun ⟨⟨⟨⟨⟨⟨⟨a, b⟩, c⟩, d⟩, e⟩, f⟩, g⟩, h⟩ => ⟨a, b, c, d, e, f, g, h⟩, fun ⟨a, b, c, d, e, f, g, h⟩ => ⟨⟨⟨⟨⟨⟨⟨a, b⟩, c⟩, d⟩, e⟩, f⟩, g⟩, h⟩⟩
theorem okB_mono {c d : Nat} {L : LogS} (h : okB c L = true) (hd : c ≤ d) : okB d L = true := by
  obtain ⟨h1, h2, h3, h4, h5, h6, h7, h9⟩ := okB_iff.1 h
  exact okB_iff.2 ⟨h1, h2, by omega, h4, by omega, by omega, by omega, h9⟩
theorem sealP_ok {c : Nat} {L : LogS} (h : okB c L = true) (hc : c ≤ 1000000000) : okB (c + 1) (sealP L) = true := by
  obtain ⟨h1, h2, h3, h4, h5, h6, h7, h9⟩ := okB_iff.1 h
  unfold sealP
  cases hb : L.2.1 == L.2.2.1 with
  | true => exact okB_mono h (by omega)
  | false => exact okB_iff.2 ⟨by simp; omega, by simp, by simp; omega, by simp, by simp; omega, by simp; omega, by simp, by simp only [cond_false, List.all_append, h9, Bool.true_and, List.all_cons, List.all_nil, Bool.and_true]; exact decide_eq_true (show L.2.2.2.2.length ≤ 1000000000 by omega)⟩
theorem high_ev (f : List Seg) (b n z : Int) (rs : List Rec) : evFn (env consS1) H.segs_Log_High (LPof []) F.segs_Log_High [.ptr 0 (.tl 0) 0] [.arr 1 .bool [] [[.hw 1]], .arr 10 segT f [actC b n z], .log recT rs] (finV (.int .i64) logP 3) = bif decide (f.length ≤ 1000000000) then some (n, (((), ()), ()), (f, (b, n, (), (), (), (), (), (), z, (), ()), ()), rs, ()) else none := by kernel_rfl

theorem low_ev (f : List Seg) (b n z : Int) (rs : List Rec) : evFn (env consS1) H.segs_Log_Low (LPof []) F.segs_Log_Low [.ptr 0 (.tl 0) 0] [.arr 1 .bool [] [[.hw 1]], .arr 10 segT f [actC b n z], .log recT rs] (finV (.int .i64) logP 3) = bif decide ((0 : Int) < (↑(f.length + 1) : Int)) then bif decide (0 < f.length) then some ((f.getD 0 segTy.zero).fst, (((), ()), ()), (f, (b, n, (), (), (), (), (), (), z, (), ()), ()), rs, ()) else bif decide (0 - f.length = 0) then some (b, (((), ()), ()), (f, (b, n, (), (), (), (), (), (), z, (), ()), ()), rs, ()) else none else none := by kernel_rfl

def H.seal2 : Hint := { H.segs_Log_Seal with lg := [(38, 40)] }
theorem seal_ev (f : List Seg) (b n z : Int) (rs : List Rec) : evFnM 1 (env consS1) H.seal2 (LPof []) F.segs_Log_Seal [.ptr 0 (.tl 0) 0] [.arr 1 .bool [] [[.hw 1]], .arr 10 segT f [actC b n z], .log recT rs] (finVM (.lit (.tup [])) logQ 1 3) = bif decide (f.length ≤ 1000000000) then bif b == n then some ((), (((), ()), ()), (), (), (f, (b, n, (), (), (), (), (), (), z, (), ()), ()), rs, ()) else bif decide ((f.length + 2) * 80 ≤ 140737488355328) then some ((), (((), ()), ()), (), (), (f ++ [(b, n, latS rs, (0 : Int), rs, true, false, false, z, (0 : Int))], (n, n, (), (), (), (), (), (), (0 : Int), (), ()), ()), [], ()) else none else none := by kernel_rfl

def caseHigh : VCase := ⟨[.lit (.ptr 0 (.tl 0) 0)], logP, .int .i64, logP, fun _ ⟨_, ⟨f, ⟨b, n, _, _, _, _, _, _, z, _, _⟩, _⟩, rs, _⟩ => [(decide (List.length f ≤ 1000000000), (n, ((((), ()), ()), (f, (b, n, (), (), (), (), (), (), z, (), ()), ()), rs, ())))]⟩
theorem high_ok : caseHigh.e.ok P0 I.segs_Log_High := vcase_ok (c := caseHigh) (H := H.segs_Log_High) (E := env consS1) (env_ok consS1_ok) glob0 mixed0 G.segs_Log_High Bd.segs_Log_High (by kernel_rfl) noLoops fun _ ⟨_, ⟨f, ⟨b, n, _, _, _, _, _, _, z, _, _⟩, _⟩, rs, _⟩ r h hw1 hw2 => by
  obtain ⟨hc, rfl⟩ := pick_pre h
  refine (high_ev f b n z rs).trans ?_
  have hc : decide (List.length f ≤ 1000000000) = true := hc
  rw [hc]
  rfl
def caseLow : VCase := ⟨[.lit (.ptr 0 (.tl 0) 0)], logP, .int .i64, logP, fun _ ⟨_, ⟨f, ⟨b, n, _, _, _, _, _, _, z, _, _⟩, _⟩, rs, _⟩ => [(true, (lowP (f, b, n, z, rs), ((((), ()), ()), (f, (b, n, (), (), (), (), (), (), z, (), ()), ()), rs, ())))]⟩
theorem low_ok : caseLow.e.ok P0 I.segs_Log_Low := vcase_ok (c := caseLow) (H := H.segs_Log_Low) (E := env consS1) (env_ok consS1_ok) glob0 mixed0 G.segs_Log_Low Bd.segs_Log_Low (by kernel_rfl) noLoops fun _ ⟨_, ⟨f, ⟨b, n, _, _, _, _, _, _, z, _, _⟩, _⟩, rs, _⟩ r h hw1 hw2 => by
  obtain ⟨hc, rfl⟩ := pick_pre h
  refine (low_ev f b n z rs).trans ?_
  rw [cond_pos (by omega)]
  unfold lowP
  simp only
  by_cases h0 : 0 < List.length f
  · rw [cond_pos h0, cond_pos h0]
    rfl
  · rw [cond_neg h0, cond_neg h0, cond_pos (by omega)]
    rfl
def caseSeal : VCase := ⟨[.lit (.ptr 0 (.tl 0) 0)], logP, .lit (.tup []), logQ, fun _ ⟨_, ⟨f, ⟨b, n, _, _, _, _, _, _, z, _, _⟩, _⟩, rs, _⟩ => [(decide (List.length f ≤ 1000000000), ((), ((((), ()), ()), (), (), ((sealP (f, b, n, z, rs)).1, ((sealP (f, b, n, z, rs)).2.1, (sealP (f, b, n, z, rs)).2.2.1, (), (), (), (), (), (), (sealP (f, b, n, z, rs)).2.2.2.1, (), ()), ()), (sealP (f, b, n, z, rs)).2.2.2.2, ())))]⟩
theorem seal_ok : caseSeal.e.ok P0 I.segs_Log_Seal := vcase_okM (c := caseSeal) (H := H.seal2) (E := env consS1) (env_ok consS1_ok) glob0 mixed0 G.segs_Log_Seal Bd.segs_Log_Seal 1 rfl (by kernel_rfl) noLoops fun _ ⟨_, ⟨f, ⟨b, n, _, _, _, _, _, _, z, _, _⟩, _⟩, rs, _⟩ r h hw1 hw2 => by
  obtain ⟨hc, rfl⟩ := pick_pre h
  refine (seal_ev f b n z rs).trans ?_
  have hc : List.length f ≤ 1000000000 := of_decide_eq_true hc
  rw [cond_pos hc]
  unfold sealP
  simp only
  cases hb : b == n with
  | true => rfl
  | false =>
    rw [cond_false, cond_pos (by omega)]
    rfl
def caseNew : VCase := ⟨[], [], .lit (.ptr 0 (.tl 0) 0), logP, fun _ _ => [(true, ((), ((((), ()), ()), ([], (0, 0, (), (), (), (), (), (), 0, (), ()), ()), [], ())))]⟩
theorem new_ok : caseNew.e.ok P0 I.segs_New := vcase_ok (c := caseNew) (H := H.new2) (E := env []) (env_ok env_nil) glob0 mixed0 G.segs_New Bd.segs_New (by kernel_rfl) noLoops fun _ _ r h hw1 hw2 => by
  obtain ⟨hc, rfl⟩ := pick_pre h
  exact new_ev
noncomputable abbrev consS2 : List (FuncId × Con) := [(I.segs_Log_Seal, .eff (effOf [caseSeal.e])), (I.segs_Log_High, .eff (effOf [caseHigh.e])), (I.segs_Log_Low, .eff (effOf [caseLow.e])), (I.segs_New, .eff (effOf [caseNew.e]))] ++ consS1
theorem consS2_ok : ∀ x ∈ consS2, HoldsC P0 x.1 x.2 := by
  intro x hx
  rcases List.mem_append.1 hx with hx | hx
  · simp at hx
    rcases hx with rfl | rfl | rfl | rfl
    · exact ⟨fun args objs r objs2 h _ => effOf_holds (by simp; exact seal_ok) args objs r objs2 h, C.segs_Log_Seal⟩
    · exact ⟨fun args objs r objs2 h _ => effOf_holds (by simp; exact high_ok) args objs r objs2 h, C.segs_Log_High⟩
    · exact ⟨fun args objs r objs2 h _ => effOf_holds (by simp; exact low_ok) args objs r objs2 h, C.segs_Log_Low⟩
    · exact ⟨fun args objs r objs2 h _ => effOf_holds (by simp; exact new_ok) args objs r objs2 h, C.segs_New⟩
  · exact consS1_ok x hx
theorem append_rd {R : Type} (most fi : Int) (so : Bool) (l : List Rec) (m i : Int) (f : List Seg) (b n z : Int) (rs : List Rec) (K : Ex → St → Option R) : roundK (env consS2) H.segs_Log_Append 1 (LPof []) V.segs_Log_Append_3 L.segs_Log_Append_3 ⟨[(0, .ptr 0 (.tl 0) 0), (2, .int .i64 most), (7, .int .i64 fi), (8, .bool so), (14, .vl recT l), (15, .int .i64 m), (16, .int .i64 i)], [(0, .arr 1 .bool [] [[.hw 1]]), (1, .arr 10 segT f [actC b n z]), (2, .log recT rs)], 3⟩ K = bif decide (i < m) then bif decide ((0 : Int) ≤ i) && decide (i < (↑l.length : Int)) then bif !recR ((0 : Int), (l.getD i.toNat recTy.zero).snd) then K Ex.normal { slots := [(0, AV.ptr 0 (Elt.tl 0) 0), (2, AV.int IntKind.i64 most), (7, AV.int IntKind.i64 fi), (8, AV.bool so), (14, AV.vl recTy l), (15, AV.int IntKind.i64 m), (16, AV.int IntKind.i64 (IntKind.i64.wrap (i + (1 : Int))))], objs := [(0, AObj.arr 1 Ty.bool [] [[AV.hw 1]]), (1, AObj.arr 10 segTy f [[AV.int IntKind.i64 b, AV.int IntKind.i64 n, AV.int IntKind.i64 (0 : Int), AV.int IntKind.i64 (0 : Int), AV.hw 2, AV.bool false, AV.bool false, AV.bool false, AV.int IntKind.i64 z, AV.int IntKind.u32 (0 : Int)]]), (2, AObj.log recTy rs)], nx := 3 } else bif decide (f.length ≤ 1000000000) then bif !so then bif decide ((rs ++ [(n, (l.getD i.toNat recTy.zero).snd)]).length * 56 ≤ 140737488355328) then bif decide (IntKind.i64.wrap (IntKind.i64.wrap (n + (1 : Int)) - b) ≥ bif decide (most > (1 : Int)) then most else (1 : Int)) then bif decide (f.length ≤ 1000000000) then K Ex.normal { slots := [(0, AV.ptr 0 (Elt.tl 0) 0), (2, AV.int IntKind.i64 most), (7, AV.int IntKind.i64 n), (8, AV.bool true), (14, AV.vl recTy l), (15, AV.int IntKind.i64 m), (16, AV.int IntKind.i64 (IntKind.i64.wrap (i + (1 : Int))))], objs := [(0, AObj.arr 1 Ty.bool [] [[AV.hw 1]]), (1, AObj.arr 10 segTy (sealP (f, b, IntKind.i64.wrap (n + (1 : Int)), IntKind.i64.wrap (z + (↑(bytS [(n, (l.getD i.toNat recTy.zero).snd)]).length : Int)), rs ++ [(n, (l.getD i.toNat recTy.zero).snd)])).fst [[AV.int IntKind.i64 (sealP (f, b, IntKind.i64.wrap (n + (1 : Int)), IntKind.i64.wrap (z + (↑(bytS [(n, (l.getD i.toNat recTy.zero).snd)]).length : Int)), rs ++ [(n, (l.getD i.toNat recTy.zero).snd)])).snd.fst, AV.int IntKind.i64 (sealP (f, b, IntKind.i64.wrap (n + (1 : Int)), IntKind.i64.wrap (z + (↑(bytS [(n, (l.getD i.toNat recTy.zero).snd)]).length : Int)), rs ++ [(n, (l.getD i.toNat recTy.zero).snd)])).snd.snd.fst, AV.int IntKind.i64 (0 : Int), AV.int IntKind.i64 (0 : Int), AV.hw 2, AV.bool false, AV.bool false, AV.bool false, AV.int IntKind.i64 (sealP (f, b, IntKind.i64.wrap (n + (1 : Int)), IntKind.i64.wrap (z + (↑(bytS [(n, (l.getD i.toNat recTy.zero).snd)]).length : Int)), rs ++ [(n, (l.getD i.toNat recTy.zero).snd)])).snd.snd.snd.fst, AV.int IntKind.u32 (0 : Int)]]), (2, AObj.log recTy (sealP (f, b, IntKind.i64.wrap (n + (1 : Int)), IntKind.i64.wrap (z + (↑(bytS [(n, (l.getD i.toNat recTy.zero).snd)]).length : Int)), rs ++ [(n, (l.getD i.toNat recTy.zero).snd)])).snd.snd.snd.snd)], nx := 3 } else none else K Ex.normal { slots := [(0, AV.ptr 0 (Elt.tl 0) 0), (2, AV.int IntKind.i64 most), (7, AV.int IntKind.i64 n), (8, AV.bool true), (14, AV.vl recTy l), (15, AV.int IntKind.i64 m), (16, AV.int IntKind.i64 (IntKind.i64.wrap (i + (1 : Int))))], objs := [(0, AObj.arr 1 Ty.bool [] [[AV.hw 1]]), (1, AObj.arr 10 segTy f [[AV.int IntKind.i64 b, AV.int IntKind.i64 (IntKind.i64.wrap (n + (1 : Int))), AV.int IntKind.i64 (0 : Int), AV.int IntKind.i64 (0 : Int), AV.hw 2, AV.bool false, AV.bool false, AV.bool false, AV.int IntKind.i64 (IntKind.i64.wrap (z + (↑(bytS [(n, (l.getD i.toNat recTy.zero).snd)]).length : Int))), AV.int IntKind.u32 (0 : Int)]]), (2, AObj.log recTy (rs ++ [(n, (l.getD i.toNat recTy.zero).snd)]))], nx := 3 } else none else bif decide ((rs ++ [(n, (l.getD i.toNat recTy.zero).snd)]).length * 56 ≤ 140737488355328) then bif decide (IntKind.i64.wrap (IntKind.i64.wrap (n + (1 : Int)) - b) ≥ bif decide (most > (1 : Int)) then most else (1 : Int)) then bif decide (f.length ≤ 1000000000) then K Ex.normal { slots := [(0, AV.ptr 0 (Elt.tl 0) 0), (2, AV.int IntKind.i64 most), (7, AV.int IntKind.i64 fi), (8, AV.bool so), (14, AV.vl recTy l), (15, AV.int IntKind.i64 m), (16, AV.int IntKind.i64 (IntKind.i64.wrap (i + (1 : Int))))], objs := [(0, AObj.arr 1 Ty.bool [] [[AV.hw 1]]), (1, AObj.arr 10 segTy (sealP (f, b, IntKind.i64.wrap (n + (1 : Int)), IntKind.i64.wrap (z + (↑(bytS [(n, (l.getD i.toNat recTy.zero).snd)]).length : Int)), rs ++ [(n, (l.getD i.toNat recTy.zero).snd)])).fst [[AV.int IntKind.i64 (sealP (f, b, IntKind.i64.wrap (n + (1 : Int)), IntKind.i64.wrap (z + (↑(bytS [(n, (l.getD i.toNat recTy.zero).snd)]).length : Int)), rs ++ [(n, (l.getD i.toNat recTy.zero).snd)])).snd.fst, AV.int IntKind.i64 (sealP (f, b, IntKind.i64.wrap (n + (1 : Int)), IntKind.i64.wrap (z + (↑(bytS [(n, (l.getD i.toNat recTy.zero).snd)]).length : Int)), rs ++ [(n, (l.getD i.toNat recTy.zero).snd)])).snd.snd.fst, AV.int IntKind.i64 (0 : Int), AV.int IntKind.i64 (0 : Int), AV.hw 2, AV.bool false, AV.bool false, AV.bool false, AV.int IntKind.i64 (sealP (f, b, IntKind.i64.wrap (n + (1 : Int)), IntKind.i64.wrap (z + (↑(bytS [(n, (l.getD i.toNat recTy.zero).snd)]).length : Int)), rs ++ [(n, (l.getD i.toNat recTy.zero).snd)])).snd.snd.snd.fst, AV.int IntKind.u32 (0 : Int)]]), (2, AObj.log recTy (sealP (f, b, IntKind.i64.wrap (n + (1 : Int)), IntKind.i64.wrap (z + (↑(bytS [(n, (l.getD i.toNat recTy.zero).snd)]).length : Int)), rs ++ [(n, (l.getD i.toNat recTy.zero).snd)])).snd.snd.snd.snd)], nx := 3 } else none else K Ex.normal { slots := [(0, AV.ptr 0 (Elt.tl 0) 0), (2, AV.int IntKind.i64 most), (7, AV.int IntKind.i64 fi), (8, AV.bool so), (14, AV.vl recTy l), (15, AV.int IntKind.i64 m), (16, AV.int IntKind.i64 (IntKind.i64.wrap (i + (1 : Int))))], objs := [(0, AObj.arr 1 Ty.bool [] [[AV.hw 1]]), (1, AObj.arr 10 segTy f [[AV.int IntKind.i64 b, AV.int IntKind.i64 (IntKind.i64.wrap (n + (1 : Int))), AV.int IntKind.i64 (0 : Int), AV.int IntKind.i64 (0 : Int), AV.hw 2, AV.bool false, AV.bool false, AV.bool false, AV.int IntKind.i64 (IntKind.i64.wrap (z + (↑(bytS [(n, (l.getD i.toNat recTy.zero).snd)]).length : Int))), AV.int IntKind.u32 (0 : Int)]]), (2, AObj.log recTy (rs ++ [(n, (l.getD i.toNat recTy.zero).snd)]))], nx := 3 } else none else none else none else K (Ex.exit 0) { slots := [(0, AV.ptr 0 (Elt.tl 0) 0), (2, AV.int IntKind.i64 most), (7, AV.int IntKind.i64 fi), (8, AV.bool so), (14, AV.vl recTy l), (15, AV.int IntKind.i64 m), (16, AV.int IntKind.i64 i)], objs := [(0, AObj.arr 1 Ty.bool [] [[AV.hw 1]]), (1, AObj.arr 10 segTy f [[AV.int IntKind.i64 b, AV.int IntKind.i64 n, AV.int IntKind.i64 (0 : Int), AV.int IntKind.i64 (0 : Int), AV.hw 2, AV.bool false, AV.bool false, AV.bool false, AV.int IntKind.i64 z, AV.int IntKind.u32 (0 : Int)]]), (2, AObj.log recTy rs)], nx := 3 } := by kernel_rfl

end Go.Sim.XU
