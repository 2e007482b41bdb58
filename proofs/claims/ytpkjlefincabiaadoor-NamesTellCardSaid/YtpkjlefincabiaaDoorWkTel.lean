/-
  WkTel: the walk of NamesTell.
-/
import Derived.Test.YtpkjlefincabiaaDoorWkSgn
import Derived.Test.YtpkjlefincabiaaDoorPlRn
namespace Go.Sim
set_option linter.unusedSimpArgs false
set_option linter.unusedVariables false
set_option maxRecDepth 10000
theorem rune1_rd {R : Type} (s : List UInt8) (x2 x3 n le c i : Int) (x4 : Bool) (K : Ex → St → Option R) : roundK (env []) H.cooperageref1_rune1 0 (LPof []) V.cooperageref1_rune1_23 L.cooperageref1_rune1_23 ⟨[(0, .str s), (2, .int .i64 x2), (3, .int .i64 x3), (4, .bool x4), (6, .int .i64 n), (7, .int .i64 le), (8, .int .i64 c), (9, .int .i64 i)], [], 0⟩ K =
  bif decide (i < n) then
    bif decide ((0 : Int) ≤ i) && decide (i < (↑s.length : Int)) then
      Option.bind
        (bif decide (IntKind.i64.wrap (↑(s.getD i.toNat (0 : UInt8)).toNat : Int) < (128 : Int)) then some true
        else some (decide (IntKind.i64.wrap (↑(s.getD i.toNat (0 : UInt8)).toNat : Int) > (191 : Int))))
        fun v =>
        bif v then
          K Ex.ret
            {
              slots :=
                [(0, AV.str s), (2, AV.int IntKind.i64 (0 : Int)), (3, AV.int IntKind.i64 (1 : Int)),
                  (4, AV.bool false), (6, AV.int IntKind.i64 n), (7, AV.int IntKind.i64 le), (8, AV.int IntKind.i64 c),
                  (9, AV.int IntKind.i64 i)],
              objs := [], nx := 0 }
        else
          K Ex.normal
            {
              slots :=
                [(0, AV.str s), (2, AV.int IntKind.i64 x2), (3, AV.int IntKind.i64 x3), (4, AV.bool x4),
                  (6, AV.int IntKind.i64 n), (7, AV.int IntKind.i64 le),
                  (8,
                    AV.int IntKind.i64
                      (IntKind.i64.wrap
                        (IntKind.i64.wrap (c * (64 : Int)) +
                          IntKind.i64.wrap
                            (↑(BitVec.ofInt 64 (IntKind.i64.wrap (↑(s.getD i.toNat (0 : UInt8)).toNat : Int)) &&&
                                    BitVec.ofInt 64 (63 : Int)).toNat :
                              Int)))),
                  (9, AV.int IntKind.i64 (IntKind.i64.wrap (i + (1 : Int))))],
              objs := [], nx := 0 }
    else none
  else
    K (Ex.exit 1)
      {
        slots :=
          [(0, AV.str s), (2, AV.int IntKind.i64 x2), (3, AV.int IntKind.i64 x3), (4, AV.bool x4),
            (6, AV.int IntKind.i64 n), (7, AV.int IntKind.i64 le), (8, AV.int IntKind.i64 c),
            (9, AV.int IntKind.i64 i)],
        objs := [], nx := 0 } := by kernel_rfl

theorem getD_bt (s : List UInt8) (k : Nat) : (s.getD k 0).toNat = bt s k := rfl
theorem wrap_bt (s : List UInt8) (k : Nat) : IntKind.i64.wrap ((bt s k : Nat) : Int) = ((bt s k : Nat) : Int) := by
  have := bt_lt s k
  exact wrap64 (by omega) (by omega)
theorem bad_bif (x : Nat) : (bif decide (((x : Nat) : Int) < (128 : Int)) then some true else some (decide (((x : Nat) : Int) > (191 : Int)))) = some (badB x) := by
  unfold badB
  rw [show decide (((x : Nat) : Int) < (128 : Int)) = decide (x < 128) from decide_eq_decide.2 (by omega), show decide (((x : Nat) : Int) > (191 : Int)) = decide (x > 191) from decide_eq_decide.2 (by omega)]
  cases decide (x < 128) <;> rfl
def runeSt (s : List UInt8) (x2 x3 : Int) (x4 : Bool) (n le : Int) (c i : Nat) : St := ⟨[(0, .str s), (2, .int .i64 x2), (3, .int .i64 x3), (4, .bool x4), (6, .int .i64 n), (7, .int .i64 le), (8, .int .i64 c), (9, .int .i64 i)], [], 0⟩
theorem rune1_loop (s : List UInt8) (le : Int) (N : Nat) (hN : N ≤ s.length) {R : Type} (K : Ex → St → Option R) : ∀ (k i c B : Nat), i + k = N → N ≤ 4 → c < B → B * 64 ^ k ≤ 2 ^ 50 →
    rounds (env []) H.cooperageref1_rune1 0 (LPof []) V.cooperageref1_rune1_23 L.cooperageref1_rune1_23 (k + 1) (runeSt s 0 0 false N le c i) K =
      bif (ctF s k i c).1 then K (.exit 1) (runeSt s 0 0 false N le (ctF s k i c).2.1 (ctF s k i c).2.2) else K .ret (runeSt s 0 1 false N le (ctF s k i c).2.1 (ctF s k i c).2.2)
  | 0, i, c, B, h, _, _, _ => by
    have : i = N := by omega
    subst this
    rw [rounds_succ']
    unfold runeSt
    rw [rune1_rd, cond_neg (by omega)]
    rfl
  | k + 1, i, c, B, h, h4, hc, hB => by
    have h1 := bt_lt s i
    have hB1 : B ≤ 2 ^ 50 := Nat.le_trans (Nat.le_mul_of_pos_right _ (Nat.pow_pos (by decide))) hB
    have ih := rune1_loop s le N hN K k (i + 1) (c * 64 + bt s i % 64) (64 * B) (by omega) h4 (by omega) (by rw [Nat.pow_succ] at hB; rw [Nat.mul_comm 64 B, Nat.mul_assoc, Nat.mul_comm 64]; exact hB)
    rw [rounds_succ']
    unfold runeSt at ih ⊢
    rw [rune1_rd, cond_pos (by omega), cond_pos2 (by omega) (by omega), Int.toNat_natCast, getD_bt, wrap_bt, bad_bif, and_mask _ 63 63 rfl h1 (by simp), wrap64 (n := ((bt s i % (63 + 1) : Nat) : Int)) (by omega) (by omega),
      wrap64 (n := (c : Int) * 64) (by omega) (by omega), wrap64 (n := (c : Int) * 64 + ((bt s i % (63 + 1) : Nat) : Int)) (by omega) (by omega), wrap64 (n := (i : Int) + 1) (by omega) (by omega)]
    simp only [Option.bind_some, ctF]
    cases badB (bt s i) with
    | true => rfl
    | false =>
      simp only [cond_false]
      rw [← ih]
      congr 2
def runePat : SPat := ⟨[(0, .str), (2, .int .i64), (3, .int .i64), (4, .bool), (6, .int .i64), (7, .int .i64), (8, .int .i64), (9, .int .i64)], []⟩
def runeCt (s : List UInt8) (n c : Int) : Bool × Nat × Nat := ctF s (n.toNat - 1) 1 c.toNat
def runeLC : LoopC := LoopC.of runePat (fun ⟨⟨s, x2, x3, x4, n, le, c, i, _⟩, _⟩ => decide (x2 = (0 : Int)) && decide (x3 = (0 : Int)) && !x4 && decide (i = (1 : Int)) && decide ((0 : Int) ≤ c) && decide (c < (256 : Int)) && decide ((2 : Int) ≤ n) && decide (n ≤ (4 : Int)) && decide (n ≤ (List.length s : Int)))
  fun ⟨⟨s, x2, x3, x4, n, le, c, i, _⟩, _⟩ => [((runeCt s n c).1, .exit 1, runeSt s 0 0 false n le (runeCt s n c).2.1 (runeCt s n c).2.2), (true, .ret, runeSt s 0 1 false n le (runeCt s n c).2.1 (runeCt s n c).2.2)]
theorem rune1_all (s : List UInt8) (le n c : Int) (h1 : 0 ≤ c) (h2 : c < 256) (h3 : 2 ≤ n) (h4 : n ≤ 4) (h5 : n ≤ (s.length : Int)) : ∃ k, rounds (env []) H.cooperageref1_rune1 0 (LPof []) V.cooperageref1_rune1_23 L.cooperageref1_rune1_23 k
      ⟨[(0, .str s), (2, .int .i64 0), (3, .int .i64 0), (4, .bool false), (6, .int .i64 n), (7, .int .i64 le), (8, .int .i64 c), (9, .int .i64 1)], [], 0⟩ (fun e s => some (e, s)) =
    pick [((runeCt s n c).1, .exit 1, runeSt s 0 0 false n le (runeCt s n c).2.1 (runeCt s n c).2.2), (true, .ret, runeSt s 0 1 false n le (runeCt s n c).2.1 (runeCt s n c).2.2)] := by
  obtain ⟨N, rfl⟩ := Int.eq_ofNat_of_zero_le (show 0 ≤ n by omega)
  obtain ⟨C, rfl⟩ := Int.eq_ofNat_of_zero_le h1
  have hp : 256 * 64 ^ (N - 1) ≤ 2 ^ 50 := by
    rcases (show N = 2 ∨ N = 3 ∨ N = 4 by omega) with rfl | rfl | rfl <;> decide
  have := rune1_loop s le N (by omega) (fun e s => some (e, s)) (N - 1) 1 C 256 (by omega) (by omega) (by omega) hp
  refine ⟨_, this.trans ?_⟩
  unfold runeCt
  simp only [Int.toNat_natCast, pick]
  cases (ctF s (N - 1) 1 C).1 <;> rfl
theorem rune1_lok : LoopOK P0 H.cooperageref1_rune1 0 L.cooperageref1_rune1_23 runeLC := loop_ok_of (env_ok env_nil) glob0 mixed0 noLoops V.cooperageref1_rune1_23 (by decide) fun ⟨⟨s, x2, x3, x4, n, le, c, i, _⟩, _⟩ h hw => by
  simp only [Bool.and_eq_true, decide_eq_true_eq, Bool.not_eq_true'] at h
  obtain ⟨⟨⟨⟨⟨⟨⟨⟨h1, h2⟩, h3⟩, h4⟩, h5⟩, h6⟩, h7⟩, h8⟩, h9⟩ := h
  subst h1; subst h2; subst h3; subst h4
  exact rune1_all s le n c h5 h6 h7 h8 h9
theorem rune1_ev (s : List UInt8) : evFn (env []) H.cooperageref1_rune1 (LPof [(23, runeLC)]) F.cooperageref1_rune1 [.str s] [] (finK 0) =
  bif decide ((0 : Int) < (↑s.length : Int)) then
    bif decide (IntKind.i64.wrap (↑(s.getD 0 (0 : UInt8)).toNat : Int) < (128 : Int)) then
      some
        (AV.tup [AV.int IntKind.i64 (IntKind.i64.wrap (↑(s.getD 0 (0 : UInt8)).toNat : Int)), AV.int IntKind.i64 (1 : Int), AV.bool true], [])
    else
      Option.bind
        (bif decide (IntKind.i64.wrap (↑(s.getD 0 (0 : UInt8)).toNat : Int) ≥ (194 : Int)) then
          some (decide (IntKind.i64.wrap (↑(s.getD 0 (0 : UInt8)).toNat : Int) < (224 : Int)))
        else some false)
        fun v =>
        bif v then
          bif decide ((↑s.length : Int) < (2 : Int)) then some (AV.tup [AV.int IntKind.i64 (0 : Int), AV.int IntKind.i64 (1 : Int), AV.bool false], [])
          else
            bif
                decide
                            ((0 : Int) ≤
                              IntKind.i64.wrap
                                (↑(BitVec.ofInt 64 (IntKind.i64.wrap (↑(s.getD 0 (0 : UInt8)).toNat : Int)) &&&
                                        BitVec.ofInt 64 (31 : Int)).toNat :
                                  Int)) &&
                          decide
                            (IntKind.i64.wrap
                                (↑(BitVec.ofInt 64 (IntKind.i64.wrap (↑(s.getD 0 (0 : UInt8)).toNat : Int)) &&&
                                        BitVec.ofInt 64 (31 : Int)).toNat :
                                  Int) <
                              (256 : Int)) &&
                        true &&
                      true &&
                    decide ((2 : Int) ≤ (↑s.length : Int)) &&
                  (runeCt s (2 : Int)
                      (IntKind.i64.wrap
                        (↑(BitVec.ofInt 64 (IntKind.i64.wrap (↑(s.getD 0 (0 : UInt8)).toNat : Int)) &&&
                                BitVec.ofInt 64 (31 : Int)).toNat :
                          Int))).fst then
              Option.bind
                (bif
                    decide
                      ((↑(runeCt s (2 : Int)
                                  (IntKind.i64.wrap
                                    (↑(BitVec.ofInt 64 (IntKind.i64.wrap (↑(s.getD 0 (0 : UInt8)).toNat : Int)) &&&
                                            BitVec.ofInt 64 (31 : Int)).toNat :
                                      Int))).snd.fst :
                          Int) <
                        (128 : Int)) then
                  some true
                else
                  bif
                      decide
                        ((↑(runeCt s (2 : Int)
                                    (IntKind.i64.wrap
                                      (↑(BitVec.ofInt 64 (IntKind.i64.wrap (↑(s.getD 0 (0 : UInt8)).toNat : Int)) &&&
                                              BitVec.ofInt 64 (31 : Int)).toNat :
                                        Int))).snd.fst :
                            Int) >
                          (1114111 : Int)) then
                    some true
                  else
                    bif
                        decide
                          ((↑(runeCt s (2 : Int)
                                      (IntKind.i64.wrap
                                        (↑(BitVec.ofInt 64 (IntKind.i64.wrap (↑(s.getD 0 (0 : UInt8)).toNat : Int)) &&&
                                                BitVec.ofInt 64 (31 : Int)).toNat :
                                          Int))).snd.fst :
                              Int) ≥
                            (55296 : Int)) then
                      some
                        (decide
                          ((↑(runeCt s (2 : Int)
                                      (IntKind.i64.wrap
                                        (↑(BitVec.ofInt 64 (IntKind.i64.wrap (↑(s.getD 0 (0 : UInt8)).toNat : Int)) &&&
                                                BitVec.ofInt 64 (31 : Int)).toNat :
                                          Int))).snd.fst :
                              Int) ≤
                            (57343 : Int)))
                    else some false)
                fun v =>
                bif v then some (AV.tup [AV.int IntKind.i64 (0 : Int), AV.int IntKind.i64 (1 : Int), AV.bool false], [])
                else
                  some
                    (AV.tup
                        [AV.int IntKind.i64
                            (↑(runeCt s (2 : Int)
                                      (IntKind.i64.wrap
                                        (↑(BitVec.ofInt 64 (IntKind.i64.wrap (↑(s.getD 0 (0 : UInt8)).toNat : Int)) &&&
                                                BitVec.ofInt 64 (31 : Int)).toNat :
                                          Int))).snd.fst :
                              Int),
                          AV.int IntKind.i64 (2 : Int), AV.bool true],
                      [])
            else
              bif
                  decide
                              ((0 : Int) ≤
                                IntKind.i64.wrap
                                  (↑(BitVec.ofInt 64 (IntKind.i64.wrap (↑(s.getD 0 (0 : UInt8)).toNat : Int)) &&&
                                          BitVec.ofInt 64 (31 : Int)).toNat :
                                    Int)) &&
                            decide
                              (IntKind.i64.wrap
                                  (↑(BitVec.ofInt 64 (IntKind.i64.wrap (↑(s.getD 0 (0 : UInt8)).toNat : Int)) &&&
                                          BitVec.ofInt 64 (31 : Int)).toNat :
                                    Int) <
                                (256 : Int)) &&
                          true &&
                        true &&
                      decide ((2 : Int) ≤ (↑s.length : Int)) &&
                    true then
                some (AV.tup [AV.int IntKind.i64 (0 : Int), AV.int IntKind.i64 (1 : Int), AV.bool false], [])
              else none
        else
          Option.bind
            (bif decide (IntKind.i64.wrap (↑(s.getD 0 (0 : UInt8)).toNat : Int) ≥ (224 : Int)) then
              some (decide (IntKind.i64.wrap (↑(s.getD 0 (0 : UInt8)).toNat : Int) < (240 : Int)))
            else some false)
            fun v =>
            bif v then
              bif decide ((↑s.length : Int) < (3 : Int)) then
                some (AV.tup [AV.int IntKind.i64 (0 : Int), AV.int IntKind.i64 (1 : Int), AV.bool false], [])
              else
                bif
                    decide
                                ((0 : Int) ≤
                                  IntKind.i64.wrap
                                    (↑(BitVec.ofInt 64 (IntKind.i64.wrap (↑(s.getD 0 (0 : UInt8)).toNat : Int)) &&&
                                            BitVec.ofInt 64 (15 : Int)).toNat :
                                      Int)) &&
                              decide
                                (IntKind.i64.wrap
                                    (↑(BitVec.ofInt 64 (IntKind.i64.wrap (↑(s.getD 0 (0 : UInt8)).toNat : Int)) &&&
                                            BitVec.ofInt 64 (15 : Int)).toNat :
                                      Int) <
                                  (256 : Int)) &&
                            true &&
                          true &&
                        decide ((3 : Int) ≤ (↑s.length : Int)) &&
                      (runeCt s (3 : Int)
                          (IntKind.i64.wrap
                            (↑(BitVec.ofInt 64 (IntKind.i64.wrap (↑(s.getD 0 (0 : UInt8)).toNat : Int)) &&&
                                    BitVec.ofInt 64 (15 : Int)).toNat :
                              Int))).fst then
                  Option.bind
                    (bif
                        decide
                          ((↑(runeCt s (3 : Int)
                                      (IntKind.i64.wrap
                                        (↑(BitVec.ofInt 64 (IntKind.i64.wrap (↑(s.getD 0 (0 : UInt8)).toNat : Int)) &&&
                                                BitVec.ofInt 64 (15 : Int)).toNat :
                                          Int))).snd.fst :
                              Int) <
                            (2048 : Int)) then
                      some true
                    else
                      bif
                          decide
                            ((↑(runeCt s (3 : Int)
                                        (IntKind.i64.wrap
                                          (↑(BitVec.ofInt 64 (IntKind.i64.wrap (↑(s.getD 0 (0 : UInt8)).toNat : Int)) &&&
                                                  BitVec.ofInt 64 (15 : Int)).toNat :
                                            Int))).snd.fst :
                                Int) >
                              (1114111 : Int)) then
                        some true
                      else
                        bif
                            decide
                              ((↑(runeCt s (3 : Int)
                                          (IntKind.i64.wrap
                                            (↑(BitVec.ofInt 64 (IntKind.i64.wrap (↑(s.getD 0 (0 : UInt8)).toNat : Int)) &&&
                                                    BitVec.ofInt 64 (15 : Int)).toNat :
                                              Int))).snd.fst :
                                  Int) ≥
                                (55296 : Int)) then
                          some
                            (decide
                              ((↑(runeCt s (3 : Int)
                                          (IntKind.i64.wrap
                                            (↑(BitVec.ofInt 64 (IntKind.i64.wrap (↑(s.getD 0 (0 : UInt8)).toNat : Int)) &&&
                                                    BitVec.ofInt 64 (15 : Int)).toNat :
                                              Int))).snd.fst :
                                  Int) ≤
                                (57343 : Int)))
                        else some false)
                    fun v =>
                    bif v then some (AV.tup [AV.int IntKind.i64 (0 : Int), AV.int IntKind.i64 (1 : Int), AV.bool false], [])
                    else
                      some
                        (AV.tup
                            [AV.int IntKind.i64
                                (↑(runeCt s (3 : Int)
                                          (IntKind.i64.wrap
                                            (↑(BitVec.ofInt 64 (IntKind.i64.wrap (↑(s.getD 0 (0 : UInt8)).toNat : Int)) &&&
                                                    BitVec.ofInt 64 (15 : Int)).toNat :
                                              Int))).snd.fst :
                                  Int),
                              AV.int IntKind.i64 (3 : Int), AV.bool true],
                          [])
                else
                  bif
                      decide
                                  ((0 : Int) ≤
                                    IntKind.i64.wrap
                                      (↑(BitVec.ofInt 64 (IntKind.i64.wrap (↑(s.getD 0 (0 : UInt8)).toNat : Int)) &&&
                                              BitVec.ofInt 64 (15 : Int)).toNat :
                                        Int)) &&
                                decide
                                  (IntKind.i64.wrap
                                      (↑(BitVec.ofInt 64 (IntKind.i64.wrap (↑(s.getD 0 (0 : UInt8)).toNat : Int)) &&&
                                              BitVec.ofInt 64 (15 : Int)).toNat :
                                        Int) <
                                    (256 : Int)) &&
                              true &&
                            true &&
                          decide ((3 : Int) ≤ (↑s.length : Int)) &&
                        true then
                    some (AV.tup [AV.int IntKind.i64 (0 : Int), AV.int IntKind.i64 (1 : Int), AV.bool false], [])
                  else none
            else
              Option.bind
                (bif decide (IntKind.i64.wrap (↑(s.getD 0 (0 : UInt8)).toNat : Int) ≥ (240 : Int)) then
                  some (decide (IntKind.i64.wrap (↑(s.getD 0 (0 : UInt8)).toNat : Int) < (245 : Int)))
                else some false)
                fun v =>
                bif v then
                  bif decide ((↑s.length : Int) < (4 : Int)) then
                    some (AV.tup [AV.int IntKind.i64 (0 : Int), AV.int IntKind.i64 (1 : Int), AV.bool false], [])
                  else
                    bif
                        decide
                                    ((0 : Int) ≤
                                      IntKind.i64.wrap
                                        (↑(BitVec.ofInt 64 (IntKind.i64.wrap (↑(s.getD 0 (0 : UInt8)).toNat : Int)) &&&
                                                BitVec.ofInt 64 (7 : Int)).toNat :
                                          Int)) &&
                                  decide
                                    (IntKind.i64.wrap
                                        (↑(BitVec.ofInt 64 (IntKind.i64.wrap (↑(s.getD 0 (0 : UInt8)).toNat : Int)) &&&
                                                BitVec.ofInt 64 (7 : Int)).toNat :
                                          Int) <
                                      (256 : Int)) &&
                                true &&
                              true &&
                            decide ((4 : Int) ≤ (↑s.length : Int)) &&
                          (runeCt s (4 : Int)
                              (IntKind.i64.wrap
                                (↑(BitVec.ofInt 64 (IntKind.i64.wrap (↑(s.getD 0 (0 : UInt8)).toNat : Int)) &&&
                                        BitVec.ofInt 64 (7 : Int)).toNat :
                                  Int))).fst then
                      Option.bind
                        (bif
                            decide
                              ((↑(runeCt s (4 : Int)
                                          (IntKind.i64.wrap
                                            (↑(BitVec.ofInt 64 (IntKind.i64.wrap (↑(s.getD 0 (0 : UInt8)).toNat : Int)) &&&
                                                    BitVec.ofInt 64 (7 : Int)).toNat :
                                              Int))).snd.fst :
                                  Int) <
                                (65536 : Int)) then
                          some true
                        else
                          bif
                              decide
                                ((↑(runeCt s (4 : Int)
                                            (IntKind.i64.wrap
                                              (↑(BitVec.ofInt 64 (IntKind.i64.wrap (↑(s.getD 0 (0 : UInt8)).toNat : Int)) &&&
                                                      BitVec.ofInt 64 (7 : Int)).toNat :
                                                Int))).snd.fst :
                                    Int) >
                                  (1114111 : Int)) then
                            some true
                          else
                            bif
                                decide
                                  ((↑(runeCt s (4 : Int)
                                              (IntKind.i64.wrap
                                                (↑(BitVec.ofInt 64 (IntKind.i64.wrap (↑(s.getD 0 (0 : UInt8)).toNat : Int)) &&&
                                                        BitVec.ofInt 64 (7 : Int)).toNat :
                                                  Int))).snd.fst :
                                      Int) ≥
                                    (55296 : Int)) then
                              some
                                (decide
                                  ((↑(runeCt s (4 : Int)
                                              (IntKind.i64.wrap
                                                (↑(BitVec.ofInt 64 (IntKind.i64.wrap (↑(s.getD 0 (0 : UInt8)).toNat : Int)) &&&
                                                        BitVec.ofInt 64 (7 : Int)).toNat :
                                                  Int))).snd.fst :
                                      Int) ≤
                                    (57343 : Int)))
                            else some false)
                        fun v =>
                        bif v then some (AV.tup [AV.int IntKind.i64 (0 : Int), AV.int IntKind.i64 (1 : Int), AV.bool false], [])
                        else
                          some
                            (AV.tup
                                [AV.int IntKind.i64
                                    (↑(runeCt s (4 : Int)
                                              (IntKind.i64.wrap
                                                (↑(BitVec.ofInt 64 (IntKind.i64.wrap (↑(s.getD 0 (0 : UInt8)).toNat : Int)) &&&
                                                        BitVec.ofInt 64 (7 : Int)).toNat :
                                                  Int))).snd.fst :
                                      Int),
                                  AV.int IntKind.i64 (4 : Int), AV.bool true],
                              [])
                    else
                      bif
                          decide
                                      ((0 : Int) ≤
                                        IntKind.i64.wrap
                                          (↑(BitVec.ofInt 64 (IntKind.i64.wrap (↑(s.getD 0 (0 : UInt8)).toNat : Int)) &&&
                                                  BitVec.ofInt 64 (7 : Int)).toNat :
                                            Int)) &&
                                    decide
                                      (IntKind.i64.wrap
                                          (↑(BitVec.ofInt 64 (IntKind.i64.wrap (↑(s.getD 0 (0 : UInt8)).toNat : Int)) &&&
                                                  BitVec.ofInt 64 (7 : Int)).toNat :
                                            Int) <
                                        (256 : Int)) &&
                                  true &&
                                true &&
                              decide ((4 : Int) ≤ (↑s.length : Int)) &&
                            true then
                        some (AV.tup [AV.int IntKind.i64 (0 : Int), AV.int IntKind.i64 (1 : Int), AV.bool false], [])
                      else none
                else some (AV.tup [AV.int IntKind.i64 (0 : Int), AV.int IntKind.i64 (1 : Int), AV.bool false], [])
  else none := by kernel_rfl

theorem and_bif {a b : Bool} : (bif a then some b else some false) = some (a && b) := by cases a <;> rfl
theorem or_bif {a b : Bool} : (bif a then some true else some b) = some (a || b) := by cases a <;> rfl
theorem nand_bif {a b : Bool} : (bif a then some false else some b) = some (!a && b) := by cases a <;> rfl
theorem nor_bif {a b : Bool} : (bif a then some b else some true) = some (!a || b) := by cases a <;> rfl
def r3 (x : Nat × Nat × Bool) : AV := .tup [.int .i64 (x.1 : Int), .int .i64 (x.2.1 : Int), .bool x.2.2]
theorem tell_bif (s : List UInt8) (N k : Nat) (n leI : Int) (least c0 : Nat) (hn : n = (N : Int)) (hk : N - 1 = k) (hl : leI = (least : Int)) (hc : c0 < 256) :
    (bif decide ((s.length : Int) < n) then some (AV.tup [AV.int IntKind.i64 (0 : Int), AV.int IntKind.i64 (1 : Int), AV.bool false], ([] : List AObj))
     else bif decide ((0 : Int) ≤ (c0 : Int)) && decide ((c0 : Int) < (256 : Int)) && true && true && decide (n ≤ (s.length : Int)) && (runeCt s n (c0 : Int)).fst then
       Option.bind (bif decide (((runeCt s n (c0 : Int)).snd.fst : Int) < leI) then some true else bif decide (((runeCt s n (c0 : Int)).snd.fst : Int) > (1114111 : Int)) then some true
         else some (decide (((runeCt s n (c0 : Int)).snd.fst : Int) ≥ (55296 : Int)) && decide (((runeCt s n (c0 : Int)).snd.fst : Int) ≤ (57343 : Int))))
         fun v => bif v then some (AV.tup [AV.int IntKind.i64 (0 : Int), AV.int IntKind.i64 (1 : Int), AV.bool false], []) else some (AV.tup [AV.int IntKind.i64 ((runeCt s n (c0 : Int)).snd.fst : Int), AV.int IntKind.i64 n, AV.bool true], [])
     else bif decide ((0 : Int) ≤ (c0 : Int)) && decide ((c0 : Int) < (256 : Int)) && true && true && decide (n ≤ (s.length : Int)) && true then some (AV.tup [AV.int IntKind.i64 (0 : Int), AV.int IntKind.i64 (1 : Int), AV.bool false], []) else none)
    = some (r3 (tellR s N k least c0), []) := by
  subst hn; subst hl
  unfold runeCt tellR
  rw [Int.toNat_natCast, Int.toNat_natCast, hk]
  by_cases l : s.length < N
  · rw [cond_pos (by omega), cond_pos l]; rfl
  · have e1 : (decide ((0 : Int) ≤ (c0 : Int)) && decide ((c0 : Int) < (256 : Int)) && true && true && decide ((N : Int) ≤ (s.length : Int))) = true := by simp; omega
    rw [cond_neg (by omega), cond_neg l, e1]
    cases hb : (ctF s k 1 c0).1 with
    | false => rfl
    | true =>
      simp only [Bool.and_self, cond_true]
      have e2 : (bif decide (((ctF s k 1 c0).2.1 : Int) < (least : Int)) then some true else bif decide (((ctF s k 1 c0).2.1 : Int) > (1114111 : Int)) then some true
         else some (decide (((ctF s k 1 c0).2.1 : Int) ≥ (55296 : Int)) && decide (((ctF s k 1 c0).2.1 : Int) ≤ (57343 : Int)))) = some (farB (ctF s k 1 c0).2.1 least) := by
        generalize (ctF s k 1 c0).2.1 = c
        unfold farB
        rw [show decide ((c : Int) < (least : Int)) = decide (c < least) from decide_eq_decide.2 (by omega), show decide ((c : Int) > (1114111 : Int)) = decide (c > 1114111) from decide_eq_decide.2 (by omega),
          show decide ((c : Int) ≥ (55296 : Int)) = decide (c ≥ 55296) from decide_eq_decide.2 (by omega), show decide ((c : Int) ≤ (57343 : Int)) = decide (c ≤ 57343) from decide_eq_decide.2 (by omega)]
        cases decide (c < least) <;> cases decide (c > 1114111) <;> cases decide (c ≥ 55296) <;> cases decide (c ≤ 57343) <;> rfl
      rw [e2]
      cases farB (ctF s k 1 c0).2.1 least <;> rfl
theorem rune1_val (s : List UInt8) (h : s ≠ []) : evFn (env []) H.cooperageref1_rune1 (LPof [(23, runeLC)]) F.cooperageref1_rune1 [.str s] [] (finK 0) = some (r3 (r1 s), []) := by
  have hx := bt_lt s 0
  have hl : 0 < s.length := List.length_pos_iff.2 h
  have m31 := and_mask (bt s 0) 31 31 rfl hx (by simp)
  have m15 := and_mask (bt s 0) 15 15 rfl hx (by simp)
  have m7 := and_mask (bt s 0) 7 7 rfl hx (by simp)
  have w31 : IntKind.i64.wrap ((bt s 0 % (31 + 1) : Nat) : Int) = ((bt s 0 % (31 + 1) : Nat) : Int) := wrap64 (by omega) (by omega)
  have w15 : IntKind.i64.wrap ((bt s 0 % (15 + 1) : Nat) : Int) = ((bt s 0 % (15 + 1) : Nat) : Int) := wrap64 (by omega) (by omega)
  have w7 : IntKind.i64.wrap ((bt s 0 % (7 + 1) : Nat) : Int) = ((bt s 0 % (7 + 1) : Nat) : Int) := wrap64 (by omega) (by omega)
  rw [rune1_ev, cond_pos (by omega)]
  simp only [getD_bt, wrap_bt, m31, m15, m7, w31, w15, w7, and_bif, Option.bind_some]
  rw [tell_bif s 2 1 2 128 128 _ rfl rfl rfl (by omega), tell_bif s 3 2 3 2048 2048 _ rfl rfl rfl (by omega), tell_bif s 4 3 4 65536 65536 _ rfl rfl rfl (by omega), ← r1_eq]
  unfold r1R
  rw [show decide (((bt s 0 : Nat) : Int) < (128 : Int)) = decide (bt s 0 < 128) from decide_eq_decide.2 (by omega), show decide (((bt s 0 : Nat) : Int) ≥ (194 : Int)) = decide (bt s 0 ≥ 194) from decide_eq_decide.2 (by omega),
    show decide (((bt s 0 : Nat) : Int) < (224 : Int)) = decide (bt s 0 < 224) from decide_eq_decide.2 (by omega), show decide (((bt s 0 : Nat) : Int) ≥ (224 : Int)) = decide (bt s 0 ≥ 224) from decide_eq_decide.2 (by omega),
    show decide (((bt s 0 : Nat) : Int) < (240 : Int)) = decide (bt s 0 < 240) from decide_eq_decide.2 (by omega), show decide (((bt s 0 : Nat) : Int) ≥ (240 : Int)) = decide (bt s 0 ≥ 240) from decide_eq_decide.2 (by omega),
    show decide (((bt s 0 : Nat) : Int) < (245 : Int)) = decide (bt s 0 < 245) from decide_eq_decide.2 (by omega)]
  cases decide (bt s 0 < 128) with
  | true => rfl
  | false =>
    simp only [cond_false]
    cases decide (bt s 0 ≥ 194) && decide (bt s 0 < 224) with
    | true => rfl
    | false =>
      simp only [cond_false]
      cases decide (bt s 0 ≥ 224) && decide (bt s 0 < 240) with
      | true => rfl
      | false =>
        simp only [cond_false]
        cases decide (bt s 0 ≥ 240) && decide (bt s 0 < 245) <;> rfl
def caseRune1 : PCase := ⟨[.ty .str], [.int .i64, .int .i64, .bool], fun x => [(!x.1.isEmpty, (((r1 x.1).1 : Int), (((r1 x.1).2.1 : Nat) : Int), (r1 x.1).2.2, ()))]⟩
theorem rune1_ok : caseRune1.ok P0 I.cooperageref1_rune1 := case_ok (H := H.cooperageref1_rune1) (E := env []) (env_ok env_nil) glob0 mixed0 G.cooperageref1_rune1 Bd.cooperageref1_rune1 (by kernel_rfl) (loops_good (tab := [(23, runeLC)]) (by kernel_rfl) (fun x hx => by simp at hx; subst hx; exact rune1_lok)) fun ⟨s, ()⟩ y h hw => by
  obtain ⟨hc, rfl⟩ := pick_pre h
  exact ⟨[], rune1_val s (by intro e; subst e; simp at hc)⟩
noncomputable abbrev consR : List (FuncId × Con) := [(I.cooperageref1_rune1, .pure (pureOf [caseRune1]))]
theorem consR_ok : ∀ x ∈ consR, HoldsC P0 x.1 x.2 := by
  intro x hx
  simp at hx
  subst hx
  exact ⟨pureOf_holds (by simp; exact rune1_ok), C.cooperageref1_rune1⟩
theorem rcount_rd {R : Type} (s : List UInt8) (n i : Int) (K : Ex → St → Option R) : roundK (env consR) H.cooperageref1_Count 0 (LPof []) V.cooperageref1_Count_3 L.cooperageref1_Count_3 ⟨[(0, .str s), (3, .int .i64 n), (4, .int .i64 i)], [], 0⟩ K =
  bif decide (i < (↑s.length : Int)) then
    bif decide ((0 : Int) ≤ i) && decide (i ≤ (↑s.length : Int)) then
      bif !(List.drop i.toNat s).isEmpty then
        K Ex.normal
          {
            slots :=
              [(0, AV.str s), (3, AV.int IntKind.i64 (IntKind.i64.wrap (n + (1 : Int)))),
                (4, AV.int IntKind.i64 (IntKind.i64.wrap (i + (↑(r1 (List.drop i.toNat s)).snd.fst : Int))))],
            objs := [], nx := 0 }
      else none
    else none
  else
    K (Ex.exit 0)
      { slots := [(0, AV.str s), (3, AV.int IntKind.i64 n), (4, AV.int IntKind.i64 i)], objs := [], nx := 0 } := by kernel_rfl

theorem rcut_rd {R : Type} (s : List UInt8) (n i : Int) (K : Ex → St → Option R) : roundK (env consR) H.cooperageref1_Cut 0 (LPof []) V.cooperageref1_Cut_2 L.cooperageref1_Cut_2 ⟨[(0, .str s), (1, .int .i64 n), (5, .int .i64 i)], [], 0⟩ K =
  Option.bind (bif decide (i < (↑s.length : Int)) then some (decide (n > (0 : Int))) else some false) fun v =>
    bif v then
      bif decide ((0 : Int) ≤ i) && decide (i ≤ (↑s.length : Int)) then
        bif !(List.drop i.toNat s).isEmpty then
          K Ex.normal
            {
              slots :=
                [(0, AV.str s), (1, AV.int IntKind.i64 (IntKind.i64.wrap (n - (1 : Int)))),
                  (5, AV.int IntKind.i64 (IntKind.i64.wrap (i + (↑(r1 (List.drop i.toNat s)).snd.fst : Int))))],
              objs := [], nx := 0 }
        else none
      else none
    else
      K (Ex.exit 0)
        { slots := [(0, AV.str s), (1, AV.int IntKind.i64 n), (5, AV.int IntKind.i64 i)], objs := [], nx := 0 } := by kernel_rfl

theorem rvalid_rd {R : Type} (s : List UInt8) (b : Bool) (n i : Int) (K : Ex → St → Option R) : roundK (env consR) H.cooperageref1_Valid 0 (LPof []) V.cooperageref1_Valid_3 L.cooperageref1_Valid_3 ⟨[(0, .str s), (2, .bool b), (3, .int .i64 n), (4, .int .i64 i)], [], 0⟩ K =
  bif decide (i < (↑s.length : Int)) then
    bif decide ((0 : Int) ≤ i) && decide (i ≤ (↑s.length : Int)) then
      bif !(List.drop i.toNat s).isEmpty then
        Option.bind
          (bif (↑(r1 (List.drop i.toNat s)).fst : Int) == (45 : Int) then some true
          else
            bif (↑(r1 (List.drop i.toNat s)).fst : Int) == (95 : Int) then some true else some ((↑(r1 (List.drop i.toNat s)).fst : Int) == (46 : Int)))
          fun v =>
          Option.bind
            (bif decide ((↑(r1 (List.drop i.toNat s)).fst : Int) ≥ (97 : Int)) then
              bif decide ((↑(r1 (List.drop i.toNat s)).fst : Int) ≤ (122 : Int)) then some true
              else
                bif decide ((↑(r1 (List.drop i.toNat s)).fst : Int) ≥ (48 : Int)) then
                  some (decide ((↑(r1 (List.drop i.toNat s)).fst : Int) ≤ (57 : Int)))
                else some false
            else
              bif decide ((↑(r1 (List.drop i.toNat s)).fst : Int) ≥ (48 : Int)) then
                some (decide ((↑(r1 (List.drop i.toNat s)).fst : Int) ≤ (57 : Int)))
              else some false)
            fun v_1 =>
            Option.bind
              (bif decide ((↑(r1 (List.drop i.toNat s)).fst : Int) ≥ (161 : Int)) then
                bif decide ((↑(r1 (List.drop i.toNat s)).fst : Int) ≤ (65535 : Int)) then
                  bif (↑(r1 (List.drop i.toNat s)).fst : Int) != (173 : Int) then some ((↑(r1 (List.drop i.toNat s)).fst : Int) != (65279 : Int))
                  else some false
                else some false
              else some false)
              fun v_2 =>
              Option.bind
                (bif !(r1 (List.drop i.toNat s)).snd.snd then some true
                else bif v_1 then some false else bif v_2 then some false else bif v then some !decide (i > (0 : Int)) else some true)
                fun v =>
                bif v then
                  K Ex.ret
                    {
                      slots :=
                        [(0, AV.str s), (2, AV.bool false), (3, AV.int IntKind.i64 n), (4, AV.int IntKind.i64 i)],
                      objs := [], nx := 0 }
                else
                  K Ex.normal
                    {
                      slots :=
                        [(0, AV.str s), (2, AV.bool b), (3, AV.int IntKind.i64 (IntKind.i64.wrap (n + (1 : Int)))),
                          (4, AV.int IntKind.i64 (IntKind.i64.wrap (i + (↑(r1 (List.drop i.toNat s)).snd.fst : Int))))],
                      objs := [], nx := 0 }
      else none
    else none
  else
    K (Ex.exit 0)
      { slots := [(0, AV.str s), (2, AV.bool b), (3, AV.int IntKind.i64 n), (4, AV.int IntKind.i64 i)], objs := [],
        nx := 0 } := by kernel_rfl

theorem drop_em {s : List UInt8} {pos : Nat} (h : pos < s.length) : (!(s.drop pos).isEmpty) = true := by
  have := drop_ne h
  cases hd : s.drop pos with
  | nil => exact absurd hd this
  | cons a b => rfl
def rcSt (s : List UInt8) (n i : Int) : St := ⟨[(0, .str s), (3, .int .i64 n), (4, .int .i64 i)], [], 0⟩
theorem rcount_loop (s : List UInt8) (hs : s.length ≤ 1048576) {R : Type} (K : Ex → St → Option R) : ∀ (m pos n : Nat), s.length ≤ pos + m → pos ≤ s.length → n ≤ pos →
    rounds (env consR) H.cooperageref1_Count 0 (LPof []) V.cooperageref1_Count_3 L.cooperageref1_Count_3 (m + 1) (rcSt s n pos) K = K (.exit 0) (rcSt s ((n + cnt (s.drop pos) : Nat) : Int) s.length)
  | m, pos, n, h, hp, h1 => by
    rw [rounds_succ']
    unfold rcSt
    by_cases hlt : pos < s.length
    · have hw := dec1_pos (s.drop pos)
      have hle := dec1_le _ (drop_ne hlt)
      rw [List.length_drop] at hle
      obtain ⟨m, rfl⟩ : ∃ j, m = j + 1 := ⟨m - 1, by omega⟩
      have ih := rcount_loop s hs K m (pos + (dec1 (s.drop pos)).2) (n + 1) (by omega) (by omega) (by omega)
      rw [rcount_rd, cond_pos (by omega), cond_pos2 (by omega) (by omega), Int.toNat_natCast, drop_em hlt, r1_w, wrap64 (by omega) (by omega), wrap64 (by omega) (by omega), cnt_cons _ (drop_ne hlt), List.drop_drop]
      simp only [cond_true]
      rw [show n + (cnt (s.drop (pos + (dec1 (s.drop pos)).2)) + 1) = n + 1 + cnt (s.drop (pos + (dec1 (s.drop pos)).2)) by omega]
      exact ih
    · have : pos = s.length := by omega
      subst this
      rw [rcount_rd, cond_neg (by omega)]
      simp [cnt_nil]
def rcPat : SPat := ⟨[(0, .str), (3, .int .i64), (4, .int .i64)], []⟩
def rcLC : LoopC := LoopC.of rcPat (fun ⟨⟨s, n, i, _⟩, _⟩ => decide (List.length s ≤ 1048576) && decide (n = (0 : Int)) && decide (i = (0 : Int))) fun ⟨⟨s, n, i, _⟩, _⟩ => [(true, .exit 0, rcSt s (cnt s : Nat) (List.length s))]
theorem rcount_lok : LoopOK P0 H.cooperageref1_Count 0 L.cooperageref1_Count_3 rcLC := loop_ok_of (env_ok consR_ok) glob0 mixed0 noLoops V.cooperageref1_Count_3 (by decide) fun ⟨⟨s, n, i, _⟩, _⟩ h hw => by
  simp only [Bool.and_eq_true, decide_eq_true_eq] at h
  obtain ⟨⟨h1, h2⟩, h3⟩ := h
  subst h2; subst h3
  have := rcount_loop s h1 (fun e s => some (e, s)) s.length 0 0 (by omega) (Nat.zero_le _) (Nat.le_refl _)
  rw [List.drop_zero, Nat.zero_add] at this
  exact ⟨_, this⟩
theorem rcount_ev (s : List UInt8) : evFn (env consR) H.cooperageref1_Count (LPof [(3, rcLC)]) F.cooperageref1_Count [.str s] [] (finK 0) =
  bif decide (s.length ≤ 1048576) && true && true && true then some (AV.int IntKind.i64 (↑(cnt s) : Int), []) else none := by kernel_rfl

def caseRCount : PCase := ⟨[.ty .str], [.int .i64], fun x => [(decide (List.length x.1 ≤ 1048576), (((cnt x.1 : Nat) : Int), ()))]⟩
theorem rcount_val (s : List UInt8) (h : s.length ≤ 1048576) : evFn (env consR) H.cooperageref1_Count (LPof [(3, rcLC)]) F.cooperageref1_Count [.str s] [] (finK 0) = some (.int .i64 ((cnt s : Nat) : Int), []) := by
  rw [rcount_ev]
  simp [h]
theorem rcount_ok : caseRCount.ok P0 I.cooperageref1_Count := case_ok (H := H.cooperageref1_Count) (E := env consR) (env_ok consR_ok) glob0 mixed0 G.cooperageref1_Count Bd.cooperageref1_Count (by kernel_rfl) (loops_good (tab := [(3, rcLC)]) (by kernel_rfl) (fun x hx => by simp at hx; subst hx; exact rcount_lok)) fun ⟨s, ()⟩ y h hw => by
  obtain ⟨hc, rfl⟩ := pick_pre h
  exact ⟨[], rcount_val s (of_decide_eq_true hc)⟩
def rtSt (s : List UInt8) (n i : Int) : St := ⟨[(0, .str s), (1, .int .i64 n), (5, .int .i64 i)], [], 0⟩
theorem rcut_loop (s : List UInt8) (hs : s.length ≤ 1048576) {R : Type} (K : Ex → St → Option R) : ∀ (m pos : Nat) (n : Int), s.length ≤ pos + m → pos ≤ s.length → In .i64 n →
    rounds (env consR) H.cooperageref1_Cut 0 (LPof []) V.cooperageref1_Cut_2 L.cooperageref1_Cut_2 (m + 1) (rtSt s n pos) K = K (.exit 0) (rtSt s (n - (min n.toNat (cnt (s.drop pos)) : Nat)) ((pos + cutP (s.drop pos) n.toNat : Nat) : Int))
  | m, pos, n, h, hp, hn => by
    rw [rounds_succ']
    unfold rtSt
    rw [In.i64] at hn
    by_cases hlt : pos < s.length ∧ n > 0
    · obtain ⟨hlt, h0⟩ := hlt
      have hw := dec1_pos (s.drop pos)
      have hle := dec1_le _ (drop_ne hlt)
      rw [List.length_drop] at hle
      obtain ⟨m, rfl⟩ : ∃ j, m = j + 1 := ⟨m - 1, by omega⟩
      have ih := rcut_loop s hs K m (pos + (dec1 (s.drop pos)).2) (n - 1) (by omega) (by omega) (by rw [In.i64]; omega)
      obtain ⟨k, hk⟩ : ∃ k, n.toNat = k + 1 := ⟨n.toNat - 1, by omega⟩
      have hcut : cutP (s.drop pos) n.toNat = (dec1 (s.drop pos)).2 + cutP (s.drop (pos + (dec1 (s.drop pos)).2)) (n - 1).toNat := by
        rw [hk, show (n - 1).toNat = k by omega]
        simp only [cutP, drop_ne hlt, if_false]
        rw [List.drop_drop]
      have hn2 : n - ((min n.toNat (cnt (s.drop pos)) : Nat) : Int) = (n - 1) - ((min (n - 1).toNat (cnt (s.drop (pos + (dec1 (s.drop pos)).2))) : Nat) : Int) := by
        rw [cnt_cons _ (drop_ne hlt), List.drop_drop]
        omega
      rw [rcut_rd, cond_pos (by omega), decide_eq_true h0]
      simp only [Option.bind_some, cond_true]
      rw [cond_pos2 (by omega) (by omega), Int.toNat_natCast, drop_em hlt, r1_w, wrap64 (by omega) (by omega), wrap64 (by omega) (by omega), hcut, ← Nat.add_assoc, hn2]
      exact ih
    · have e1 : (bif decide ((pos : Int) < (s.length : Int)) then some (decide (n > (0 : Int))) else some false) = some false := by
        rw [and_bif]; simp; omega
      have e2 : cutP (s.drop pos) n.toNat = 0 ∧ min n.toNat (cnt (s.drop pos)) = 0 := by
        by_cases h1 : pos < s.length
        · rw [show n.toNat = 0 by omega]; exact ⟨rfl, Nat.zero_min _⟩
        · have : pos = s.length := by omega
          subst this
          rw [List.drop_length, cnt_nil]
          exact ⟨by have := cutP_le n.toNat []; simpa using this, Nat.min_zero _⟩
      rw [rcut_rd, e1, e2.1, e2.2]
      simp only [Option.bind_some, cond_false, Nat.add_zero]
      rw [show n - ((0 : Nat) : Int) = n by omega]
def rtPat : SPat := ⟨[(0, .str), (1, .int .i64), (5, .int .i64)], []⟩
def rtLC : LoopC := LoopC.of rtPat (fun ⟨⟨s, n, i, _⟩, _⟩ => decide (List.length s ≤ 1048576) && decide (i = (0 : Int))) fun ⟨⟨s, n, i, _⟩, _⟩ => [(true, .exit 0, rtSt s (n - (min (Int.toNat n) (cnt s) : Nat)) (cutP s (Int.toNat n) : Nat))]
theorem rcut_lok : LoopOK P0 H.cooperageref1_Cut 0 L.cooperageref1_Cut_2 rtLC := loop_ok_of (env_ok consR_ok) glob0 mixed0 noLoops V.cooperageref1_Cut_2 (by decide) fun ⟨⟨s, n, i, _⟩, _⟩ h hw => by
  simp only [Bool.and_eq_true, decide_eq_true_eq] at h
  obtain ⟨h1, h3⟩ := h
  subst h3
  have := rcut_loop s h1 (fun e s => some (e, s)) s.length 0 n (by omega) (Nat.zero_le _) hw.1.2.1
  rw [List.drop_zero, Nat.zero_add] at this
  exact ⟨_, this⟩
theorem rcut_ev (s : List UInt8) (n : Int) : evFn (env consR) H.cooperageref1_Cut (LPof [(2, rtLC)]) F.cooperageref1_Cut [.str s, .int .i64 n] [] (finK 0) =
  bif decide (s.length ≤ 1048576) && true && true then
    bif decide ((0 : Int) ≤ (↑(cutP s n.toNat) : Int)) && decide ((↑(cutP s n.toNat) : Int) ≤ (↑s.length : Int)) then
      some (AV.str (List.take (cutP s n.toNat) s), [])
    else none
  else none := by kernel_rfl

def caseRCut : PCase := ⟨[.ty .str, .ty (.int .i64)], [.str], fun x => [(decide (List.length x.1 ≤ 1048576), (List.take (cutP x.1 (Int.toNat x.2.1)) x.1, ()))]⟩
theorem rcut_val (s : List UInt8) (n : Int) (h : s.length ≤ 1048576) : evFn (env consR) H.cooperageref1_Cut (LPof [(2, rtLC)]) F.cooperageref1_Cut [.str s, .int .i64 n] [] (finK 0) = some (.str (s.take (cutP s n.toNat)), []) := by
  rw [rcut_ev]
  have hle := cutP_le n.toNat s
  have h2 : decide (((cutP s n.toNat : Nat) : Int) ≤ (s.length : Int)) = true := decide_eq_true (by omega)
  simp [h, hle]
theorem rcut_ok : caseRCut.ok P0 I.cooperageref1_Cut := case_ok (H := H.cooperageref1_Cut) (E := env consR) (env_ok consR_ok) glob0 mixed0 G.cooperageref1_Cut Bd.cooperageref1_Cut (by kernel_rfl) (loops_good (tab := [(2, rtLC)]) (by kernel_rfl) (fun x hx => by simp at hx; subst hx; exact rcut_lok)) fun ⟨s, n, ()⟩ y h hw => by
  obtain ⟨hc, rfl⟩ := pick_pre h
  exact ⟨[], rcut_val s n (of_decide_eq_true hc)⟩
def rvSt (s : List UInt8) (b : Bool) (n i : Int) : St := ⟨[(0, .str s), (2, .bool b), (3, .int .i64 n), (4, .int .i64 i)], [], 0⟩
/-- One test of the document's. -/
theorem bar_eq (x : Nat × Nat × Bool) (i : Int) {Q : Type} (f : Bool → Option Q) :
    (Option.bind (bif (x.1 : Int) == (45 : Int) then some true else bif (x.1 : Int) == (95 : Int) then some true else some ((x.1 : Int) == (46 : Int))) fun v =>
      Option.bind (bif decide ((x.1 : Int) ≥ (97 : Int)) then bif decide ((x.1 : Int) ≤ (122 : Int)) then some true else bif decide ((x.1 : Int) ≥ (48 : Int)) then some (decide ((x.1 : Int) ≤ (57 : Int))) else some false
        else bif decide ((x.1 : Int) ≥ (48 : Int)) then some (decide ((x.1 : Int) ≤ (57 : Int))) else some false) fun v_1 =>
        Option.bind (bif decide ((x.1 : Int) ≥ (161 : Int)) then bif decide ((x.1 : Int) ≤ (65535 : Int)) then bif (x.1 : Int) != (173 : Int) then some ((x.1 : Int) != (65279 : Int)) else some false else some false else some false) fun v_2 =>
          Option.bind (bif !x.2.2 then some true else bif v_1 then some false else bif v_2 then some false else bif v then some !decide (i > (0 : Int)) else some true) f)
    = f (barR x (!decide (i > (0 : Int)))) := by
  unfold barR smallR bigR markR
  simp only [and_bif, or_bif, nand_bif, nor_bif, Option.bind_some]
  have e1 : (bif decide ((x.1 : Int) ≥ (97 : Int)) then bif decide ((x.1 : Int) ≤ (122 : Int)) then some true else some (decide ((x.1 : Int) ≥ (48 : Int)) && decide ((x.1 : Int) ≤ (57 : Int))) else some (decide ((x.1 : Int) ≥ (48 : Int)) && decide ((x.1 : Int) ≤ (57 : Int)))) =
      some (decide ((x.1 : Int) ≥ (97 : Int)) && decide ((x.1 : Int) ≤ (122 : Int)) || decide ((x.1 : Int) ≥ (48 : Int)) && decide ((x.1 : Int) ≤ (57 : Int))) := by
    cases decide ((x.1 : Int) ≥ (97 : Int)) <;> cases decide ((x.1 : Int) ≤ (122 : Int)) <;> rfl
  simp only [or_bif] at e1
  rw [e1]
  simp only [Option.bind_some]
theorem rvalid_loop (s : List UInt8) (hs : s.length ≤ 1048576) (b : Bool) {R : Type} (K : Ex → St → Option R) : ∀ (m pos n : Nat), s.length ≤ pos + m → pos ≤ s.length → n ≤ pos →
    rounds (env consR) H.cooperageref1_Valid 0 (LPof []) V.cooperageref1_Valid_3 L.cooperageref1_Valid_3 (m + 1) (rvSt s b n pos) K =
      match failR m (s.drop pos) (!decide ((pos : Int) > (0 : Int))) with
      | some p => K .ret (rvSt s false ((n + p.1 : Nat) : Int) ((pos + p.2 : Nat) : Int))
      | none => K (.exit 0) (rvSt s b ((n + cnt (s.drop pos) : Nat) : Int) s.length)
  | m, pos, n, h, hp, h1 => by
    rw [rounds_succ']
    unfold rvSt
    by_cases hlt : pos < s.length
    · have hw := dec1_pos (s.drop pos)
      have hle := dec1_le _ (drop_ne hlt)
      rw [List.length_drop] at hle
      obtain ⟨m, rfl⟩ : ∃ j, m = j + 1 := ⟨m - 1, by omega⟩
      have ih := rvalid_loop s hs b K m (pos + (dec1 (s.drop pos)).2) (n + 1) (by omega) (by omega) (by omega)
      have hem := drop_em hlt
      rw [rvalid_rd, cond_pos (by omega), cond_pos2 (by omega) (by omega), Int.toNat_natCast, hem, r1_w, wrap64 (by omega) (by omega), wrap64 (by omega) (by omega)]
      simp only [cond_true]
      rw [bar_eq]
      rw [Bool.not_eq_true'] at hem
      rw [failR, hem]
      simp only [cond_false]
      cases barR (r1 (s.drop pos)) (!decide ((pos : Int) > (0 : Int))) with
      | true => rfl
      | false =>
        simp only [cond_false]
        rw [show (!decide (((pos + (dec1 (s.drop pos)).2 : Nat) : Int) > (0 : Int))) = false by rw [decide_eq_true (by omega)]; rfl] at ih
        rw [List.drop_drop]
        refine Eq.trans ih ?_
        cases failR m (s.drop (pos + (dec1 (s.drop pos)).2)) false with
        | none =>
          simp only [Option.map_none]
          rw [cnt_cons _ (drop_ne hlt), List.drop_drop, show n + 1 + cnt (s.drop (pos + (dec1 (s.drop pos)).2)) = n + (cnt (s.drop (pos + (dec1 (s.drop pos)).2)) + 1) by omega]
          rfl
        | some p =>
          simp only [Option.map_some]
          rw [show n + 1 + p.1 = n + (p.1 + 1) by omega, Nat.add_assoc]
          rfl
    · have : pos = s.length := by omega
      subst this
      have e : failR m [] (!decide (((s.length : Nat) : Int) > (0 : Int))) = none := by cases m <;> rfl
      rw [rvalid_rd, cond_neg (by omega), List.drop_length, e]
      simp [cnt_nil]
def rvPat : SPat := ⟨[(0, .str), (2, .bool), (3, .int .i64), (4, .int .i64)], []⟩
def rvLC : LoopC := LoopC.of rvPat (fun ⟨⟨s, b, n, i, _⟩, _⟩ => decide (List.length s ≤ 1048576) && decide (n = (0 : Int)) && decide (i = (0 : Int)))
  fun ⟨⟨s, b, n, i, _⟩, _⟩ => [((failR (List.length s) s true).isSome, .ret, rvSt s false ((failR (List.length s) s true).getD (0, 0)).1 ((failR (List.length s) s true).getD (0, 0)).2), (true, .exit 0, rvSt s b (cnt s : Nat) (List.length s))]
theorem rvalid_all (s : List UInt8) (b : Bool) (h1 : s.length ≤ 1048576) : ∃ k, rounds (env consR) H.cooperageref1_Valid 0 (LPof []) V.cooperageref1_Valid_3 L.cooperageref1_Valid_3 k ⟨[(0, .str s), (2, .bool b), (3, .int .i64 0), (4, .int .i64 0)], [], 0⟩ (fun e s => some (e, s)) =
    pick [((failR s.length s true).isSome, .ret, rvSt s false ((failR s.length s true).getD (0, 0)).1 ((failR s.length s true).getD (0, 0)).2), (true, .exit 0, rvSt s b (cnt s : Nat) s.length)] := by
  have := rvalid_loop s h1 b (fun e s => some (e, s)) s.length 0 0 (by omega) (Nat.zero_le _) (Nat.le_refl _)
  rw [List.drop_zero, show (!decide (((0 : Nat) : Int) > (0 : Int))) = true from rfl] at this
  refine ⟨_, this.trans ?_⟩
  cases failR s.length s true with
  | none => simp [pick]
  | some p => simp [pick]
theorem rvalid_lok : LoopOK P0 H.cooperageref1_Valid 0 L.cooperageref1_Valid_3 rvLC := loop_ok_of (env_ok consR_ok) glob0 mixed0 noLoops V.cooperageref1_Valid_3 (by decide) fun ⟨⟨s, b, n, i, _⟩, _⟩ h hw => by
  simp only [Bool.and_eq_true, decide_eq_true_eq] at h
  obtain ⟨⟨h1, h2⟩, h3⟩ := h
  subst h2; subst h3
  exact rvalid_all s b h1
theorem rvalid_ev (s : List UInt8) : evFn (env consR) H.cooperageref1_Valid (LPof [(3, rvLC)]) F.cooperageref1_Valid [.str s] [] (finK 0) =
  bif decide (s.length ≤ 1048576) && true && true && (failR s.length s true).isSome then some (AV.bool false, [])
  else
    bif decide (s.length ≤ 1048576) && true && true && true then
      Option.bind (bif decide ((↑(cnt s) : Int) > (0 : Int)) then some (decide ((↑(cnt s) : Int) ≤ (40 : Int))) else some false) fun v =>
        some (AV.bool v, [])
    else none := by kernel_rfl

def caseRValid : PCase := ⟨[.ty .str], [.bool], fun x => [(decide (List.length x.1 ≤ 1048576), (validL x.1, ()))]⟩
theorem rvalid_val (s : List UInt8) (h : s.length ≤ 1048576) : evFn (env consR) H.cooperageref1_Valid (LPof [(3, rvLC)]) F.cooperageref1_Valid [.str s] [] (finK 0) = some (.bool (validL s), []) := by
  rw [rvalid_ev, ← valid_both]
  unfold validR
  simp only [h, decide_true, Bool.true_and]
  cases (failR s.length s true).isSome with
  | true => rfl
  | false =>
    cases decide (((cnt s : Nat) : Int) > 0) <;> rfl
theorem rvalid_ok : caseRValid.ok P0 I.cooperageref1_Valid := case_ok (H := H.cooperageref1_Valid) (E := env consR) (env_ok consR_ok) glob0 mixed0 G.cooperageref1_Valid Bd.cooperageref1_Valid (by kernel_rfl) (loops_good (tab := [(3, rvLC)]) (by kernel_rfl) (fun x hx => by simp at hx; subst hx; exact rvalid_lok)) fun ⟨s, ()⟩ y h hw => by
  obtain ⟨hc, rfl⟩ := pick_pre h
  exact ⟨[], rvalid_val s (of_decide_eq_true hc)⟩
noncomputable abbrev consT : List (FuncId × Con) := [(I.cooperageref1_Valid, .pure (pureOf [caseRValid])), (I.cooperageref1_Count, .pure (pureOf [caseRCount])), (I.cooperageref1_Cut, .pure (pureOf [caseRCut]))] ++ consN
theorem consT_ok : ∀ x ∈ consT, HoldsC P0 x.1 x.2 := by
  intro x hx
  rcases List.mem_append.1 hx with hx | hx
  · simp at hx
    rcases hx with rfl | rfl | rfl
    · exact ⟨pureOf_holds (by simp; exact rvalid_ok), C.cooperageref1_Valid⟩
    · exact ⟨pureOf_holds (by simp; exact rcount_ok), C.cooperageref1_Count⟩
    · exact ⟨pureOf_holds (by simp; exact rcut_ok), C.cooperageref1_Cut⟩
  · exact consN_ok x hx
theorem tell_ev (s : List UInt8) (n : Int) : evFn (env consT) H.cooperagelaw3_NamesTell (LPof []) F.cooperagelaw3_NamesTell [.str s, .int .i64 n] [] (finK 0) =
  bif decide ((↑s.length : Int) > (300 : Int)) then some (AV.bool true, [])
  else
    Option.bind
      (bif decide (s.length ≤ 1048576) then
        bif validL s == validL s then
          bif decide (s.length ≤ 1048576) then
            bif decide (s.length ≤ 1048576) then
              bif (↑(cnt s) : Int) == (↑(cnt s) : Int) then
                bif decide (s.length ≤ 1048576) then
                  bif decide (s.length ≤ 1048576) then some (List.take (cutP s n.toNat) s == List.take (cutP s n.toNat) s) else none
                else none
              else some false
            else none
          else none
        else some false
      else none)
      fun v => some (AV.bool v, []) := by kernel_rfl

theorem tell_val (s : List UInt8) (n : Int) : evFn (env consT) H.cooperagelaw3_NamesTell (LPof []) F.cooperagelaw3_NamesTell [.str s, .int .i64 n] [] (finK 0) = some (.bool true, []) := by
  rw [tell_ev]
  by_cases h : (s.length : Int) > 300
  · simp [h]
  · have h1 : s.length ≤ 1048576 := by omega
    simp [h, h1]
def tyTell : List Ty := [.str, .int .i64]
theorem tell_good (x : tysDen tyTell) (hw : tysWf tyTell x) : ∃ o, EffGood P0 I.cooperagelaw3_NamesTell (valsOf tyTell x) [] (.bool true) o :=
  ⟨[], evFn_sound (H := H.cooperagelaw3_NamesTell) (E := env consT) (env_ok consT_ok) glob0 mixed0 G.cooperagelaw3_NamesTell (args := valsOf tyTell x) (by kernel_rfl) Bd.cooperagelaw3_NamesTell noLoops (tell_val x.1 x.2.1)⟩
end Go.Sim
