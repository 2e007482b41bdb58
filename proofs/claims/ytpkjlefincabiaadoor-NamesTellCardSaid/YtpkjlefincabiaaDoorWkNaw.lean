/-
  WkNaw: the walk of utf8.ValidString.
-/
import Derived.Test.YtpkjlefincabiaaDoorWkNam
import Derived.Test.YtpkjlefincabiaaDoorPlSkp
namespace Go.Sim
set_option linter.unusedSimpArgs false
set_option linter.unusedVariables false
theorem word_ev (s : List UInt8) : evFn (env []) H.unicode_utf8_word_string (LPof []) F.unicode_utf8_word_string [.str s] [] (finK 0) =
  bif decide ((0 : Int) < (↑s.length : Int)) then
    bif decide ((1 : Int) < (↑s.length : Int)) then
      bif decide ((2 : Int) < (↑s.length : Int)) then
        bif decide ((3 : Int) < (↑s.length : Int)) then
          bif decide ((4 : Int) < (↑s.length : Int)) then
            bif decide ((5 : Int) < (↑s.length : Int)) then
              bif decide ((6 : Int) < (↑s.length : Int)) then
                bif decide ((7 : Int) < (↑s.length : Int)) then
                  some
                    (AV.int IntKind.u64
                        (IntKind.u64.wrap
                          (↑(BitVec.ofInt 64
                                    (IntKind.u64.wrap
                                      (↑(BitVec.ofInt 64
                                                (IntKind.u64.wrap
                                                  (↑(BitVec.ofInt 64
                                                            (IntKind.u64.wrap
                                                              (↑(BitVec.ofInt 64
                                                                        (IntKind.u64.wrap
                                                                          (↑(BitVec.ofInt 64
                                                                                    (IntKind.u64.wrap
                                                                                      (↑(BitVec.ofInt 64
                                                                                                (IntKind.u64.wrap
                                                                                                  (↑(BitVec.ofInt 64
                                                                                                            (IntKind.u64.wrap
                                                                                                              (↑(s.getD 0 (0 : UInt8)).toNat :
                                                                                                                Int)) |||
                                                                                                          BitVec.ofInt 64
                                                                                                            (IntKind.u64.wrap
                                                                                                              (IntKind.u64.wrap
                                                                                                                  (↑(s.getD 1
                                                                                                                          (0 : UInt8)).toNat :
                                                                                                                    Int) *
                                                                                                                (256 : Int)))).toNat :
                                                                                                    Int)) |||
                                                                                              BitVec.ofInt 64
                                                                                                (IntKind.u64.wrap
                                                                                                  (IntKind.u64.wrap
                                                                                                      (↑(s.getD 2 (0 : UInt8)).toNat : Int) *
                                                                                                    (65536 : Int)))).toNat :
                                                                                        Int)) |||
                                                                                  BitVec.ofInt 64
                                                                                    (IntKind.u64.wrap
                                                                                      (IntKind.u64.wrap (↑(s.getD 3 (0 : UInt8)).toNat : Int) *
                                                                                        (16777216 : Int)))).toNat :
                                                                            Int)) |||
                                                                      BitVec.ofInt 64
                                                                        (IntKind.u64.wrap
                                                                          (IntKind.u64.wrap (↑(s.getD 4 (0 : UInt8)).toNat : Int) *
                                                                            (4294967296 : Int)))).toNat :
                                                                Int)) |||
                                                          BitVec.ofInt 64
                                                            (IntKind.u64.wrap
                                                              (IntKind.u64.wrap (↑(s.getD 5 (0 : UInt8)).toNat : Int) *
                                                                (1099511627776 : Int)))).toNat :
                                                    Int)) |||
                                              BitVec.ofInt 64
                                                (IntKind.u64.wrap
                                                  (IntKind.u64.wrap (↑(s.getD 6 (0 : UInt8)).toNat : Int) * (281474976710656 : Int)))).toNat :
                                        Int)) |||
                                  BitVec.ofInt 64
                                    (IntKind.u64.wrap
                                      (IntKind.u64.wrap (↑(s.getD 7 (0 : UInt8)).toNat : Int) * (72057594037927936 : Int)))).toNat :
                            Int)),
                      [])
                else none
              else none
            else none
          else none
        else none
      else none
    else none
  else none := by kernel_rfl

def caseWord : PCase := ⟨[.ty .str], [.int .u64], fun x => [(decide (8 ≤ List.length x.1), (((w8 x.1).toNat : Int), ()))]⟩
theorem word_val (s : List UInt8) (h : 8 ≤ s.length) : evFn (env []) H.unicode_utf8_word_string (LPof []) F.unicode_utf8_word_string [.str s] [] (finK 0) = some (.int .u64 ((w8 s).toNat : Int), []) := by
  rw [word_ev, cond_pos (by omega), cond_pos (by omega), cond_pos (by omega), cond_pos (by omega), cond_pos (by omega), cond_pos (by omega), cond_pos (by omega), cond_pos (by omega)]
  have hz : ∀ x : BitVec 64, BitVec.ofInt 64 ((x.toNat : Nat) : Int) = x := fun x => by simp
  simp only [hz, ofInt_byte, ofInt_shift s 1 256 rfl (by decide), ofInt_shift s 2 65536 rfl (by decide), ofInt_shift s 3 16777216 rfl (by decide), ofInt_shift s 4 4294967296 rfl (by decide), ofInt_shift s 5 1099511627776 rfl (by decide), ofInt_shift s 6 281474976710656 rfl (by decide), ofInt_shift s 7 72057594037927936 rfl (by decide), ofInt_wrap, wrap_toNat]
  rfl
theorem word_ok : caseWord.ok P0 I.unicode_utf8_word_string := case_ok (H := H.unicode_utf8_word_string) (E := env []) (env_ok env_nil) glob0 mixed0 G.unicode_utf8_word_string Bd.unicode_utf8_word_string (by kernel_rfl) noLoops fun ⟨s, ()⟩ y h hw => by
  obtain ⟨hc, rfl⟩ := pick_pre h
  exact ⟨[], word_val s (of_decide_eq_true hc)⟩
noncomputable abbrev consW : List (FuncId × Con) := [(I.unicode_utf8_word_string, .pure (pureOf [caseWord]))]
theorem consW_ok : ∀ x ∈ consW, HoldsC P0 x.1 x.2 := by
  intro x hx
  simp at hx
  subst hx
  exact ⟨pureOf_holds (by simp; exact word_ok), C.unicode_utf8_word_string⟩
theorem vs9_rd {R : Type} (s : List UInt8) (f : Bool) (K : Ex → St → Option R) : roundK (env consW) H.unicode_utf8_ValidString 0 (LPof []) V.unicode_utf8_ValidString_9 L.unicode_utf8_ValidString_9 ⟨[(0, .str s), (2, .bool f)], [], 0⟩ K =
  Option.bind
    (bif decide ((↑s.length : Int) > (32 : Int)) then
      bif decide (8 ≤ s.length) then
        bif decide ((8 : Int) ≤ (↑s.length : Int)) then
          bif decide (8 ≤ (List.drop 8 s).length) then
            bif decide ((16 : Int) ≤ (↑s.length : Int)) then
              bif decide (8 ≤ (List.drop 16 s).length) then
                bif decide ((24 : Int) ≤ (↑s.length : Int)) then
                  bif decide (8 ≤ (List.drop 24 s).length) then
                    some
                      (IntKind.u64.wrap
                          (↑(BitVec.ofInt 64
                                    (IntKind.u64.wrap
                                      (↑(BitVec.ofInt 64
                                                (IntKind.u64.wrap
                                                  (↑(BitVec.ofInt 64 (↑(w8 s).toNat : Int) |||
                                                          BitVec.ofInt 64 (↑(w8 (List.drop 8 s)).toNat : Int)).toNat :
                                                    Int)) |||
                                              BitVec.ofInt 64
                                                (IntKind.u64.wrap
                                                  (↑(BitVec.ofInt 64 (↑(w8 (List.drop 16 s)).toNat : Int) |||
                                                          BitVec.ofInt 64 (↑(w8 (List.drop 24 s)).toNat : Int)).toNat :
                                                    Int))).toNat :
                                        Int)) &&&
                                  BitVec.ofInt 64 (9259542123273814144 : Int)).toNat :
                            Int) ==
                        (0 : Int))
                  else none
                else none
              else none
            else none
          else none
        else none
      else none
    else some false)
    fun v =>
    bif v then
      bif decide ((32 : Int) ≤ (↑s.length : Int)) then
        K Ex.normal { slots := [(0, AV.str (List.drop 32 s)), (2, AV.bool f)], objs := [], nx := 0 }
      else none
    else K (Ex.exit 2) { slots := [(0, AV.str s), (2, AV.bool f)], objs := [], nx := 0 } := by kernel_rfl

theorem ofInt_toNat64 (x : BitVec 64) : BitVec.ofInt 64 ((x.toNat : Nat) : Int) = x := by simp
theorem cond_some {c : Prop} [Decidable c] {b : Bool} {R : Type} (k : Bool → Option R) (h : Bool) : (bif decide c then some h else some false).bind k = k (decide c && h) := by
  by_cases hc : c <;> simp [hc]
theorem vs9_round {R : Type} (s : List UInt8) (f : Bool) (K : Ex → St → Option R) : roundK (env consW) H.unicode_utf8_ValidString 0 (LPof []) V.unicode_utf8_ValidString_9 L.unicode_utf8_ValidString_9 ⟨[(0, .str s), (2, .bool f)], [], 0⟩ K =
    bif decide (s.length > 32) && low32 s then K .normal ⟨[(0, .str (s.drop 32)), (2, .bool f)], [], 0⟩ else K (.exit 2) ⟨[(0, .str s), (2, .bool f)], [], 0⟩ := by
  rw [vs9_rd]
  by_cases h : s.length > 32
  · have h1 : 8 ≤ (s.drop 8).length := by simp; omega
    have h2 : 8 ≤ (s.drop 16).length := by simp; omega
    have h3 : 8 ≤ (s.drop 24).length := by simp; omega
    rw [cond_pos (by omega), cond_pos (by omega), cond_pos (by omega), cond_pos h1, cond_pos (by omega), cond_pos h2, cond_pos (by omega), cond_pos h3]
    simp only [ofInt_toNat64, wrap_toNat, Option.bind_some]
    rw [show (((((w8 s ||| w8 (s.drop 8)) ||| (w8 (s.drop 16) ||| w8 (s.drop 24))) &&& BitVec.ofInt 64 (9259542123273814144 : Int)).toNat : Int) == (0 : Int)) = low32 s from rfl]
    have hd : decide (s.length > 32) = true := decide_eq_true h
    rw [hd, Bool.true_and]
    cases low32 s
    · rfl
    · simp only [cond_true]
      rw [cond_pos (by omega)]
  · have hd : decide (s.length > 32) = false := decide_eq_false h
    rw [cond_neg (by omega), hd]
    rfl
theorem vs9_loop {R : Type} (f : Bool) (K : Ex → St → Option R) : ∀ (m : Nat) (s : List UInt8), s.length ≤ m → rounds (env consW) H.unicode_utf8_ValidString 0 (LPof []) V.unicode_utf8_ValidString_9 L.unicode_utf8_ValidString_9 (m + 1) ⟨[(0, .str s), (2, .bool f)], [], 0⟩ K = K (.exit 2) ⟨[(0, .str (skipF m s)), (2, .bool f)], [], 0⟩
  | 0, s, h => by
    have hd : decide (s.length > 32) = false := decide_eq_false (by omega)
    rw [rounds_succ', vs9_round, hd]
    rfl
  | m + 1, s, h => by
    rw [rounds_succ', vs9_round]
    simp only [skipF]
    cases hc : (decide (s.length > 32) && low32 s)
    · rfl
    · simp only [Bool.and_eq_true, decide_eq_true_eq] at hc
      exact vs9_loop f K m (s.drop 32) (by simp; omega)
def vs9Pat : SPat := ⟨[(0, .str), (2, .bool)], []⟩
def vs9LC : LoopC := LoopC.of vs9Pat (fun _ => true) fun x => [(true, .exit 2, ⟨[(0, .str (skip32 x.1.1)), (2, .bool x.1.2.1)], [], 0⟩)]
theorem vs9_lok : LoopOK P0 H.unicode_utf8_ValidString 0 L.unicode_utf8_ValidString_9 vs9LC := loop_ok_of (env_ok consW_ok) glob0 mixed0 noLoops V.unicode_utf8_ValidString_9 (by decide) fun ⟨⟨s, f, _⟩, _⟩ h hw =>
  ⟨_, vs9_loop f (fun e s => some (e, s)) (List.length s) s (Nat.le_refl _)⟩

theorem vs1_rd {R : Type} (s : List UInt8) (f : Bool) (K : Ex → St → Option R) : roundK (env consW) H.unicode_utf8_ValidString 0 (LPof [(9, vs9LC)]) V.unicode_utf8_ValidString_1 L.unicode_utf8_ValidString_1 ⟨[(0, .str s), (2, .bool f)], [], 0⟩ K =
  bif decide ((↑s.length : Int) > (0 : Int)) then
    bif decide ((0 : Int) < (↑s.length : Int)) then
      bif decide ((↑(s.getD 0 (0 : UInt8)).toNat : Int) < (128 : Int)) then
        bif decide ((1 : Int) ≤ (↑s.length : Int)) then
          Option.bind
            (bif decide ((↑(List.drop 1 s).length : Int) > (8 : Int)) then
              bif decide (8 ≤ (List.drop 1 s).length) then
                some
                  (IntKind.u64.wrap
                      (↑(BitVec.ofInt 64 (↑(w8 (List.drop 1 s)).toNat : Int) &&&
                              BitVec.ofInt 64 (9259542123273814144 : Int)).toNat :
                        Int) ==
                    (0 : Int))
              else none
            else some false)
            fun v =>
            bif v then
              bif decide ((8 : Int) ≤ (↑(List.drop 1 s).length : Int)) then
                Option.bind
                  (bif decide ((↑(List.drop 8 (List.drop 1 s)).length : Int) > (16 : Int)) then
                    bif decide (8 ≤ (List.drop 8 (List.drop 1 s)).length) then
                      bif decide ((8 : Int) ≤ (↑(List.drop 8 (List.drop 1 s)).length : Int)) then
                        bif decide (8 ≤ (List.drop 8 (List.drop 8 (List.drop 1 s))).length) then
                          some
                            (IntKind.u64.wrap
                                (↑(BitVec.ofInt 64
                                          (IntKind.u64.wrap
                                            (↑(BitVec.ofInt 64 (↑(w8 (List.drop 8 (List.drop 1 s))).toNat : Int) |||
                                                    BitVec.ofInt 64
                                                      (↑(w8 (List.drop 8 (List.drop 8 (List.drop 1 s)))).toNat : Int)).toNat :
                                              Int)) &&&
                                        BitVec.ofInt 64 (9259542123273814144 : Int)).toNat :
                                  Int) ==
                              (0 : Int))
                        else none
                      else none
                    else none
                  else some false)
                  fun v =>
                  bif v then
                    bif decide ((16 : Int) ≤ (↑(List.drop 8 (List.drop 1 s)).length : Int)) then
                      K Ex.normal
                        {
                          slots :=
                            [(0, AV.str (skip32 (List.drop 16 (List.drop 8 (List.drop 1 s))))), (2, AV.bool f)],
                          objs := [], nx := 0 }
                    else none
                  else
                    K Ex.normal
                      { slots := [(0, AV.str (List.drop 8 (List.drop 1 s))), (2, AV.bool f)], objs := [],
                        nx := 0 }
              else none
            else K Ex.normal { slots := [(0, AV.str (List.drop 1 s)), (2, AV.bool f)], objs := [], nx := 0 }
        else none
      else
        bif
            decide ((0 : Int) ≤ (↑(s.getD 0 (0 : UInt8)).toNat : Int)) &&
              decide ((↑(s.getD 0 (0 : UInt8)).toNat : Int) < (256 : Int)) then
          bif
              decide ((0 : Int) ≤ Int.fdiv (utf8First.getD (s.getD 0 (0 : UInt8)).toNat (0 : Int)) (16 : Int)) &&
                decide (Int.fdiv (utf8First.getD (s.getD 0 (0 : UInt8)).toNat (0 : Int)) (16 : Int) < (16 : Int)) then
            bif
                IntKind.i64.wrap
                    (IntKind.u8.wrap
                      (↑(BitVec.ofInt 8 (utf8First.getD (s.getD 0 (0 : UInt8)).toNat (0 : Int)) &&&
                              BitVec.ofInt 8 (7 : Int)).toNat :
                        Int)) ==
                  (2 : Int) then
              Option.bind
                (bif decide ((↑s.length : Int) < (2 : Int)) then some true
                else
                  bif decide ((1 : Int) < (↑s.length : Int)) then
                    bif
                        decide
                          ((↑(s.getD 1 (0 : UInt8)).toNat : Int) <
                            (utf8Acc.getD (Int.fdiv (utf8First.getD (s.getD 0 (0 : UInt8)).toNat (0 : Int)) (16 : Int)).toNat
                                ((Ty.int IntKind.u8).pair (Ty.int IntKind.u8)).zero).fst) then
                      some true
                    else
                      bif decide ((1 : Int) < (↑s.length : Int)) then
                        some
                          (decide
                            ((utf8Acc.getD (Int.fdiv (utf8First.getD (s.getD 0 (0 : UInt8)).toNat (0 : Int)) (16 : Int)).toNat
                                  ((Ty.int IntKind.u8).pair (Ty.int IntKind.u8)).zero).snd <
                              (↑(s.getD 1 (0 : UInt8)).toNat : Int)))
                      else none
                  else none)
                fun v =>
                bif v then K Ex.ret { slots := [(0, AV.str s), (2, AV.bool false)], objs := [], nx := 0 }
                else
                  bif decide ((2 : Int) ≤ (↑s.length : Int)) then
                    K Ex.normal { slots := [(0, AV.str (List.drop 2 s)), (2, AV.bool f)], objs := [], nx := 0 }
                  else none
            else
              bif
                  IntKind.i64.wrap
                      (IntKind.u8.wrap
                        (↑(BitVec.ofInt 8 (utf8First.getD (s.getD 0 (0 : UInt8)).toNat (0 : Int)) &&&
                                BitVec.ofInt 8 (7 : Int)).toNat :
                          Int)) ==
                    (3 : Int) then
                Option.bind
                  (bif decide ((↑s.length : Int) < (3 : Int)) then some true
                  else
                    bif decide ((1 : Int) < (↑s.length : Int)) then
                      bif
                          decide
                            ((↑(s.getD 1 (0 : UInt8)).toNat : Int) <
                              (utf8Acc.getD (Int.fdiv (utf8First.getD (s.getD 0 (0 : UInt8)).toNat (0 : Int)) (16 : Int)).toNat
                                  ((Ty.int IntKind.u8).pair (Ty.int IntKind.u8)).zero).fst) then
                        some true
                      else
                        bif decide ((1 : Int) < (↑s.length : Int)) then
                          bif
                              decide
                                ((utf8Acc.getD (Int.fdiv (utf8First.getD (s.getD 0 (0 : UInt8)).toNat (0 : Int)) (16 : Int)).toNat
                                      ((Ty.int IntKind.u8).pair (Ty.int IntKind.u8)).zero).snd <
                                  (↑(s.getD 1 (0 : UInt8)).toNat : Int)) then
                            some true
                          else
                            bif decide ((2 : Int) < (↑s.length : Int)) then
                              bif decide ((↑(s.getD 2 (0 : UInt8)).toNat : Int) < (128 : Int)) then some true
                              else
                                bif decide ((2 : Int) < (↑s.length : Int)) then
                                  some (decide ((191 : Int) < (↑(s.getD 2 (0 : UInt8)).toNat : Int)))
                                else none
                            else none
                        else none
                    else none)
                  fun v =>
                  bif v then K Ex.ret { slots := [(0, AV.str s), (2, AV.bool false)], objs := [], nx := 0 }
                  else
                    bif decide ((3 : Int) ≤ (↑s.length : Int)) then
                      K Ex.normal { slots := [(0, AV.str (List.drop 3 s)), (2, AV.bool f)], objs := [], nx := 0 }
                    else none
              else
                bif
                    IntKind.i64.wrap
                        (IntKind.u8.wrap
                          (↑(BitVec.ofInt 8 (utf8First.getD (s.getD 0 (0 : UInt8)).toNat (0 : Int)) &&&
                                  BitVec.ofInt 8 (7 : Int)).toNat :
                            Int)) ==
                      (4 : Int) then
                  Option.bind
                    (bif decide ((↑s.length : Int) < (4 : Int)) then some true
                    else
                      bif decide ((1 : Int) < (↑s.length : Int)) then
                        bif
                            decide
                              ((↑(s.getD 1 (0 : UInt8)).toNat : Int) <
                                (utf8Acc.getD (Int.fdiv (utf8First.getD (s.getD 0 (0 : UInt8)).toNat (0 : Int)) (16 : Int)).toNat
                                    ((Ty.int IntKind.u8).pair (Ty.int IntKind.u8)).zero).fst) then
                          some true
                        else
                          bif decide ((1 : Int) < (↑s.length : Int)) then
                            bif
                                decide
                                  ((utf8Acc.getD (Int.fdiv (utf8First.getD (s.getD 0 (0 : UInt8)).toNat (0 : Int)) (16 : Int)).toNat
                                        ((Ty.int IntKind.u8).pair (Ty.int IntKind.u8)).zero).snd <
                                    (↑(s.getD 1 (0 : UInt8)).toNat : Int)) then
                              some true
                            else
                              bif decide ((2 : Int) < (↑s.length : Int)) then
                                bif decide ((↑(s.getD 2 (0 : UInt8)).toNat : Int) < (128 : Int)) then some true
                                else
                                  bif decide ((2 : Int) < (↑s.length : Int)) then
                                    bif decide ((191 : Int) < (↑(s.getD 2 (0 : UInt8)).toNat : Int)) then some true
                                    else
                                      bif decide ((3 : Int) < (↑s.length : Int)) then
                                        bif decide ((↑(s.getD 3 (0 : UInt8)).toNat : Int) < (128 : Int)) then some true
                                        else
                                          bif decide ((3 : Int) < (↑s.length : Int)) then
                                            some (decide ((191 : Int) < (↑(s.getD 3 (0 : UInt8)).toNat : Int)))
                                          else none
                                      else none
                                  else none
                              else none
                          else none
                      else none)
                    fun v =>
                    bif v then K Ex.ret { slots := [(0, AV.str s), (2, AV.bool false)], objs := [], nx := 0 }
                    else
                      bif decide ((4 : Int) ≤ (↑s.length : Int)) then
                        K Ex.normal { slots := [(0, AV.str (List.drop 4 s)), (2, AV.bool f)], objs := [], nx := 0 }
                      else none
                else K Ex.ret { slots := [(0, AV.str s), (2, AV.bool false)], objs := [], nx := 0 }
          else none
        else none
    else none
  else K (Ex.exit 0) { slots := [(0, AV.str s), (2, AV.bool f)], objs := [], nx := 0 } := by kernel_rfl

def vsSt (s : List UInt8) (f : Bool) : St := ⟨[(0, .str s), (2, .bool f)], [], 0⟩
theorem vs1_end {R : Type} (f : Bool) (K : Ex → St → Option R) : roundK (env consW) H.unicode_utf8_ValidString 0 (LPof [(9, vs9LC)]) V.unicode_utf8_ValidString_1 L.unicode_utf8_ValidString_1 (vsSt [] f) K = K (.exit 0) (vsSt [] f) := by
  unfold vsSt
  rw [vs1_rd, cond_neg (by simp)]
theorem vs1_asc {R : Type} (s : List UInt8) (f : Bool) (hl : 1 ≤ s.length) (h : bt s 0 < 128) (K : Ex → St → Option R) : roundK (env consW) H.unicode_utf8_ValidString 0 (LPof [(9, vs9LC)]) V.unicode_utf8_ValidString_1 L.unicode_utf8_ValidString_1 (vsSt s f) K = K .normal (vsSt (adv (s.drop 1)) f) := by
  unfold bt at h
  unfold vsSt
  rw [vs1_rd, cond_pos (by omega), cond_pos (by omega), cond_pos (by omega), cond_pos (by omega)]
  unfold adv
  by_cases h8 : (s.drop 1).length > 8
  · have hd : decide ((s.drop 1).length > 8) = true := decide_eq_true h8
    rw [hd, cond_pos (by omega), cond_pos (by omega)]
    simp only [ofInt_toNat64, wrap_toNat, Option.bind_some, Bool.true_and]
    rw [show ((((w8 (s.drop 1)) &&& BitVec.ofInt 64 (9259542123273814144 : Int)).toNat : Int) == (0 : Int)) = low8 (s.drop 1) from rfl]
    cases low8 (s.drop 1)
    · rfl
    · simp only [cond_true]
      rw [cond_pos (by omega)]
      by_cases h16 : ((s.drop 1).drop 8).length > 16
      · have hd2 : decide (((s.drop 1).drop 8).length > 16) = true := decide_eq_true h16
        have h8' : 8 ≤ (((s.drop 1).drop 8).drop 8).length := by rw [List.length_drop]; omega
        rw [hd2, cond_pos (by omega), cond_pos (by omega), cond_pos (by omega), cond_pos h8']
        simp only [Option.bind_some, Bool.true_and]
        rw [show ((((w8 ((s.drop 1).drop 8) ||| w8 (((s.drop 1).drop 8).drop 8)) &&& BitVec.ofInt 64 (9259542123273814144 : Int)).toNat : Int) == (0 : Int)) = low16 ((s.drop 1).drop 8) from rfl]
        cases low16 ((s.drop 1).drop 8)
        · rfl
        · simp only [cond_true]
          rw [cond_pos (by omega)]
      · have hd2 : decide (((s.drop 1).drop 8).length > 16) = false := decide_eq_false h16
        rw [hd2, cond_neg (by omega)]
        rfl
  · have hd : decide ((s.drop 1).length > 8) = false := decide_eq_false h8
    rw [hd, cond_neg (by omega)]
    rfl

theorem vs1_head {R : Type} (s : List UInt8) (f : Bool) (hl : 1 ≤ s.length) (h : 128 ≤ bt s 0) {F q : Int} {lo hi : Int} (hF : utf8F (bt s 0) = F) (hq : Int.fdiv F 16 = q) (h0 : 0 ≤ q) (h1 : q < 16)
    (ha : utf8Acc.getD q.toNat (0, 0) = (lo, hi)) (K : Ex → St → Option R) (z : Int) (hz : IntKind.i64.wrap (IntKind.u8.wrap (↑(BitVec.ofInt 8 F &&& BitVec.ofInt 8 (7 : Int)).toNat : Int)) = z) :
    roundK (env consW) H.unicode_utf8_ValidString 0 (LPof [(9, vs9LC)]) V.unicode_utf8_ValidString_1 L.unicode_utf8_ValidString_1 (vsSt s f) K =
      bif z == (2 : Int) then (bif decide (2 ≤ s.length) && (decide (lo ≤ (bt s 1 : Int)) && decide ((bt s 1 : Int) ≤ hi)) then K .normal (vsSt (s.drop 2) f) else K .ret (vsSt s false))
      else bif z == (3 : Int) then (bif decide (3 ≤ s.length) && (decide (lo ≤ (bt s 1 : Int)) && decide ((bt s 1 : Int) ≤ hi)) && tailB (bt s 2) then K .normal (vsSt (s.drop 3) f) else K .ret (vsSt s false))
      else bif z == (4 : Int) then (bif decide (4 ≤ s.length) && (decide (lo ≤ (bt s 1 : Int)) && decide ((bt s 1 : Int) ≤ hi)) && tailB (bt s 2) && tailB (bt s 3) then K .normal (vsSt (s.drop 4) f) else K .ret (vsSt s false))
      else K .ret (vsSt s false) := by
  have hF' : utf8First.getD (s.getD 0 0).toNat (0 : Int) = F := (utf8First_get _ (bt_lt s 0)).trans hF
  have hb := bt_lt s 0
  unfold bt at h hb
  unfold vsSt
  have ha1 : (utf8Acc.getD q.toNat ((Ty.int IntKind.u8).pair (Ty.int IntKind.u8)).zero).fst = lo := congrArg Prod.fst ha
  have ha2 : (utf8Acc.getD q.toNat ((Ty.int IntKind.u8).pair (Ty.int IntKind.u8)).zero).snd = hi := congrArg Prod.snd ha
  rw [vs1_rd, cond_pos (by omega), cond_pos (by omega), cond_neg (by omega), cond_pos2 (by omega) (by omega)]
  simp only [hF', hq]
  rw [cond_pos2 h0 h1]
  simp only [ha1, ha2, hz]
  unfold tailB bt
  have t2 : decide (lo ≤ ((s.getD 1 0).toNat : Int)) = !decide (((s.getD 1 0).toNat : Int) < lo) := by rw [← decide_not]; exact decide_eq_decide.2 (by omega)
  have t3 : decide (((s.getD 1 0).toNat : Int) ≤ hi) = !decide (hi < ((s.getD 1 0).toNat : Int)) := by rw [← decide_not]; exact decide_eq_decide.2 (by omega)
  have u1 : ∀ k, decide (128 ≤ (s.getD k 0).toNat) = !decide (((s.getD k 0).toNat : Int) < 128) := fun k => by rw [← decide_not]; exact decide_eq_decide.2 (by omega)
  have u2 : ∀ k, decide ((s.getD k 0).toNat ≤ 191) = !decide ((191 : Int) < ((s.getD k 0).toNat : Int)) := fun k => by rw [← decide_not]; exact decide_eq_decide.2 (by omega)
  simp only [t2, t3, u1, u2]
  generalize decide (((s.getD 1 0).toNat : Int) < lo) = A
  generalize decide (hi < ((s.getD 1 0).toNat : Int)) = B
  generalize decide (((s.getD 2 0).toNat : Int) < 128) = C
  generalize decide ((191 : Int) < ((s.getD 2 0).toNat : Int)) = D
  generalize decide (((s.getD 3 0).toNat : Int) < 128) = X
  generalize decide ((191 : Int) < ((s.getD 3 0).toNat : Int)) = Y
  have lt2 : decide ((s.length : Int) < (2 : Int)) = !decide (2 ≤ s.length) := by rw [← decide_not]; exact decide_eq_decide.2 (by omega)
  have le2 : decide ((2 : Int) ≤ (s.length : Int)) = decide (2 ≤ s.length) := decide_eq_decide.2 (by omega)
  have ls2 : decide ((1 : Int) < (s.length : Int)) = decide (2 ≤ s.length) := decide_eq_decide.2 (by omega)
  have lt3 : decide ((s.length : Int) < (3 : Int)) = !decide (3 ≤ s.length) := by rw [← decide_not]; exact decide_eq_decide.2 (by omega)
  have le3 : decide ((3 : Int) ≤ (s.length : Int)) = decide (3 ≤ s.length) := decide_eq_decide.2 (by omega)
  have ls3 : decide ((2 : Int) < (s.length : Int)) = decide (3 ≤ s.length) := decide_eq_decide.2 (by omega)
  have lt4 : decide ((s.length : Int) < (4 : Int)) = !decide (4 ≤ s.length) := by rw [← decide_not]; exact decide_eq_decide.2 (by omega)
  have le4 : decide ((4 : Int) ≤ (s.length : Int)) = decide (4 ≤ s.length) := decide_eq_decide.2 (by omega)
  have ls4 : decide ((3 : Int) < (s.length : Int)) = decide (4 ≤ s.length) := decide_eq_decide.2 (by omega)
  simp only [lt2, lt3, lt4, le2, le3, le4, ls2, ls3, ls4]
  cases z == (2 : Int)
  · cases z == (3 : Int)
    · cases z == (4 : Int)
      · rfl
      · by_cases hlen : 4 ≤ s.length
        · have w1 : decide (2 ≤ s.length) = true := decide_eq_true (by omega)
          have w2 : decide (3 ≤ s.length) = true := decide_eq_true (by omega)
          have w3 : decide (4 ≤ s.length) = true := decide_eq_true (by omega)
          simp only [w1, w2, w3]
          cases A <;> cases B <;> cases C <;> cases D <;> cases X <;> cases Y <;> rfl
        · have w3 : decide (4 ≤ s.length) = false := decide_eq_false hlen
          simp only [w3]
          rfl
    · by_cases hlen : 3 ≤ s.length
      · have w1 : decide (2 ≤ s.length) = true := decide_eq_true (by omega)
        have w2 : decide (3 ≤ s.length) = true := decide_eq_true (by omega)
        simp only [w1, w2]
        cases A <;> cases B <;> cases C <;> cases D <;> rfl
      · have w3 : decide (3 ≤ s.length) = false := decide_eq_false hlen
        simp only [w3]
        rfl
  · by_cases hlen : 2 ≤ s.length
    · have w1 : decide (2 ≤ s.length) = true := decide_eq_true (by omega)
      simp only [w1]
      cases A <;> cases B <;> rfl
    · have w3 : decide (2 ≤ s.length) = false := decide_eq_false hlen
      simp only [w3]
      rfl

/-- How a round ends. -/
def roundV (s : List UInt8) (f : Bool) (o : Option Nat) {R : Type} (K : Ex → St → Option R) : Option R := match o with
  | some w => K .normal (vsSt (s.drop w) f)
  | none => K .ret (vsSt s false)
theorem roundV_if {s : List UInt8} {f : Bool} {c c' : Bool} {w : Nat} (h : c = c') {R : Type} (K : Ex → St → Option R) : (bif c then K .normal (vsSt (s.drop w) f) else K .ret (vsSt s false)) = roundV s f (if c' = true then some w else none) K := by
  subst h
  cases c <;> rfl
theorem vs1_high {R : Type} (s : List UInt8) (f : Bool) (hl : 1 ≤ s.length) (h : 128 ≤ bt s 0) (K : Ex → St → Option R) :
    roundK (env consW) H.unicode_utf8_ValidString 0 (LPof [(9, vs9LC)]) V.unicode_utf8_ValidString_1 L.unicode_utf8_ValidString_1 (vsSt s f) K = roundV s f (good1 s) K := by
  have hb := bt_lt s 0
  unfold good1
  rw [if_neg (by omega)]
  by_cases h0 : bt s 0 < 194
  · have hF : utf8F (bt s 0) = 241 := by
        unfold utf8F
        repeat' split
        all_goals first | rfl | omega
    rw [vs1_head s f hl h hF (q := 15) rfl (by decide) (by decide) (lo := 0) (hi := 0) rfl K 1 (by decide)]
    rw [if_pos h0]
    rfl
  · skip
    by_cases h1 : bt s 0 < 224
    · have hF : utf8F (bt s 0) = 2 := by
          unfold utf8F
          repeat' split
          all_goals first | rfl | omega
      rw [vs1_head s f hl h hF (q := 0) rfl (by decide) (by decide) (lo := 128) (hi := 191) rfl K 2 (by decide)]
      rw [if_neg (by omega), if_pos h1]
      exact roundV_if (by unfold tailB; rw [Bool.eq_iff_iff]; simp only [Bool.and_eq_true, decide_eq_true_eq]; omega) K
    · skip
      by_cases h2 : bt s 0 = 224
      · have hF : utf8F (bt s 0) = 19 := by
            unfold utf8F
            repeat' split
            all_goals first | rfl | omega
        rw [vs1_head s f hl h hF (q := 1) rfl (by decide) (by decide) (lo := 160) (hi := 191) rfl K 3 (by decide)]
        rw [if_neg (by omega), if_neg (by omega), if_pos (by omega)]
        exact roundV_if (by unfold tailB; rw [Bool.eq_iff_iff]; simp only [Bool.and_eq_true, Bool.or_eq_true, decide_eq_true_eq]; omega) K
      · skip
        by_cases h3 : bt s 0 < 237
        · have hF : utf8F (bt s 0) = 3 := by
              unfold utf8F
              repeat' split
              all_goals first | rfl | omega
          rw [vs1_head s f hl h hF (q := 0) rfl (by decide) (by decide) (lo := 128) (hi := 191) rfl K 3 (by decide)]
          rw [if_neg (by omega), if_neg (by omega), if_pos (by omega)]
          exact roundV_if (by unfold tailB; rw [Bool.eq_iff_iff]; simp only [Bool.and_eq_true, Bool.or_eq_true, decide_eq_true_eq]; omega) K
        · skip
          by_cases h4 : bt s 0 = 237
          · have hF : utf8F (bt s 0) = 35 := by
                unfold utf8F
                repeat' split
                all_goals first | rfl | omega
            rw [vs1_head s f hl h hF (q := 2) rfl (by decide) (by decide) (lo := 128) (hi := 159) rfl K 3 (by decide)]
            rw [if_neg (by omega), if_neg (by omega), if_pos (by omega)]
            exact roundV_if (by unfold tailB; rw [Bool.eq_iff_iff]; simp only [Bool.and_eq_true, Bool.or_eq_true, decide_eq_true_eq]; omega) K
          · skip
            by_cases h5 : bt s 0 < 240
            · have hF : utf8F (bt s 0) = 3 := by
                  unfold utf8F
                  repeat' split
                  all_goals first | rfl | omega
              rw [vs1_head s f hl h hF (q := 0) rfl (by decide) (by decide) (lo := 128) (hi := 191) rfl K 3 (by decide)]
              rw [if_neg (by omega), if_neg (by omega), if_pos (by omega)]
              exact roundV_if (by unfold tailB; rw [Bool.eq_iff_iff]; simp only [Bool.and_eq_true, Bool.or_eq_true, decide_eq_true_eq]; omega) K
            · skip
              by_cases h6 : bt s 0 = 240
              · have hF : utf8F (bt s 0) = 52 := by
                    unfold utf8F
                    repeat' split
                    all_goals first | rfl | omega
                rw [vs1_head s f hl h hF (q := 3) rfl (by decide) (by decide) (lo := 144) (hi := 191) rfl K 4 (by decide)]
                rw [if_neg (by omega), if_neg (by omega), if_neg (by omega), if_pos (by omega)]
                exact roundV_if (by unfold tailB; rw [Bool.eq_iff_iff]; simp only [Bool.and_eq_true, Bool.or_eq_true, decide_eq_true_eq]; omega) K
              · skip
                by_cases h7 : bt s 0 < 244
                · have hF : utf8F (bt s 0) = 4 := by
                      unfold utf8F
                      repeat' split
                      all_goals first | rfl | omega
                  rw [vs1_head s f hl h hF (q := 0) rfl (by decide) (by decide) (lo := 128) (hi := 191) rfl K 4 (by decide)]
                  rw [if_neg (by omega), if_neg (by omega), if_neg (by omega), if_pos (by omega)]
                  exact roundV_if (by unfold tailB; rw [Bool.eq_iff_iff]; simp only [Bool.and_eq_true, Bool.or_eq_true, decide_eq_true_eq]; omega) K
                · skip
                  by_cases h8 : bt s 0 = 244
                  · have hF : utf8F (bt s 0) = 68 := by
                        unfold utf8F
                        repeat' split
                        all_goals first | rfl | omega
                    rw [vs1_head s f hl h hF (q := 4) rfl (by decide) (by decide) (lo := 128) (hi := 143) rfl K 4 (by decide)]
                    rw [if_neg (by omega), if_neg (by omega), if_neg (by omega), if_pos (by omega)]
                    exact roundV_if (by unfold tailB; rw [Bool.eq_iff_iff]; simp only [Bool.and_eq_true, Bool.or_eq_true, decide_eq_true_eq]; omega) K
                  · skip
                    have hF : utf8F (bt s 0) = 241 := by
                          unfold utf8F
                          repeat' split
                          all_goals first | rfl | omega
                    rw [vs1_head s f hl h hF (q := 15) rfl (by decide) (by decide) (lo := 0) (hi := 0) rfl K 1 (by decide)]
                    rw [if_neg (by omega), if_neg (by omega), if_neg (by omega), if_neg (by omega)]
                    rfl

theorem vs1_loop {R : Type} (f : Bool) (K : Ex → St → Option R) : ∀ (m : Nat) (s : List UInt8), s.length ≤ m →
    rounds (env consW) H.unicode_utf8_ValidString 0 (LPof [(9, vs9LC)]) V.unicode_utf8_ValidString_1 L.unicode_utf8_ValidString_1 (m + 1) (vsSt s f) K = bif okL s then K (.exit 0) (vsSt [] f) else K .ret (vsSt (endL s) false)
  | 0, s, h => by
    have : s = [] := List.length_eq_zero_iff.1 (by omega)
    subst this
    rw [rounds_succ', vs1_end]
    rfl
  | m + 1, s, h => by
    by_cases hs : s = []
    · subst hs
      rw [rounds_succ', vs1_end]
      rfl
    · have hl : 1 ≤ s.length := by cases s with | nil => exact absurd rfl hs | cons a b => simp
      by_cases hb : bt s 0 < 128
      · have hg : good1 s = some 1 := by unfold good1; rw [if_pos hb]
        obtain ⟨a1, a2⟩ := okL_some hs hg
        obtain ⟨b1, b2, b3⟩ := adv_ok (s.drop 1)
        rw [List.length_drop] at b3
        rw [rounds_succ', vs1_asc s f hl hb, a1, a2, ← b1, ← b2]
        exact vs1_loop f K m (adv (s.drop 1)) (by omega)
      · rw [rounds_succ', vs1_high s f hl (by omega)]
        cases hg : good1 s with
        | none =>
          obtain ⟨a1, a2⟩ := okL_none hs hg
          rw [a1, a2]
          rfl
        | some w =>
          obtain ⟨a1, a2⟩ := okL_some hs hg
          have hp := good1_pos hg
          rw [a1, a2]
          exact vs1_loop f K m (s.drop w) (by rw [List.length_drop]; omega)
def vs1Pat : SPat := ⟨[(0, .str), (2, .bool)], []⟩
def vs1LC : LoopC := LoopC.of vs1Pat (fun _ => true) fun x => [(okL x.1.1, .exit 0, vsSt [] x.1.2.1), (true, .ret, vsSt (endL x.1.1) false)]
theorem vs1_lok : LoopOK P0 H.unicode_utf8_ValidString 0 L.unicode_utf8_ValidString_1 vs1LC := loop_ok_of (env_ok consW_ok) glob0 mixed0 (loops_good (tab := [(9, vs9LC)]) (by kernel_rfl) (fun x hx => by simp at hx; subst hx; exact vs9_lok)) V.unicode_utf8_ValidString_1 (by decide) fun ⟨⟨s, f, _⟩, _⟩ h hw => by
  refine ⟨_, Eq.trans (vs1_loop f (fun e s => some (e, s)) (List.length s) s (Nat.le_refl _)) ?_⟩
  simp only [pick]
  cases okL s <;> rfl
theorem vs_ev (s : List UInt8) : evFn (env consW) H.unicode_utf8_ValidString (LPof [(1, vs1LC), (9, vs9LC)]) F.unicode_utf8_ValidString [.str s] [] (finK 0) =
  bif okL s then some (AV.bool true, []) else some (AV.bool false, []) := by kernel_rfl

def caseUtf : PCase := ⟨[.ty .str], [.bool], fun x => [(true, (okL x.1, ()))]⟩
theorem vs_val (s : List UInt8) : evFn (env consW) H.unicode_utf8_ValidString (LPof [(1, vs1LC), (9, vs9LC)]) F.unicode_utf8_ValidString [.str s] [] (finK 0) = some (.bool (okL s), []) := by
  rw [vs_ev]
  cases okL s <;> rfl
theorem vs_ok : caseUtf.ok P0 I.unicode_utf8_ValidString := case_ok (H := H.unicode_utf8_ValidString) (E := env consW) (env_ok consW_ok) glob0 mixed0 G.unicode_utf8_ValidString Bd.unicode_utf8_ValidString (by kernel_rfl) (loops_good (tab := [(1, vs1LC), (9, vs9LC)]) (by kernel_rfl) (fun x hx => by
    simp at hx
    rcases hx with rfl | rfl
    · exact vs1_lok
    · exact vs9_lok)) fun ⟨s, ()⟩ y h hw => by
  obtain rfl := pick_one h
  exact ⟨[], vs_val s⟩

noncomputable abbrev consX : List (FuncId × Con) := [(I.names_among, .pure (pureOf [caseAmong])), (I.names_may, .pure (pureOf [caseMay])), (I.unicode_utf8_ValidString, .pure (pureOf [caseUtf]))]
theorem consX_ok : ∀ x ∈ consX, HoldsC P0 x.1 x.2 := by
  intro x hx
  simp at hx
  rcases hx with rfl | rfl | rfl
  · exact ⟨pureOf_holds (by simp; exact among_ok), C.names_among⟩
  · exact ⟨pureOf_holds (by simp; exact may_ok), C.names_may⟩
  · exact ⟨pureOf_holds (by simp; exact vs_ok), C.unicode_utf8_ValidString⟩
theorem valid_rd {R : Type} (s t : List UInt8) (f : Bool) (n : Int) (pos : Nat) (K : Ex → St → Option R) : roundK (env consX) H.names_Valid 0 (LPof []) V.names_Valid_3 L.names_Valid_3 ⟨[(0, .str s), (2, .bool f), (3, .int .i64 n), (7, .it 0)], [(0, .siter t pos)], 1⟩ K =
  bif decide (pos < t.length) then
    Option.bind
      (bif !mayR (↑(Utf8.decode { data := t.toArray } pos).fst : Int) then some true
      else
        bif n == (0 : Int) then some (hasR [(45 : UInt8), (95 : UInt8), (46 : UInt8)] (↑(Utf8.decode { data := t.toArray } pos).fst : Int))
        else some false)
      fun v =>
      bif v then
        K Ex.ret
          { slots := [(0, AV.str s), (2, AV.bool false), (3, AV.int IntKind.i64 n), (7, AV.it 0)],
            objs := [(0, AObj.siter t (pos + (Utf8.decode { data := t.toArray } pos).snd))], nx := 1 }
      else
        K Ex.normal
          {
            slots :=
              [(0, AV.str s), (2, AV.bool f), (3, AV.int IntKind.i64 (IntKind.i64.wrap (n + (1 : Int)))),
                (7, AV.it 0)],
            objs := [(0, AObj.siter t (pos + (Utf8.decode { data := t.toArray } pos).snd))], nx := 1 }
  else
    K (Ex.exit 0)
      { slots := [(0, AV.str s), (2, AV.bool f), (3, AV.int IntKind.i64 n), (7, AV.it 0)],
        objs := [(0, AObj.siter t pos)], nx := 1 } := by kernel_rfl

def validSt (s t : List UInt8) (f : Bool) (n : Int) (pos : Nat) : St := ⟨[(0, .str s), (2, .bool f), (3, .int .i64 n), (7, .it 0)], [(0, .siter t pos)], 1⟩
theorem bind_bad {R : Type} (c : Int) (n : Int) (k : Bool → Option R) : (bif !mayR c then some true else bif n == (0 : Int) then some (hasR [(45 : UInt8), (95 : UInt8), (46 : UInt8)] c) else some false).bind k = k (badR c (n == (0 : Int))) := by
  unfold badR signsL
  cases mayR c <;> cases n == (0 : Int) <;> rfl
theorem valid_loop (s t : List UInt8) (f : Bool) (ht : t.length ≤ 9223372036854775807) {R : Type} (K : Ex → St → Option R) : ∀ (m pos : Nat) (n : Int), t.length ≤ pos + m → pos ≤ t.length → 0 ≤ n → n ≤ pos →
    rounds (env consX) H.names_Valid 0 (LPof []) V.names_Valid_3 L.names_Valid_3 (m + 1) (validSt s t f n pos) K =
      match failF m (t.drop pos) (n == (0 : Int)) with
      | some (k, w) => K .ret (validSt s t false (n + (k : Nat)) (pos + w))
      | none => K (.exit 0) (validSt s t f (n + (cnt (t.drop pos) : Nat)) t.length)
  | 0, pos, n, h, hp, h0, h1 => by
    have : pos = t.length := by omega
    subst this
    rw [rounds_succ']
    unfold validSt
    rw [valid_rd, cond_neg (by omega)]
    simp [failF, cnt_nil]
  | m + 1, pos, n, h, hp, h0, h1 => by
    rw [rounds_succ']
    unfold validSt
    by_cases hlt : pos < t.length
    · have hne := drop_ne hlt
      have hw := dec1_pos (t.drop pos)
      have hle := dec1_le _ hne
      rw [List.length_drop] at hle
      have hem : (t.drop pos).isEmpty = false := by cases hd : t.drop pos with | nil => exact absurd hd hne | cons a b => rfl
      rw [valid_rd, cond_pos hlt, bind_bad, decode_dec1]
      simp only [failF, hem, cond_false]
      cases hb : badR (((dec1 (t.drop pos)).1 : Nat) : Int) (n == (0 : Int))
      · have ih := valid_loop s t f ht K m (pos + (dec1 (t.drop pos)).2) (n + 1) (by omega) (by omega) (by omega) (by omega)
        have hn1 : ((n + 1) == (0 : Int)) = false := by simp; omega
        rw [hn1] at ih
        simp only [cond_false]
        rw [List.drop_drop, wrap64 (by omega) (by omega), cnt_cons _ hne, List.drop_drop]
        refine Eq.trans ih ?_
        cases failF m (t.drop (pos + (dec1 (t.drop pos)).2)) false with
        | none =>
          simp only [Option.map_none, validSt]
          rw [show n + 1 + ((cnt (t.drop (pos + (dec1 (t.drop pos)).2)) : Nat) : Int) = n + ((cnt (t.drop (pos + (dec1 (t.drop pos)).2)) + 1 : Nat) : Int) by omega]
        | some p =>
          obtain ⟨k, w⟩ := p
          simp only [Option.map_some, validSt]
          rw [show n + 1 + ((k : Nat) : Int) = n + ((k + 1 : Nat) : Int) by omega, Nat.add_assoc]
      · simp only [cond_true]
        rw [show n + ((0 : Nat) : Int) = n by omega]
    · have : pos = t.length := by omega
      subst this
      rw [valid_rd, cond_neg (by omega)]
      simp [failF, cnt_nil]

def validPat : SPat := ⟨[(0, .str), (2, .bool), (3, .int .i64), (7, .lit (.it 0))], [.siter]⟩
def validLC : LoopC := LoopC.of validPat (fun x => decide (x.1.2.2.1 = (0 : Int)) && decide (x.2.1.2 = 0))
  fun x => [((failF (List.length x.2.1.1) x.2.1.1 true).isSome, .ret, validSt x.1.1 x.2.1.1 false ((((failF (List.length x.2.1.1) x.2.1.1 true).getD (0, 0)).1 : Nat) : Int) ((failF (List.length x.2.1.1) x.2.1.1 true).getD (0, 0)).2),
    (true, .exit 0, validSt x.1.1 x.2.1.1 x.1.2.1 ((cnt x.2.1.1 : Nat) : Int) (List.length x.2.1.1))]
theorem valid_all (s t : List UInt8) (f : Bool) (ht : t.length ≤ 9223372036854775807) : ∃ n, rounds (env consX) H.names_Valid 0 (LPof []) V.names_Valid_3 L.names_Valid_3 n (validSt s t f 0 0) (fun e s => some (e, s)) =
    pick [((failF t.length t true).isSome, Ex.ret, validSt s t false ((((failF t.length t true).getD (0, 0)).1 : Nat) : Int) ((failF t.length t true).getD (0, 0)).2), (true, .exit 0, validSt s t f ((cnt t : Nat) : Int) t.length)] := by
  have := valid_loop s t f ht (fun e s => some (e, s)) t.length 0 0 (by omega) (Nat.zero_le _) (Int.le_refl _) (Int.le_refl _)
  rw [List.drop_zero, Int.zero_add] at this
  refine ⟨_, Eq.trans this ?_⟩
  rw [show ((0 : Int) == 0) = true from rfl]
  simp only [pick]
  cases failF t.length t true with
  | none => rfl
  | some p =>
    obtain ⟨k, w⟩ := p
    simp only [Int.zero_add, Nat.zero_add]
    rfl
theorem valid_lok : LoopOK P0 H.names_Valid 0 L.names_Valid_3 validLC := loop_ok_of (env_ok consX_ok) glob0 mixed0 noLoops V.names_Valid_3 (by decide) fun ⟨⟨s, f, n, _, _⟩, ⟨t, pos⟩, _⟩ h hw => by
  simp only [Bool.and_eq_true, decide_eq_true_eq] at h
  obtain ⟨h1, h2⟩ := h
  subst h1; subst h2
  exact valid_all s t f hw.2.1
theorem valid_ev (s : List UInt8) : evFn (env consX) H.names_Valid (LPof [(3, validLC)]) F.names_Valid [.str s] [] (finK 0) =
  bif (failF s.length s true).isSome then some (AV.bool false, [])
  else
    Option.bind
      (bif decide ((↑(cnt s) : Int) > (0 : Int)) then bif decide ((↑(cnt s) : Int) ≤ (40 : Int)) then some (okL s) else some false else some false)
      fun v => some (AV.bool v, []) := by kernel_rfl

def caseValid : PCase := ⟨[.ty .str], [.bool], fun x => [(true, (validL x.1, ()))]⟩

theorem valid_val (s : List UInt8) : evFn (env consX) H.names_Valid (LPof [(3, validLC)]) F.names_Valid [.str s] [] (finK 0) = some (.bool (validL s), []) := by
  rw [valid_ev]
  unfold validL
  cases (failF s.length s true).isSome <;> cases decide ((cnt s : Int) > 0) <;> cases decide ((cnt s : Int) ≤ 40) <;> rfl
theorem valid_ok : caseValid.ok P0 I.names_Valid := case_ok (H := H.names_Valid) (E := env consX) (env_ok consX_ok) glob0 mixed0 G.names_Valid Bd.names_Valid (by kernel_rfl) (loops_good (tab := [(3, validLC)]) (by kernel_rfl) (fun x hx => by simp at hx; subst hx; exact valid_lok)) fun ⟨s, ()⟩ y h hw => by
  obtain rfl := pick_one h
  exact ⟨[], valid_val s⟩
noncomputable abbrev consN : List (FuncId × Con) := [(I.names_Valid, .pure (pureOf [caseValid])), (I.names_Count, .pure (pureOf [caseCount])), (I.names_Cut, .pure (pureOf [caseCut])), (I.cooperagelaw3_alive, .pure (pureOf [caseAlive]))]
theorem consN_ok : ∀ x ∈ consN, HoldsC P0 x.1 x.2 := by
  intro x hx
  simp at hx
  rcases hx with rfl | rfl | rfl | rfl
  · exact ⟨pureOf_holds (by simp; exact valid_ok), C.names_Valid⟩
  · exact ⟨pureOf_holds (by simp; exact count_ok), C.names_Count⟩
  · exact ⟨pureOf_holds (by simp; exact cut_ok), C.names_Cut⟩
  · exact ⟨pureOf_holds (by simp; exact alive_ok), C.cooperagelaw3_alive⟩

end Go.Sim
