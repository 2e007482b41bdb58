/-
  WkE3: walks of records as bytes. · PlCmd: commands as bytes: the plain side. · WkE4: walks of command.Bytes and command.Read. · WkE5: walks of command.Bytes and command.Read. · WkE6: the walk of command.Read. · WkE7: a command comes back from its bytes; the laws of chapter 10. · WkE8: the laws of chapter 10. · WkE9: the law CommandPlain. · LdN: what the rows say of the tables of package utf8 holds of the tables of PlTab.
-/
import Derived.Test.YtifkijepedhbgaaDoorRows
import Derived.OpenShut
import Derived.MakeChecks
import Derived.FnData
import Derived.Test.YtifkijepedhbgaaDoorPartE
namespace Go.Sim
set_option linter.unusedSimpArgs false
set_option linter.unusedVariables false
set_option maxRecDepth 10000
noncomputable abbrev consR1 : List (FuncId × Con) := [(I.record_Right, .pure (pureOf [caseRecright]))] ++ consV3
theorem consR1_ok : ∀ x ∈ consR1, HoldsC P0 x.1 x.2 := by
  intro x hx
  rcases List.mem_append.1 hx with hx | hx
  · simp at hx
    subst hx
    exact ⟨pureOf_holds (by simp; exact recright_ok), C.record_Right⟩
  · exact consV3_ok x hx
theorem recput_ev (b : List Int) (r : Rec) : evFn (env consR1) H.record_Put (LPof []) F.record_Put [.vl u8T b, valOf recT r] [] (finV (.lit (.hw 0)) [.arr 1 u8T []] 0) =
  bif decide (b.length * 1 ≤ 140737488355328) then
    bif !recR r then some ((), (b, ()), ())
    else
      bif decide (b.length ≤ 140737488355000) then
        bif decide (List.length (b ++ putN (IntKind.u64.wrap r.fst).toNat) ≤ 140737488355000) then
          bif r.snd.snd.snd.snd then
            bif
                decide
                  ((b ++ putN (IntKind.u64.wrap r.fst).toNat ++ putN (foldV r.snd.fst).toNat ++ [(1 : Int)]).length * 1 ≤
                    140737488355328) then
              bif
                  decide
                    ((b ++ putN (IntKind.u64.wrap r.fst).toNat ++ putN (foldV r.snd.fst).toNat ++ [(1 : Int)]).length ≤ 140737488355000) then
                bif
                    decide
                      ((b ++ putN (IntKind.u64.wrap r.fst).toNat ++ putN (foldV r.snd.fst).toNat ++ [(1 : Int)] ++
                                putN (IntKind.u64.wrap (↑(List.length r.snd.snd.fst) : Int)).toNat ++
                              bytesOf r.snd.snd.fst).length *
                          1 ≤
                        140737488355328) then
                  bif
                      decide
                        ((b ++ putN (IntKind.u64.wrap r.fst).toNat ++ putN (foldV r.snd.fst).toNat ++ [(1 : Int)] ++
                                putN (IntKind.u64.wrap (↑(List.length r.snd.snd.fst) : Int)).toNat ++
                              bytesOf r.snd.snd.fst).length ≤
                          140737488355000) then
                    bif
                        decide
                          ((b ++ putN (IntKind.u64.wrap r.fst).toNat ++ putN (foldV r.snd.fst).toNat ++ [(1 : Int)] ++
                                        putN (IntKind.u64.wrap (↑(List.length r.snd.snd.fst) : Int)).toNat ++
                                      bytesOf r.snd.snd.fst ++
                                    putN (IntKind.u64.wrap (↑(List.length r.snd.snd.snd.fst) : Int)).toNat ++
                                  bytesOf r.snd.snd.snd.fst).length *
                              1 ≤
                            140737488355328) then
                      some
                        ((),
                          (b ++ putN (IntKind.u64.wrap r.fst).toNat ++ putN (foldV r.snd.fst).toNat ++ [(1 : Int)] ++
                                    putN (IntKind.u64.wrap (↑(List.length r.snd.snd.fst) : Int)).toNat ++
                                  bytesOf r.snd.snd.fst ++
                                putN (IntKind.u64.wrap (↑(List.length r.snd.snd.snd.fst) : Int)).toNat ++
                              bytesOf r.snd.snd.snd.fst,
                            ()),
                          ())
                    else none
                  else none
                else none
              else none
            else none
          else
            bif
                decide
                  ((b ++ putN (IntKind.u64.wrap r.fst).toNat ++ putN (foldV r.snd.fst).toNat ++ [(0 : Int)]).length * 1 ≤
                    140737488355328) then
              bif
                  decide
                    ((b ++ putN (IntKind.u64.wrap r.fst).toNat ++ putN (foldV r.snd.fst).toNat ++ [(0 : Int)]).length ≤ 140737488355000) then
                bif
                    decide
                      ((b ++ putN (IntKind.u64.wrap r.fst).toNat ++ putN (foldV r.snd.fst).toNat ++ [(0 : Int)] ++
                                putN (IntKind.u64.wrap (↑(List.length r.snd.snd.fst) : Int)).toNat ++
                              bytesOf r.snd.snd.fst).length *
                          1 ≤
                        140737488355328) then
                  bif
                      decide
                        ((b ++ putN (IntKind.u64.wrap r.fst).toNat ++ putN (foldV r.snd.fst).toNat ++ [(0 : Int)] ++
                                putN (IntKind.u64.wrap (↑(List.length r.snd.snd.fst) : Int)).toNat ++
                              bytesOf r.snd.snd.fst).length ≤
                          140737488355000) then
                    bif
                        decide
                          ((b ++ putN (IntKind.u64.wrap r.fst).toNat ++ putN (foldV r.snd.fst).toNat ++ [(0 : Int)] ++
                                        putN (IntKind.u64.wrap (↑(List.length r.snd.snd.fst) : Int)).toNat ++
                                      bytesOf r.snd.snd.fst ++
                                    putN (IntKind.u64.wrap (↑(List.length r.snd.snd.snd.fst) : Int)).toNat ++
                                  bytesOf r.snd.snd.snd.fst).length *
                              1 ≤
                            140737488355328) then
                      some
                        ((),
                          (b ++ putN (IntKind.u64.wrap r.fst).toNat ++ putN (foldV r.snd.fst).toNat ++ [(0 : Int)] ++
                                    putN (IntKind.u64.wrap (↑(List.length r.snd.snd.fst) : Int)).toNat ++
                                  bytesOf r.snd.snd.fst ++
                                putN (IntKind.u64.wrap (↑(List.length r.snd.snd.snd.fst) : Int)).toNat ++
                              bytesOf r.snd.snd.snd.fst,
                            ()),
                          ())
                    else none
                  else none
                else none
              else none
            else none
        else none
      else none
  else none := by kernel_rfl

theorem gnum_ev (b : List Int) (i e m : Int) : evFn (env consR1) H.record_reader_number (LPof []) F.record_reader_number [.ptr 0 (.tl 0) 0, .int .u64 m] [.arr 3 .bool [] [[.vl u8T b, .int .i64 i, .int .i64 e]]] (finV (.int .u64) [.box 3 [[.vl u8T, .int .i64, .int .i64]]] 1) =
  bif e != (0 : Int) then some ((0 : Int), ((b, i, e, ()), ()), ())
  else
    bif decide ((0 : Int) ≤ i) && decide (i ≤ (↑b.length : Int)) then
      Option.bind (bif (getB (List.drop i.toNat b)).snd.snd == (0 : Int) then some (decide ((getB (List.drop i.toNat b)).fst > m)) else some false)
        fun v =>
        bif v then some ((getB (List.drop i.toNat b)).fst, ((b, IntKind.i64.wrap (i + (getB (List.drop i.toNat b)).snd.fst), (2 : Int), ()), ()), ())
        else
          some
            ((getB (List.drop i.toNat b)).fst,
              ((b, IntKind.i64.wrap (i + (getB (List.drop i.toNat b)).snd.fst), (getB (List.drop i.toNat b)).snd.snd, ()), ()), ())
    else none := by kernel_rfl

def caseGnum : VCase := ⟨[.lit (.ptr 0 (.tl 0) 0), .int .u64], [.box 3 [[.vl u8T, .int .i64, .int .i64]]], .int .u64, [.box 3 [[.vl u8T, .int .i64, .int .i64]]], fun ⟨_, m, ()⟩ ⟨⟨⟨b, i, e, ()⟩, ()⟩, ()⟩ => [(decide (0 ≤ i) && decide (i ≤ (b.length : Int)), ((gnumV m b i e).1, (((b, (gnumV m b i e).2.1, (gnumV m b i e).2.2, ()), ()), ())))]⟩
theorem gnum_val (b : List Int) (i e m : Int) (hc : (decide (0 ≤ i) && decide (i ≤ (b.length : Int))) = true) (hb : b.length ≤ maxL) : evFn (env consR1) H.record_reader_number (LPof []) F.record_reader_number [.ptr 0 (.tl 0) 0, .int .u64 m] [.arr 3 .bool [] [[.vl u8T b, .int .i64 i, .int .i64 e]]] (finV (.int .u64) [.box 3 [[.vl u8T, .int .i64, .int .i64]]] 1) = some ((gnumV m b i e).1, (((b, (gnumV m b i e).2.1, (gnumV m b i e).2.2, ()), ()), ())) := by
  unfold maxL at hb
  simp only [Bool.and_eq_true, decide_eq_true_eq] at hc
  have hg := getB_len (b.drop i.toNat)
  have hl : (b.drop i.toNat).length = b.length - i.toNat := by simp
  rw [gnum_ev, cond_pos2 hc.1 hc.2, and_bif, Option.bind_some, wrap64 (by omega) (by omega)]
  unfold gnumV
  cases e != 0
  · simp only [cond_false]
    cases (getB (b.drop i.toNat)).2.2 == 0 && decide ((getB (b.drop i.toNat)).1 > m) <;> rfl
  · rfl
theorem gnum_ok : caseGnum.e.ok P0 I.record_reader_number := vcase_ok (c := caseGnum) (H := H.record_reader_number) (E := env consR1) (env_ok consR1_ok) glob0 mixed0 G.record_reader_number Bd.record_reader_number (by kernel_rfl) noLoops fun ⟨_, m, ()⟩ ⟨⟨⟨b, i, e, ()⟩, ()⟩, ()⟩ r h hw1 hw2 => by
  obtain ⟨hc, rfl⟩ := pick_pre h
  exact gnum_val b i e m hc hw2.1.1.1.1
theorem gsign_ev (b : List Int) (i e : Int) : evFn (env consR1) H.record_reader_sign (LPof []) F.record_reader_sign [.ptr 0 (.tl 0) 0] [.arr 3 .bool [] [[.vl u8T b, .int .i64 i, .int .i64 e]]] (finV .bool [.box 3 [[.vl u8T, .int .i64, .int .i64]]] 1) =
  bif e != (0 : Int) then some (false, ((b, i, e, ()), ()), ())
  else
    bif i == (↑b.length : Int) then some (false, ((b, i, (4 : Int), ()), ()), ())
    else
      bif decide ((0 : Int) ≤ i) && decide (i < (↑b.length : Int)) then
        bif decide (b.getD i.toNat (0 : Int) > (1 : Int)) then
          bif
              decide ((0 : Int) ≤ IntKind.i64.wrap (IntKind.i64.wrap (i + (1 : Int)) - (1 : Int))) &&
                decide (IntKind.i64.wrap (IntKind.i64.wrap (i + (1 : Int)) - (1 : Int)) < (↑b.length : Int)) then
            some
              (b.getD (IntKind.i64.wrap (IntKind.i64.wrap (i + (1 : Int)) - (1 : Int))).toNat (0 : Int) == (1 : Int),
                ((b, IntKind.i64.wrap (i + (1 : Int)), (2 : Int), ()), ()), ())
          else none
        else
          bif
              decide ((0 : Int) ≤ IntKind.i64.wrap (IntKind.i64.wrap (i + (1 : Int)) - (1 : Int))) &&
                decide (IntKind.i64.wrap (IntKind.i64.wrap (i + (1 : Int)) - (1 : Int)) < (↑b.length : Int)) then
            some
              (b.getD (IntKind.i64.wrap (IntKind.i64.wrap (i + (1 : Int)) - (1 : Int))).toNat (0 : Int) == (1 : Int),
                ((b, IntKind.i64.wrap (i + (1 : Int)), e, ()), ()), ())
          else none
      else none := by kernel_rfl

def caseGsign : VCase := ⟨[.lit (.ptr 0 (.tl 0) 0)], [.box 3 [[.vl u8T, .int .i64, .int .i64]]], .bool, [.box 3 [[.vl u8T, .int .i64, .int .i64]]], fun ⟨_, ()⟩ ⟨⟨⟨b, i, e, ()⟩, ()⟩, ()⟩ => [(decide (0 ≤ i) && decide (i ≤ (b.length : Int)), ((gsignV b i e).1, (((b, (gsignV b i e).2.1, (gsignV b i e).2.2, ()), ()), ())))]⟩
theorem gsign_val (b : List Int) (i e : Int) (hc : (decide (0 ≤ i) && decide (i ≤ (b.length : Int))) = true) (hb : b.length ≤ maxL) : evFn (env consR1) H.record_reader_sign (LPof []) F.record_reader_sign [.ptr 0 (.tl 0) 0] [.arr 3 .bool [] [[.vl u8T b, .int .i64 i, .int .i64 e]]] (finV (.bool) [.box 3 [[.vl u8T, .int .i64, .int .i64]]] 1) = some ((gsignV b i e).1, (((b, (gsignV b i e).2.1, (gsignV b i e).2.2, ()), ()), ())) := by
  unfold maxL at hb
  simp only [Bool.and_eq_true, decide_eq_true_eq] at hc
  rw [gsign_ev]
  unfold gsignV
  by_cases he : e = 0
  · subst he
    simp only [bne_self_eq_false, cond_false]
    by_cases hi : i = (b.length : Int)
    · subst hi; simp only [beq_self_eq_true, cond_true]
    · have h1 : (i == (b.length : Int)) = false := by simpa using hi
      have h2 : IntKind.i64.wrap (i + 1) = i + 1 := wrap64 (by omega) (by omega)
      have h3 : IntKind.i64.wrap (i + 1 - 1) = i := by rw [wrap64 (by omega) (by omega)]; omega
      have h4 : (decide (0 ≤ i) && decide (i < (b.length : Int))) = true := by simp; omega
      rw [h1, h2, h3, h4]
      simp only [cond_false, cond_true]
      cases decide (b.getD i.toNat 0 > 1) <;> rfl
  · have e2 : (e != 0) = true := by simpa using he
    rw [e2]; rfl
theorem gsign_ok : caseGsign.e.ok P0 I.record_reader_sign := vcase_ok (c := caseGsign) (H := H.record_reader_sign) (E := env consR1) (env_ok consR1_ok) glob0 mixed0 G.record_reader_sign Bd.record_reader_sign (by kernel_rfl) noLoops fun ⟨_, ()⟩ ⟨⟨⟨b, i, e, ()⟩, ()⟩, ()⟩ r h hw1 hw2 => by
  obtain ⟨hc, rfl⟩ := pick_pre h
  exact gsign_val b i e hc hw2.1.1.1.1
noncomputable abbrev consR2 : List (FuncId × Con) := [(I.record_reader_number, .eff (effOf [caseGnum.e])), (I.record_reader_sign, .eff (effOf [caseGsign.e]))] ++ consR1
theorem consR2_ok : ∀ x ∈ consR2, HoldsC P0 x.1 x.2 := by
  intro x hx
  rcases List.mem_append.1 hx with hx | hx
  · simp at hx
    rcases hx with rfl | rfl
    · exact ⟨fun args objs r objs2 h _ => effOf_holds (by simp; exact gnum_ok) args objs r objs2 h, C.record_reader_number⟩
    · exact ⟨fun args objs r objs2 h _ => effOf_holds (by simp; exact gsign_ok) args objs r objs2 h, C.record_reader_sign⟩
  · exact consR1_ok x hx
theorem gtext_ev (b : List Int) (i e m : Int) : evFn (env consR2) H.record_reader_text (LPof []) F.record_reader_text [.ptr 0 (.tl 0) 0, .int .u64 m] [.arr 3 .bool [] [[.vl u8T b, .int .i64 i, .int .i64 e]]] (finV .str [.box 3 [[.vl u8T, .int .i64, .int .i64]]] 1) =
  bif decide ((0 : (Pat.int IntKind.i64).den) ≤ i) && decide (i ≤ (↑b.length : Int)) then
    Option.bind
      (bif (gnumV m b i e).snd.snd == (0 : Int) then
        some (decide (IntKind.i64.wrap (gnumV m b i e).fst > IntKind.i64.wrap ((↑b.length : Int) - (gnumV m b i e).snd.fst)))
      else some false)
      fun v =>
      bif v then some ([], ((b, (gnumV m b i e).snd.fst, (4 : Int), ()), ()), ())
      else
        bif (gnumV m b i e).snd.snd != (0 : Int) then some ([], ((b, (gnumV m b i e).snd.fst, (gnumV m b i e).snd.snd, ()), ()), ())
        else
          bif
              decide ((0 : Int) ≤ IntKind.i64.wrap ((gnumV m b i e).snd.fst + IntKind.i64.wrap (gnumV m b i e).fst)) &&
                decide (IntKind.i64.wrap ((gnumV m b i e).snd.fst + IntKind.i64.wrap (gnumV m b i e).fst) ≤ (↑b.length : Int)) then
            bif
                decide
                    ((0 : Int) ≤
                      IntKind.i64.wrap
                        (IntKind.i64.wrap ((gnumV m b i e).snd.fst + IntKind.i64.wrap (gnumV m b i e).fst) - IntKind.i64.wrap (gnumV m b i e).fst)) &&
                  decide
                    (IntKind.i64.wrap
                        (IntKind.i64.wrap ((gnumV m b i e).snd.fst + IntKind.i64.wrap (gnumV m b i e).fst) - IntKind.i64.wrap (gnumV m b i e).fst) ≤
                      IntKind.i64.wrap ((gnumV m b i e).snd.fst + IntKind.i64.wrap (gnumV m b i e).fst)) then
              some
                (ofBytes
                    (List.drop
                      (IntKind.i64.wrap
                          (IntKind.i64.wrap ((gnumV m b i e).snd.fst + IntKind.i64.wrap (gnumV m b i e).fst) -
                            IntKind.i64.wrap (gnumV m b i e).fst)).toNat
                      (List.take (IntKind.i64.wrap ((gnumV m b i e).snd.fst + IntKind.i64.wrap (gnumV m b i e).fst)).toNat b)),
                  ((b, IntKind.i64.wrap ((gnumV m b i e).snd.fst + IntKind.i64.wrap (gnumV m b i e).fst), (gnumV m b i e).snd.snd, ()), ()), ())
            else none
          else none
  else none := by kernel_rfl

def caseGtext : VCase := ⟨[.lit (.ptr 0 (.tl 0) 0), .int .u64], [.box 3 [[.vl u8T, .int .i64, .int .i64]]], .str, [.box 3 [[.vl u8T, .int .i64, .int .i64]]], fun ⟨_, m, ()⟩ ⟨⟨⟨b, i, e, ()⟩, ()⟩, ()⟩ => [(decide (0 ≤ i) && decide (i ≤ (b.length : Int)) && decide (m ≤ 4611686018427387904), ((gtextV m b i e).1, (((b, (gtextV m b i e).2.1, (gtextV m b i e).2.2, ()), ()), ())))]⟩
theorem gtext_val (b : List Int) (i e m : Int) (hc : (decide (0 ≤ i) && decide (i ≤ (b.length : Int)) && decide (m ≤ 4611686018427387904)) = true) (hb : b.length ≤ maxL) : evFn (env consR2) H.record_reader_text (LPof []) F.record_reader_text [.ptr 0 (.tl 0) 0, .int .u64 m] [.arr 3 .bool [] [[.vl u8T b, .int .i64 i, .int .i64 e]]] (finV (.str) [.box 3 [[.vl u8T, .int .i64, .int .i64]]] 1) = some ((gtextV m b i e).1, (((b, (gtextV m b i e).2.1, (gtextV m b i e).2.2, ()), ()), ())) := by
  unfold maxL at hb
  simp only [Bool.and_eq_true, decide_eq_true_eq] at hc
  obtain ⟨⟨h0, h1⟩, hm⟩ := hc
  obtain ⟨a0, a1, a2, a3⟩ := gnumV_in (m := m) (e := e) h0 h1
  rw [gtext_ev, cond_pos2 h0 h1]
  unfold gtextV
  generalize gnumV m b i e = v at a0 a1 a2 a3 ⊢
  obtain ⟨x, j, e'⟩ := v
  simp only at a0 a1 a2 a3 ⊢
  rw [and_bif, Option.bind_some]
  by_cases he : e' = 0
  · subst he
    have a3 := a3 rfl
    have w1 : IntKind.i64.wrap x = x := wrap64 (by omega) (by omega)
    have w2 : IntKind.i64.wrap ((b.length : Int) - j) = (b.length : Int) - j := wrap64 (by omega) (by omega)
    rw [w1, w2]
    simp only [beq_self_eq_true, Bool.true_and, cond_true, bne_self_eq_false, cond_false]
    by_cases hx : x > (b.length : Int) - j
    · simp only [hx, decide_true, cond_true]
    · have w3 : IntKind.i64.wrap (j + x) = j + x := wrap64 (by omega) (by omega)
      have w4 : IntKind.i64.wrap (j + x - x) = j := by rw [wrap64 (by omega) (by omega)]; omega
      rw [w3, w4]
      simp only [hx, decide_false, cond_false]
      rw [cond_pos2 (by omega) (by omega), cond_pos2 (by omega) (by omega), List.drop_take, show (j + x).toNat - j.toNat = x.toNat from by omega]
  · have e1 : (e' == 0) = false := by simpa using he
    have e2 : (e' != 0) = true := by simpa using he
    simp only [e1, e2, Bool.false_and, cond_false, cond_true]
theorem gtext_ok : caseGtext.e.ok P0 I.record_reader_text := vcase_ok (c := caseGtext) (H := H.record_reader_text) (E := env consR2) (env_ok consR2_ok) glob0 mixed0 G.record_reader_text Bd.record_reader_text (by kernel_rfl) noLoops fun ⟨_, m, ()⟩ ⟨⟨⟨b, i, e, ()⟩, ()⟩, ()⟩ r h hw1 hw2 => by
  obtain ⟨hc, rfl⟩ := pick_pre h
  exact gtext_val b i e m hc hw2.1.1.1.1
noncomputable abbrev consR3 : List (FuncId × Con) := [(I.record_reader_text, .eff (effOf [caseGtext.e]))] ++ consR2
theorem consR3_ok : ∀ x ∈ consR3, HoldsC P0 x.1 x.2 := by
  intro x hx
  rcases List.mem_append.1 hx with hx | hx
  · simp at hx
    subst hx
    exact ⟨fun args objs r objs2 h _ => effOf_holds (by simp; exact gtext_ok) args objs r objs2 h, C.record_reader_text⟩
  · exact consR2_ok x hx
theorem recget_ev (b : List Int) : evFn (env consR3) H.record_Get (LPof []) F.record_Get [.vl u8T b] [] (finT [recT, .int .i64, .int .i64]) =
  bif
      decide ((0 : (Pat.int IntKind.i64).den) ≤ (gnumV (1125899906842624 : Int) b (0 : Int) (0 : Int)).snd.fst) &&
        decide ((gnumV (1125899906842624 : Int) b (0 : Int) (0 : Int)).snd.fst ≤ (↑b.length : Int)) then
    bif
        decide
            ((0 : (Pat.int IntKind.i64).den) ≤
              (gnumV (2199023255552 : Int) b (gnumV (1125899906842624 : Int) b (0 : Int) (0 : Int)).snd.fst
                    (gnumV (1125899906842624 : Int) b (0 : Int) (0 : Int)).snd.snd).snd.fst) &&
          decide
            ((gnumV (2199023255552 : Int) b (gnumV (1125899906842624 : Int) b (0 : Int) (0 : Int)).snd.fst
                    (gnumV (1125899906842624 : Int) b (0 : Int) (0 : Int)).snd.snd).snd.fst ≤
              (↑b.length : Int)) then
      bif
          decide
                ((0 : (Pat.int IntKind.i64).den) ≤
                  (gsignV b
                        (gnumV (2199023255552 : Int) b (gnumV (1125899906842624 : Int) b (0 : Int) (0 : Int)).snd.fst
                              (gnumV (1125899906842624 : Int) b (0 : Int) (0 : Int)).snd.snd).snd.fst
                        (gnumV (2199023255552 : Int) b (gnumV (1125899906842624 : Int) b (0 : Int) (0 : Int)).snd.fst
                              (gnumV (1125899906842624 : Int) b (0 : Int) (0 : Int)).snd.snd).snd.snd).snd.fst) &&
              decide
                ((gsignV b
                        (gnumV (2199023255552 : Int) b (gnumV (1125899906842624 : Int) b (0 : Int) (0 : Int)).snd.fst
                              (gnumV (1125899906842624 : Int) b (0 : Int) (0 : Int)).snd.snd).snd.fst
                        (gnumV (2199023255552 : Int) b (gnumV (1125899906842624 : Int) b (0 : Int) (0 : Int)).snd.fst
                              (gnumV (1125899906842624 : Int) b (0 : Int) (0 : Int)).snd.snd).snd.snd).snd.fst ≤
                  (↑b.length : Int)) &&
            true then
        bif
            decide
                  ((0 : (Pat.int IntKind.i64).den) ≤
                    (gtextV (200 : Int) b
                          (gsignV b
                                (gnumV (2199023255552 : Int) b (gnumV (1125899906842624 : Int) b (0 : Int) (0 : Int)).snd.fst
                                      (gnumV (1125899906842624 : Int) b (0 : Int) (0 : Int)).snd.snd).snd.fst
                                (gnumV (2199023255552 : Int) b (gnumV (1125899906842624 : Int) b (0 : Int) (0 : Int)).snd.fst
                                      (gnumV (1125899906842624 : Int) b (0 : Int) (0 : Int)).snd.snd).snd.snd).snd.fst
                          (gsignV b
                                (gnumV (2199023255552 : Int) b (gnumV (1125899906842624 : Int) b (0 : Int) (0 : Int)).snd.fst
                                      (gnumV (1125899906842624 : Int) b (0 : Int) (0 : Int)).snd.snd).snd.fst
                                (gnumV (2199023255552 : Int) b (gnumV (1125899906842624 : Int) b (0 : Int) (0 : Int)).snd.fst
                                      (gnumV (1125899906842624 : Int) b (0 : Int) (0 : Int)).snd.snd).snd.snd).snd.snd).snd.fst) &&
                decide
                  ((gtextV (200 : Int) b
                          (gsignV b
                                (gnumV (2199023255552 : Int) b (gnumV (1125899906842624 : Int) b (0 : Int) (0 : Int)).snd.fst
                                      (gnumV (1125899906842624 : Int) b (0 : Int) (0 : Int)).snd.snd).snd.fst
                                (gnumV (2199023255552 : Int) b (gnumV (1125899906842624 : Int) b (0 : Int) (0 : Int)).snd.fst
                                      (gnumV (1125899906842624 : Int) b (0 : Int) (0 : Int)).snd.snd).snd.snd).snd.fst
                          (gsignV b
                                (gnumV (2199023255552 : Int) b (gnumV (1125899906842624 : Int) b (0 : Int) (0 : Int)).snd.fst
                                      (gnumV (1125899906842624 : Int) b (0 : Int) (0 : Int)).snd.snd).snd.fst
                                (gnumV (2199023255552 : Int) b (gnumV (1125899906842624 : Int) b (0 : Int) (0 : Int)).snd.fst
                                      (gnumV (1125899906842624 : Int) b (0 : Int) (0 : Int)).snd.snd).snd.snd).snd.snd).snd.fst ≤
                    (↑b.length : Int)) &&
              true then
          Option.bind
            (bif
                (gtextV (2000 : Int) b
                        (gtextV (200 : Int) b
                              (gsignV b
                                    (gnumV (2199023255552 : Int) b (gnumV (1125899906842624 : Int) b (0 : Int) (0 : Int)).snd.fst
                                          (gnumV (1125899906842624 : Int) b (0 : Int) (0 : Int)).snd.snd).snd.fst
                                    (gnumV (2199023255552 : Int) b (gnumV (1125899906842624 : Int) b (0 : Int) (0 : Int)).snd.fst
                                          (gnumV (1125899906842624 : Int) b (0 : Int) (0 : Int)).snd.snd).snd.snd).snd.fst
                              (gsignV b
                                    (gnumV (2199023255552 : Int) b (gnumV (1125899906842624 : Int) b (0 : Int) (0 : Int)).snd.fst
                                          (gnumV (1125899906842624 : Int) b (0 : Int) (0 : Int)).snd.snd).snd.fst
                                    (gnumV (2199023255552 : Int) b (gnumV (1125899906842624 : Int) b (0 : Int) (0 : Int)).snd.fst
                                          (gnumV (1125899906842624 : Int) b (0 : Int) (0 : Int)).snd.snd).snd.snd).snd.snd).snd.fst
                        (gtextV (200 : Int) b
                              (gsignV b
                                    (gnumV (2199023255552 : Int) b (gnumV (1125899906842624 : Int) b (0 : Int) (0 : Int)).snd.fst
                                          (gnumV (1125899906842624 : Int) b (0 : Int) (0 : Int)).snd.snd).snd.fst
                                    (gnumV (2199023255552 : Int) b (gnumV (1125899906842624 : Int) b (0 : Int) (0 : Int)).snd.fst
                                          (gnumV (1125899906842624 : Int) b (0 : Int) (0 : Int)).snd.snd).snd.snd).snd.fst
                              (gsignV b
                                    (gnumV (2199023255552 : Int) b (gnumV (1125899906842624 : Int) b (0 : Int) (0 : Int)).snd.fst
                                          (gnumV (1125899906842624 : Int) b (0 : Int) (0 : Int)).snd.snd).snd.fst
                                    (gnumV (2199023255552 : Int) b (gnumV (1125899906842624 : Int) b (0 : Int) (0 : Int)).snd.fst
                                          (gnumV (1125899906842624 : Int) b (0 : Int) (0 : Int)).snd.snd).snd.snd).snd.snd).snd.snd).snd.snd ==
                  (0 : Int) then
              some
                !recR
                    (IntKind.i64.wrap (gnumV (1125899906842624 : Int) b (0 : Int) (0 : Int)).fst,
                      unfoldV
                        (gnumV (2199023255552 : Int) b (gnumV (1125899906842624 : Int) b (0 : Int) (0 : Int)).snd.fst
                            (gnumV (1125899906842624 : Int) b (0 : Int) (0 : Int)).snd.snd).fst,
                      (gtextV (200 : Int) b
                          (gsignV b
                                (gnumV (2199023255552 : Int) b (gnumV (1125899906842624 : Int) b (0 : Int) (0 : Int)).snd.fst
                                      (gnumV (1125899906842624 : Int) b (0 : Int) (0 : Int)).snd.snd).snd.fst
                                (gnumV (2199023255552 : Int) b (gnumV (1125899906842624 : Int) b (0 : Int) (0 : Int)).snd.fst
                                      (gnumV (1125899906842624 : Int) b (0 : Int) (0 : Int)).snd.snd).snd.snd).snd.fst
                          (gsignV b
                                (gnumV (2199023255552 : Int) b (gnumV (1125899906842624 : Int) b (0 : Int) (0 : Int)).snd.fst
                                      (gnumV (1125899906842624 : Int) b (0 : Int) (0 : Int)).snd.snd).snd.fst
                                (gnumV (2199023255552 : Int) b (gnumV (1125899906842624 : Int) b (0 : Int) (0 : Int)).snd.fst
                                      (gnumV (1125899906842624 : Int) b (0 : Int) (0 : Int)).snd.snd).snd.snd).snd.snd).fst,
                      (gtextV (2000 : Int) b
                          (gtextV (200 : Int) b
                                (gsignV b
                                      (gnumV (2199023255552 : Int) b (gnumV (1125899906842624 : Int) b (0 : Int) (0 : Int)).snd.fst
                                            (gnumV (1125899906842624 : Int) b (0 : Int) (0 : Int)).snd.snd).snd.fst
                                      (gnumV (2199023255552 : Int) b (gnumV (1125899906842624 : Int) b (0 : Int) (0 : Int)).snd.fst
                                            (gnumV (1125899906842624 : Int) b (0 : Int) (0 : Int)).snd.snd).snd.snd).snd.fst
                                (gsignV b
                                      (gnumV (2199023255552 : Int) b (gnumV (1125899906842624 : Int) b (0 : Int) (0 : Int)).snd.fst
                                            (gnumV (1125899906842624 : Int) b (0 : Int) (0 : Int)).snd.snd).snd.fst
                                      (gnumV (2199023255552 : Int) b (gnumV (1125899906842624 : Int) b (0 : Int) (0 : Int)).snd.fst
                                            (gnumV (1125899906842624 : Int) b (0 : Int) (0 : Int)).snd.snd).snd.snd).snd.snd).snd.fst
                          (gtextV (200 : Int) b
                                (gsignV b
                                      (gnumV (2199023255552 : Int) b (gnumV (1125899906842624 : Int) b (0 : Int) (0 : Int)).snd.fst
                                            (gnumV (1125899906842624 : Int) b (0 : Int) (0 : Int)).snd.snd).snd.fst
                                      (gnumV (2199023255552 : Int) b (gnumV (1125899906842624 : Int) b (0 : Int) (0 : Int)).snd.fst
                                            (gnumV (1125899906842624 : Int) b (0 : Int) (0 : Int)).snd.snd).snd.snd).snd.fst
                                (gsignV b
                                      (gnumV (2199023255552 : Int) b (gnumV (1125899906842624 : Int) b (0 : Int) (0 : Int)).snd.fst
                                            (gnumV (1125899906842624 : Int) b (0 : Int) (0 : Int)).snd.snd).snd.fst
                                      (gnumV (2199023255552 : Int) b (gnumV (1125899906842624 : Int) b (0 : Int) (0 : Int)).snd.fst
                                            (gnumV (1125899906842624 : Int) b (0 : Int) (0 : Int)).snd.snd).snd.snd).snd.snd).snd.snd).fst,
                      (gsignV b
                          (gnumV (2199023255552 : Int) b (gnumV (1125899906842624 : Int) b (0 : Int) (0 : Int)).snd.fst
                                (gnumV (1125899906842624 : Int) b (0 : Int) (0 : Int)).snd.snd).snd.fst
                          (gnumV (2199023255552 : Int) b (gnumV (1125899906842624 : Int) b (0 : Int) (0 : Int)).snd.fst
                                (gnumV (1125899906842624 : Int) b (0 : Int) (0 : Int)).snd.snd).snd.snd).fst)
            else some false)
            fun v =>
            bif v then some (((0 : Int), (0 : Int), [], [], false), (0 : Int), (2 : Int), ())
            else
              bif
                  (gtextV (2000 : Int) b
                          (gtextV (200 : Int) b
                                (gsignV b
                                      (gnumV (2199023255552 : Int) b (gnumV (1125899906842624 : Int) b (0 : Int) (0 : Int)).snd.fst
                                            (gnumV (1125899906842624 : Int) b (0 : Int) (0 : Int)).snd.snd).snd.fst
                                      (gnumV (2199023255552 : Int) b (gnumV (1125899906842624 : Int) b (0 : Int) (0 : Int)).snd.fst
                                            (gnumV (1125899906842624 : Int) b (0 : Int) (0 : Int)).snd.snd).snd.snd).snd.fst
                                (gsignV b
                                      (gnumV (2199023255552 : Int) b (gnumV (1125899906842624 : Int) b (0 : Int) (0 : Int)).snd.fst
                                            (gnumV (1125899906842624 : Int) b (0 : Int) (0 : Int)).snd.snd).snd.fst
                                      (gnumV (2199023255552 : Int) b (gnumV (1125899906842624 : Int) b (0 : Int) (0 : Int)).snd.fst
                                            (gnumV (1125899906842624 : Int) b (0 : Int) (0 : Int)).snd.snd).snd.snd).snd.snd).snd.fst
                          (gtextV (200 : Int) b
                                (gsignV b
                                      (gnumV (2199023255552 : Int) b (gnumV (1125899906842624 : Int) b (0 : Int) (0 : Int)).snd.fst
                                            (gnumV (1125899906842624 : Int) b (0 : Int) (0 : Int)).snd.snd).snd.fst
                                      (gnumV (2199023255552 : Int) b (gnumV (1125899906842624 : Int) b (0 : Int) (0 : Int)).snd.fst
                                            (gnumV (1125899906842624 : Int) b (0 : Int) (0 : Int)).snd.snd).snd.snd).snd.fst
                                (gsignV b
                                      (gnumV (2199023255552 : Int) b (gnumV (1125899906842624 : Int) b (0 : Int) (0 : Int)).snd.fst
                                            (gnumV (1125899906842624 : Int) b (0 : Int) (0 : Int)).snd.snd).snd.fst
                                      (gnumV (2199023255552 : Int) b (gnumV (1125899906842624 : Int) b (0 : Int) (0 : Int)).snd.fst
                                            (gnumV (1125899906842624 : Int) b (0 : Int) (0 : Int)).snd.snd).snd.snd).snd.snd).snd.snd).snd.snd !=
                    (0 : Int) then
                some
                  (((0 : Int), (0 : Int), [], [], false), (0 : Int),
                    (gtextV (2000 : Int) b
                          (gtextV (200 : Int) b
                                (gsignV b
                                      (gnumV (2199023255552 : Int) b (gnumV (1125899906842624 : Int) b (0 : Int) (0 : Int)).snd.fst
                                            (gnumV (1125899906842624 : Int) b (0 : Int) (0 : Int)).snd.snd).snd.fst
                                      (gnumV (2199023255552 : Int) b (gnumV (1125899906842624 : Int) b (0 : Int) (0 : Int)).snd.fst
                                            (gnumV (1125899906842624 : Int) b (0 : Int) (0 : Int)).snd.snd).snd.snd).snd.fst
                                (gsignV b
                                      (gnumV (2199023255552 : Int) b (gnumV (1125899906842624 : Int) b (0 : Int) (0 : Int)).snd.fst
                                            (gnumV (1125899906842624 : Int) b (0 : Int) (0 : Int)).snd.snd).snd.fst
                                      (gnumV (2199023255552 : Int) b (gnumV (1125899906842624 : Int) b (0 : Int) (0 : Int)).snd.fst
                                            (gnumV (1125899906842624 : Int) b (0 : Int) (0 : Int)).snd.snd).snd.snd).snd.snd).snd.fst
                          (gtextV (200 : Int) b
                                (gsignV b
                                      (gnumV (2199023255552 : Int) b (gnumV (1125899906842624 : Int) b (0 : Int) (0 : Int)).snd.fst
                                            (gnumV (1125899906842624 : Int) b (0 : Int) (0 : Int)).snd.snd).snd.fst
                                      (gnumV (2199023255552 : Int) b (gnumV (1125899906842624 : Int) b (0 : Int) (0 : Int)).snd.fst
                                            (gnumV (1125899906842624 : Int) b (0 : Int) (0 : Int)).snd.snd).snd.snd).snd.fst
                                (gsignV b
                                      (gnumV (2199023255552 : Int) b (gnumV (1125899906842624 : Int) b (0 : Int) (0 : Int)).snd.fst
                                            (gnumV (1125899906842624 : Int) b (0 : Int) (0 : Int)).snd.snd).snd.fst
                                      (gnumV (2199023255552 : Int) b (gnumV (1125899906842624 : Int) b (0 : Int) (0 : Int)).snd.fst
                                            (gnumV (1125899906842624 : Int) b (0 : Int) (0 : Int)).snd.snd).snd.snd).snd.snd).snd.snd).snd.snd,
                    ())
              else
                some
                  ((IntKind.i64.wrap (gnumV (1125899906842624 : Int) b (0 : Int) (0 : Int)).fst,
                      unfoldV
                        (gnumV (2199023255552 : Int) b (gnumV (1125899906842624 : Int) b (0 : Int) (0 : Int)).snd.fst
                            (gnumV (1125899906842624 : Int) b (0 : Int) (0 : Int)).snd.snd).fst,
                      (gtextV (200 : Int) b
                          (gsignV b
                                (gnumV (2199023255552 : Int) b (gnumV (1125899906842624 : Int) b (0 : Int) (0 : Int)).snd.fst
                                      (gnumV (1125899906842624 : Int) b (0 : Int) (0 : Int)).snd.snd).snd.fst
                                (gnumV (2199023255552 : Int) b (gnumV (1125899906842624 : Int) b (0 : Int) (0 : Int)).snd.fst
                                      (gnumV (1125899906842624 : Int) b (0 : Int) (0 : Int)).snd.snd).snd.snd).snd.fst
                          (gsignV b
                                (gnumV (2199023255552 : Int) b (gnumV (1125899906842624 : Int) b (0 : Int) (0 : Int)).snd.fst
                                      (gnumV (1125899906842624 : Int) b (0 : Int) (0 : Int)).snd.snd).snd.fst
                                (gnumV (2199023255552 : Int) b (gnumV (1125899906842624 : Int) b (0 : Int) (0 : Int)).snd.fst
                                      (gnumV (1125899906842624 : Int) b (0 : Int) (0 : Int)).snd.snd).snd.snd).snd.snd).fst,
                      (gtextV (2000 : Int) b
                          (gtextV (200 : Int) b
                                (gsignV b
                                      (gnumV (2199023255552 : Int) b (gnumV (1125899906842624 : Int) b (0 : Int) (0 : Int)).snd.fst
                                            (gnumV (1125899906842624 : Int) b (0 : Int) (0 : Int)).snd.snd).snd.fst
                                      (gnumV (2199023255552 : Int) b (gnumV (1125899906842624 : Int) b (0 : Int) (0 : Int)).snd.fst
                                            (gnumV (1125899906842624 : Int) b (0 : Int) (0 : Int)).snd.snd).snd.snd).snd.fst
                                (gsignV b
                                      (gnumV (2199023255552 : Int) b (gnumV (1125899906842624 : Int) b (0 : Int) (0 : Int)).snd.fst
                                            (gnumV (1125899906842624 : Int) b (0 : Int) (0 : Int)).snd.snd).snd.fst
                                      (gnumV (2199023255552 : Int) b (gnumV (1125899906842624 : Int) b (0 : Int) (0 : Int)).snd.fst
                                            (gnumV (1125899906842624 : Int) b (0 : Int) (0 : Int)).snd.snd).snd.snd).snd.snd).snd.fst
                          (gtextV (200 : Int) b
                                (gsignV b
                                      (gnumV (2199023255552 : Int) b (gnumV (1125899906842624 : Int) b (0 : Int) (0 : Int)).snd.fst
                                            (gnumV (1125899906842624 : Int) b (0 : Int) (0 : Int)).snd.snd).snd.fst
                                      (gnumV (2199023255552 : Int) b (gnumV (1125899906842624 : Int) b (0 : Int) (0 : Int)).snd.fst
                                            (gnumV (1125899906842624 : Int) b (0 : Int) (0 : Int)).snd.snd).snd.snd).snd.fst
                                (gsignV b
                                      (gnumV (2199023255552 : Int) b (gnumV (1125899906842624 : Int) b (0 : Int) (0 : Int)).snd.fst
                                            (gnumV (1125899906842624 : Int) b (0 : Int) (0 : Int)).snd.snd).snd.fst
                                      (gnumV (2199023255552 : Int) b (gnumV (1125899906842624 : Int) b (0 : Int) (0 : Int)).snd.fst
                                            (gnumV (1125899906842624 : Int) b (0 : Int) (0 : Int)).snd.snd).snd.snd).snd.snd).snd.snd).fst,
                      (gsignV b
                          (gnumV (2199023255552 : Int) b (gnumV (1125899906842624 : Int) b (0 : Int) (0 : Int)).snd.fst
                                (gnumV (1125899906842624 : Int) b (0 : Int) (0 : Int)).snd.snd).snd.fst
                          (gnumV (2199023255552 : Int) b (gnumV (1125899906842624 : Int) b (0 : Int) (0 : Int)).snd.fst
                                (gnumV (1125899906842624 : Int) b (0 : Int) (0 : Int)).snd.snd).snd.snd).fst),
                    (gtextV (2000 : Int) b
                          (gtextV (200 : Int) b
                                (gsignV b
                                      (gnumV (2199023255552 : Int) b (gnumV (1125899906842624 : Int) b (0 : Int) (0 : Int)).snd.fst
                                            (gnumV (1125899906842624 : Int) b (0 : Int) (0 : Int)).snd.snd).snd.fst
                                      (gnumV (2199023255552 : Int) b (gnumV (1125899906842624 : Int) b (0 : Int) (0 : Int)).snd.fst
                                            (gnumV (1125899906842624 : Int) b (0 : Int) (0 : Int)).snd.snd).snd.snd).snd.fst
                                (gsignV b
                                      (gnumV (2199023255552 : Int) b (gnumV (1125899906842624 : Int) b (0 : Int) (0 : Int)).snd.fst
                                            (gnumV (1125899906842624 : Int) b (0 : Int) (0 : Int)).snd.snd).snd.fst
                                      (gnumV (2199023255552 : Int) b (gnumV (1125899906842624 : Int) b (0 : Int) (0 : Int)).snd.fst
                                            (gnumV (1125899906842624 : Int) b (0 : Int) (0 : Int)).snd.snd).snd.snd).snd.snd).snd.fst
                          (gtextV (200 : Int) b
                                (gsignV b
                                      (gnumV (2199023255552 : Int) b (gnumV (1125899906842624 : Int) b (0 : Int) (0 : Int)).snd.fst
                                            (gnumV (1125899906842624 : Int) b (0 : Int) (0 : Int)).snd.snd).snd.fst
                                      (gnumV (2199023255552 : Int) b (gnumV (1125899906842624 : Int) b (0 : Int) (0 : Int)).snd.fst
                                            (gnumV (1125899906842624 : Int) b (0 : Int) (0 : Int)).snd.snd).snd.snd).snd.fst
                                (gsignV b
                                      (gnumV (2199023255552 : Int) b (gnumV (1125899906842624 : Int) b (0 : Int) (0 : Int)).snd.fst
                                            (gnumV (1125899906842624 : Int) b (0 : Int) (0 : Int)).snd.snd).snd.fst
                                      (gnumV (2199023255552 : Int) b (gnumV (1125899906842624 : Int) b (0 : Int) (0 : Int)).snd.fst
                                            (gnumV (1125899906842624 : Int) b (0 : Int) (0 : Int)).snd.snd).snd.snd).snd.snd).snd.snd).snd.fst,
                    (0 : Int), ())
        else none
      else none
    else none
  else none := by kernel_rfl

theorem recput_go (b : List Int) (r : Rec) (hb : b.length ≤ 140737488350000) : evFn (env consR1) H.record_Put (LPof []) F.record_Put [.vl u8T b, valOf recT r] [] (finV (.lit (.hw 0)) [.arr 1 u8T []] 0) = some ((), ((putR b r, ()), ())) := by
  rw [recput_ev, cond_pos (by omega)]
  unfold putR
  cases hr : recR r with
  | false => rfl
  | true =>
    have hl := encR_len hr
    obtain ⟨o, t, k, v, d⟩ := r
    simp only [recR, Bool.and_eq_true, decide_eq_true_eq] at hr
    obtain ⟨h1, h2, h3, h4, h5, h6, h7, h8⟩ := hr
    have hk : (bytesOf k).length = k.length := by simp [bytesOf]
    have hv : (bytesOf v).length = v.length := by simp [bytesOf]
    have w1 : IntKind.u64.wrap o = o := wrapu64 (by omega) (by omega)
    have w2 : (IntKind.u64.wrap ((List.length k : Nat) : Int)).toNat = List.length k := by rw [wrapu64 (by omega) (by omega)]; omega
    have w3 : (IntKind.u64.wrap ((List.length v : Nat) : Int)).toNat = List.length v := by rw [wrapu64 (by omega) (by omega)]; omega
    simp only [encR, List.length_append, List.length_cons, List.length_nil, hk, hv] at hl
    simp only [w1, w2, w3, Bool.not_true, cond_false, cond_true, encR]
    cases d <;> simp only [cond_true, cond_false, List.append_assoc] <;>
      (repeat rw [cond_pos (by first | omega | (simp only [List.length_append, List.length_cons, List.length_nil, hk, hv]; omega))])
def caseRecput : VCase := ⟨[.vl u8T, .agg [.int .i64, .int .i64, .str, .str, .bool]], [], .lit (.hw 0), [.arr 1 u8T []], fun ⟨b, ⟨o, t, k, v, d, ()⟩, ()⟩ () => [(decide (b.length ≤ 140737488350000), ((), ((putR b (o, t, k, v, d), ()), ())))]⟩
theorem recput_val (b : List Int) (o : Int) (t : Int) (k : List UInt8) (v : List UInt8) (d : Bool) (hc : (decide (b.length ≤ 140737488350000)) = true) : evFn (env consR1) H.record_Put (LPof []) F.record_Put [.vl u8T b, .agg [.int .i64 o, .int .i64 t, .str k, .str v, .bool d]] [] (finV (.lit (.hw 0)) [.arr 1 u8T []] 0) = some ((), ((putR b (o, t, k, v, d), ()), ())) := by
  exact recput_go b (o, t, k, v, d) (of_decide_eq_true hc)
theorem recput_ok : caseRecput.e.ok P0 I.record_Put := vcase_ok (c := caseRecput) (H := H.record_Put) (E := env consR1) (env_ok consR1_ok) glob0 mixed0 G.record_Put Bd.record_Put (by kernel_rfl) noLoops fun ⟨b, ⟨o, t, k, v, d, ()⟩, ()⟩ () r h hw1 hw2 => by
  obtain ⟨hc, rfl⟩ := pick_pre h
  exact recput_val b o t k v d hc
def caseRecget : PCase := ⟨[.ty (.sl u8T)], [recT, .int .i64, .int .i64], fun x => (fun (b : List Int) => [(true, ((getR b).1, (getR b).2.1, (getR b).2.2, ()))]) x.1⟩
theorem recget_val (b : List Int) : evFn (env consR3) H.record_Get (LPof []) F.record_Get [.vl u8T b] [] (finT [recT, .int .i64, .int .i64]) = some ((getR b).1, (getR b).2.1, (getR b).2.2, ()) := by
  rw [recget_ev]
  simp only [getR, rdE, rdX, rdV, rdK, rdS, rdT, rdO]
  have o := gnumV_in (m := 1125899906842624) (b := b) (i := 0) (e := 0) (by omega) (by omega)
  generalize gnumV 1125899906842624 b 0 0 = vo at o ⊢
  have t := gnumV_in (m := 2199023255552) (b := b) (e := vo.2.2) o.2.1 o.2.2.1
  have te := gnumV_e (m := 2199023255552) (b := b) (i := vo.2.1) (e := vo.2.2)
  generalize gnumV 2199023255552 b vo.2.1 vo.2.2 = vt at t te ⊢
  have s := gsignV_in (b := b) (e := vt.2.2) t.2.1 t.2.2.1
  have se := gsignV_e (b := b) (i := vt.2.1) (e := vt.2.2)
  generalize gsignV b vt.2.1 vt.2.2 = vs at s se ⊢
  have k := gtextV_in (m := 200) (b := b) (e := vs.2.2) s.1 s.2
  have ke := gtextV_e (m := 200) (b := b) (i := vs.2.1) (e := vs.2.2)
  generalize gtextV 200 b vs.2.1 vs.2.2 = vk at k ke ⊢
  have v := gtextV_in (m := 2000) (b := b) (e := vk.2.2) k.1 k.2
  have ve := gtextV_e (m := 2000) (b := b) (i := vk.2.1) (e := vk.2.2)
  generalize gtextV 2000 b vk.2.1 vk.2.2 = vv at v ve ⊢
  simp only [o.2.1, o.2.2.1, t.2.1, t.2.2.1, s.1, s.2, k.1, k.2, decide_true, Bool.and_self, cond_true]
  rw [and_bif, Option.bind_some]
  by_cases hz : vv.2.2 = 0
  · have h2 := o.2.2.2 (te (se (ke (ve hz))))
    have hw : IntKind.i64.wrap vo.1 = vo.1 := wrap64 (by omega) (by omega)
    rw [hw, hz]
    cases recR (vo.1, unfoldV vt.1, vk.1, vv.1, vs.1) <;> rfl
  · have e1 : (vv.2.2 == 0) = false := by simpa using hz
    have e2 : (vv.2.2 != 0) = true := by simpa using hz
    rw [e1]
    simp only [Bool.false_and, cond_false, e2, cond_true]
    rfl
theorem recget_ok : caseRecget.ok P0 I.record_Get := case_ok2 (H := H.record_Get) (E := env consR3) (env_ok consR3_ok) glob0 mixed0 G.record_Get Bd.record_Get (by kernel_rfl) noLoops fun ⟨b, ()⟩ y h hw => by
  obtain ⟨hc, rfl⟩ := pick_pre h
  exact recget_val b
end Go.Sim
namespace Go.Sim
set_option linter.unusedSimpArgs false
set_option linter.unusedVariables false

def putI (b : List Int) (n : Int) : List Int := b ++ putN (foldV n).toNat
def putC (b : List Int) (c : Cnf) : List Int := putI (putI (putI (putI b c.1) c.2.1) c.2.2.1) c.2.2.2
def putT (b : List Int) (s : List UInt8) : List Int := b ++ putN (List.length s) ++ bytesOf s
def putL (b : List Int) (l : List Rec) : List Int := l.foldl putR (b ++ putN (List.length l))
/-- The bytes of a command. -/
def encC (c : Cmd) : List Int :=
  bif c.1 == 1 then putL (putI (putI (putI [] c.1) c.2.1) c.2.2.1) c.2.2.2.1 else
  bif c.1 == 2 then putI (putI (putI [] c.1) c.2.2.2.2.2.1) c.2.2.2.2.2.2.1 else
  bif c.1 == 3 then putI (putT (putI [] c.1) c.2.2.2.2.1) c.2.2.2.2.2.1 else
  bif c.1 == 4 then putT (putI [] c.1) c.2.2.2.2.1 else
  bif c.1 == 5 || c.1 == 9 then putI (putI [] c.1) c.2.2.2.2.2.2.2.1 else
  bif c.1 == 6 then putC (putI [] c.1) c.2.2.2.2.2.2.2.2.2 else
  bif c.1 == 8 then putI (putI (putI [] c.1) c.2.2.2.2.2.1) c.2.2.2.2.2.2.2.1 else
  bif c.1 == 11 then putI [] c.1 ++ putN (foldV c.2.2.2.2.2.1).toNat ++ putN (foldV c.2.2.1).toNat ++ putN (foldV c.2.2.2.2.2.2.1).toNat ++ putN c.2.2.2.2.2.2.2.2.1.toNat else putI [] c.1
def bytesC (c : Cmd) : List Int := bif rightC c then encC c else []
/-- The records of a reader. -/
abbrev RdS := List Int × Int × List Rec
def stepR (s : RdS) : RdS := (s.1.drop (getR s.1).2.1.toNat, bif s.2.1 == 0 then (getR s.1).2.2 else s.2.1, s.2.2 ++ [(getR s.1).1])
def itR : Nat → RdS → RdS
  | 0, s => s
  | n + 1, s => itR n (stepR s)
theorem putL_enc : ∀ (l : List Rec) (b : List Int), (∀ r ∈ l, recR r = true) → l.foldl putR b = b ++ (l.map encR).flatten
  | [], b, _ => by simp
  | r :: l, b, h => by
    have hr : putR b r = b ++ encR r := by unfold putR; rw [h r (by simp)]; rfl
    rw [List.foldl_cons, hr, putL_enc l _ (fun x hx => h x (List.mem_cons_of_mem _ hx))]
    simp
theorem itR_enc : ∀ (l : List Rec) (xs : List Rec) (rest : List Int), (∀ r ∈ l, recR r = true) → itR l.length ((l.map encR).flatten ++ rest, 0, xs) = (rest, 0, xs ++ l)
  | [], xs, rest, _ => by simp [itR]
  | r :: l, xs, rest, h => by
    have hg := getR_put (h r (by simp)) ((l.map encR).flatten ++ rest)
    have hs : stepR (((r :: l).map encR).flatten ++ rest, 0, xs) = ((l.map encR).flatten ++ rest, 0, xs ++ [r]) := by
      unfold stepR
      simp only [List.map_cons, List.flatten_cons, List.append_assoc]
      rw [hg]
      simp
    rw [List.length_cons, itR, hs, itR_enc l _ _ (fun x hx => h x (List.mem_cons_of_mem _ hx))]
    simp
theorem numV_put (n : Nat) (r : List Int) (hn : n < 2 ^ 64) : numV (putN n ++ r) 0 = ((n : Int), r, 0) := by
  unfold numV
  rw [getB_putN n r hn]
  simp
theorem bytesV_put (l : List UInt8) (r : List Int) (hl : List.length l < 2 ^ 64) : bytesV (putN (List.length l) ++ (bytesOf l ++ r)) 0 = (bytesOf l, r, 0) := by
  unfold bytesV
  rw [numV_put _ _ hl]
  have hb : (bytesOf l).length = l.length := by simp [bytesOf]
  have h : ¬ ((List.length l : Nat) : Int) > (((bytesOf l ++ r).length : Nat) : Int) := by simp only [List.length_append, hb]; omega
  simp only [beq_self_eq_true, cond_true, h, decide_false, cond_false, Int.toNat_natCast]
  rw [← hb, List.take_left, List.drop_left]
theorem countV_put (n : Nat) (r : List Int) (hn : n < 2 ^ 64) (hr : n ≤ r.length) : countV (putN n ++ r) 0 = ((n : Int), r, 0) := by
  unfold countV
  rw [numV_put _ _ hn]
  have h : ¬ (n : Int) > (r.length : Int) := by omega
  simp [h]
theorem unfold_put (n : Int) (r : List Int) (h1 : -9223372036854775808 ≤ n) (h2 : n ≤ 9223372036854775807) : numV (putN (foldV n).toNat ++ r) 0 = (foldV n, r, 0) := by
  have hf := fold_in h1 h2
  rw [numV_put _ _ (by omega), Int.toNat_of_nonneg hf.1]
end Go.Sim
namespace Go.Sim
set_option linter.unusedSimpArgs false
set_option linter.unusedVariables false
set_option maxRecDepth 10000
noncomputable abbrev consC1 : List (FuncId × Con) := [(I.record_Put, .eff (effOf [caseRecput.e])), (I.record_Get, .pure (pureOf [caseRecget]))] ++ consV3
theorem consC1_ok : ∀ x ∈ consC1, HoldsC P0 x.1 x.2 := by
  intro x hx
  rcases List.mem_append.1 hx with hx | hx
  · simp at hx
    rcases hx with rfl | rfl
    · exact ⟨fun args objs r objs2 h _ => effOf_holds (by simp; exact recput_ok) args objs r objs2 h, C.record_Put⟩
    · exact ⟨pureOf_holds (by simp; exact recget_ok), C.record_Get⟩
  · exact consV3_ok x hx
theorem beq_ev (a b : List Int) : evFn (env []) H.bytes_Equal (LPof []) F.bytes_Equal [.vl u8T a, .vl u8T b] [] (finT [.bool]) =
  some (ofBytes a == ofBytes b, ()) := by kernel_rfl

def caseBeq : PCase := ⟨[.ty (.sl u8T), .ty (.sl u8T)], [.bool], fun x => (fun (a b : List Int) => [(true, (ofBytes a == ofBytes b, ()))]) x.1 x.2.1⟩
theorem beq_val (a b : List Int) : evFn (env []) H.bytes_Equal (LPof []) F.bytes_Equal [.vl u8T a, .vl u8T b] [] (finT [.bool]) = some (ofBytes a == ofBytes b, ()) := by
  exact beq_ev a b
theorem beq_ok : caseBeq.ok P0 I.bytes_Equal := case_ok2 (H := H.bytes_Equal) (E := env []) (env_ok env_nil) glob0 mixed0 G.bytes_Equal Bd.bytes_Equal (by kernel_rfl) noLoops fun ⟨a, b, ()⟩ y h hw => by
  obtain ⟨hc, rfl⟩ := pick_pre h
  exact beq_val a b
noncomputable abbrev consE5 : List (FuncId × Con) := [(I.cooperageref1_SameRecords, .pure (pureOf [caseSame]))]
theorem consE5_ok : ∀ x ∈ consE5, HoldsC P0 x.1 x.2 := by
  intro x hx
  simp at hx
  subst hx
  exact ⟨pureOf_holds (by simp; exact same_ok), C.cooperageref1_SameRecords⟩
theorem same10_ev (a b : Cmd) : evFn (env consE5) H.cooperageref10_Same (LPof []) F.cooperageref10_Same [valOf cmdT a, valOf cmdT b] [] (finT [.bool]) =
  Option.bind
    (bif a.fst == b.fst then
      bif a.snd.fst == b.snd.fst then
        bif a.snd.snd.fst == b.snd.snd.fst then
          bif decide (a.snd.snd.snd.fst = b.snd.snd.snd.fst) then
            bif a.snd.snd.snd.snd.fst == b.snd.snd.snd.snd.fst then
              bif a.snd.snd.snd.snd.snd.fst == b.snd.snd.snd.snd.snd.fst then
                bif a.snd.snd.snd.snd.snd.snd.fst == b.snd.snd.snd.snd.snd.snd.fst then
                  bif a.snd.snd.snd.snd.snd.snd.snd.fst == b.snd.snd.snd.snd.snd.snd.snd.fst then
                    bif a.snd.snd.snd.snd.snd.snd.snd.snd.fst == b.snd.snd.snd.snd.snd.snd.snd.snd.fst then
                      some
                        (a.snd.snd.snd.snd.snd.snd.snd.snd.snd.fst == b.snd.snd.snd.snd.snd.snd.snd.snd.snd.fst &&
                          (a.snd.snd.snd.snd.snd.snd.snd.snd.snd.snd.fst == b.snd.snd.snd.snd.snd.snd.snd.snd.snd.snd.fst &&
                            (a.snd.snd.snd.snd.snd.snd.snd.snd.snd.snd.snd.fst == b.snd.snd.snd.snd.snd.snd.snd.snd.snd.snd.snd.fst &&
                              (a.snd.snd.snd.snd.snd.snd.snd.snd.snd.snd.snd.snd == b.snd.snd.snd.snd.snd.snd.snd.snd.snd.snd.snd.snd && true))))
                    else some false
                  else some false
                else some false
              else some false
            else some false
          else some false
        else some false
      else some false
    else some false)
    fun v => some (v, ()) := by kernel_rfl

def caseSame10 : PCase := ⟨[.ty cmdT, .ty cmdT], [.bool], fun x => (fun (a b : Cmd) => [(true, (decide (a = b), ()))]) x.1 x.2.1⟩
theorem same10_val (a b : Cmd) : evFn (env consE5) H.cooperageref10_Same (LPof []) F.cooperageref10_Same [valOf cmdT a, valOf cmdT b] [] (finT [.bool]) = some (decide (a = b), ()) := by
  rw [same10_ev]; simp only [and_bif, Option.bind_some]
  refine congrArg (fun q => some (q, ())) ?_
  obtain ⟨a1, a2, a3, a4, a5, a6, a7, a8, a9, a10, a11, a12, a13⟩ := a
  obtain ⟨b1, b2, b3, b4, b5, b6, b7, b8, b9, b10, b11, b12, b13⟩ := b
  apply Bool.eq_iff_iff.2
  simp only [Bool.and_eq_true, beq_iff_eq, decide_eq_true_eq, Bool.and_true, Prod.mk.injEq]
theorem same10_ok : caseSame10.ok P0 I.cooperageref10_Same := case_ok2 (H := H.cooperageref10_Same) (E := env consE5) (env_ok consE5_ok) glob0 mixed0 G.cooperageref10_Same Bd.cooperageref10_Same (by kernel_rfl) noLoops fun ⟨a, b, ()⟩ y h hw => by
  obtain ⟨hc, rfl⟩ := pick_pre h
  exact same10_val a b
theorem cput_rd {R : Type} (p : patsDen cmdP) (b : List Int) (l : List Rec) (n i : Int) (K : Ex → St → Option R) : roundK (env consC1) H.command_put 1 (LPof []) V.command_put_24 L.command_put_24 ⟨[(0, .vl u8T b), (89, .vl recT l), (90, .int .i64 n), (91, .int .i64 i)], [(0, .arr 13 .bool [] [patsMk cmdP p])], 1⟩ K =
  bif decide (i < n) then
    bif decide ((0 : Int) ≤ i) && decide (i < (↑l.length : Int)) then
      bif decide (b.length ≤ 140737488350000) then
        K Ex.normal
          {
            slots :=
              [(0, AV.vl (Ty.int IntKind.u8) (putR b (l.getD i.toNat recTy.zero))), (89, AV.vl recTy l),
                (90, AV.int IntKind.i64 n), (91, AV.int IntKind.i64 (IntKind.i64.wrap (i + (1 : Int))))],
            objs :=
              [(0,
                  AObj.arr 13 Ty.bool []
                    [[AV.int IntKind.i64 p.fst, AV.int IntKind.i64 p.snd.fst, AV.int IntKind.i64 p.snd.snd.fst, AV.vl recTy p.snd.snd.snd.fst,
                        AV.str p.snd.snd.snd.snd.fst, AV.int IntKind.i64 p.snd.snd.snd.snd.snd.fst, AV.int IntKind.i64 p.snd.snd.snd.snd.snd.snd.fst,
                        AV.int IntKind.i64 p.snd.snd.snd.snd.snd.snd.snd.fst, AV.int IntKind.u32 p.snd.snd.snd.snd.snd.snd.snd.snd.fst,
                        AV.int IntKind.i64 p.snd.snd.snd.snd.snd.snd.snd.snd.snd.fst, AV.int IntKind.i64 p.snd.snd.snd.snd.snd.snd.snd.snd.snd.snd.fst,
                        AV.int IntKind.i64 p.snd.snd.snd.snd.snd.snd.snd.snd.snd.snd.snd.fst,
                        AV.int IntKind.i64 p.snd.snd.snd.snd.snd.snd.snd.snd.snd.snd.snd.snd.fst]])],
            nx := 1 }
      else none
    else none
  else
    K (Ex.exit 3)
      {
        slots :=
          [(0, AV.vl (Ty.int IntKind.u8) b), (89, AV.vl recTy l), (90, AV.int IntKind.i64 n),
            (91, AV.int IntKind.i64 i)],
        objs :=
          [(0,
              AObj.arr 13 Ty.bool []
                [[AV.int IntKind.i64 p.fst, AV.int IntKind.i64 p.snd.fst, AV.int IntKind.i64 p.snd.snd.fst, AV.vl recTy p.snd.snd.snd.fst,
                    AV.str p.snd.snd.snd.snd.fst, AV.int IntKind.i64 p.snd.snd.snd.snd.snd.fst, AV.int IntKind.i64 p.snd.snd.snd.snd.snd.snd.fst,
                    AV.int IntKind.i64 p.snd.snd.snd.snd.snd.snd.snd.fst, AV.int IntKind.u32 p.snd.snd.snd.snd.snd.snd.snd.snd.fst,
                    AV.int IntKind.i64 p.snd.snd.snd.snd.snd.snd.snd.snd.snd.fst, AV.int IntKind.i64 p.snd.snd.snd.snd.snd.snd.snd.snd.snd.snd.fst,
                    AV.int IntKind.i64 p.snd.snd.snd.snd.snd.snd.snd.snd.snd.snd.snd.fst,
                    AV.int IntKind.i64 p.snd.snd.snd.snd.snd.snd.snd.snd.snd.snd.snd.snd.fst]])],
        nx := 1 } := by kernel_rfl

def cputSt (p : patsDen cmdP) (b : List Int) (l : List Rec) (i : Nat) : St := ⟨[(0, .vl u8T b), (89, .vl recT l), (90, .int .i64 l.length), (91, .int .i64 i)], [(0, .arr 13 .bool [] [patsMk cmdP p])], 1⟩
theorem cput_rounds {R : Type} (K : Ex → St → Option R) (p : patsDen cmdP) (l : List Rec) (hm : l.length ≤ 9223372036854775807) : ∀ (r : List Rec) (i : Nat) (b : List Int), l.drop i = r → i ≤ l.length → b.length + 2241 * r.length ≤ 140737488350000 →
    ∃ m, rounds (env consC1) H.command_put 1 (LPof []) V.command_put_24 L.command_put_24 m (cputSt p b l i) K = K (.exit 3) (cputSt p (r.foldl putR b) l l.length)
  | [], i, b, hr, hl, hb => by
    have : i = l.length := by have := congrArg List.length hr; simp at this; omega
    refine ⟨1, ?_⟩
    rw [rounds_succ']
    refine (cput_rd p b l _ _ _).trans ?_
    rw [cond_neg (by omega), this]
    rfl
  | c :: r, i, b, hr, hl, hb => by
    have hlt : i < l.length := by have := congrArg List.length hr; simp at this; omega
    have hc : l.getD i recTy.zero = c := by
      have := congrArg (fun l => l.getD 0 recTy.zero) hr
      simpa [List.getD_eq_getElem?_getD] using this
    have hr' : l.drop (i + 1) = r := by rw [show l.drop (i + 1) = (l.drop i).drop 1 by rw [List.drop_drop], hr]; rfl
    rw [List.length_cons] at hb
    have hlen : (putR b c).length ≤ b.length + 2241 := by
      unfold putR
      cases h : recR c with
      | true => have := encR_len h; simp only [cond_true, List.length_append]; omega
      | false => simp only [cond_false]; omega
    obtain ⟨m, hm'⟩ := cput_rounds K p l hm r (i + 1) (putR b c) hr' (by omega) (by omega)
    refine ⟨m + 1, ?_⟩
    rw [rounds_succ']
    refine (cput_rd p b l _ _ _).trans ?_
    rw [cond_pos (by omega), cond_pos2 (by omega) (by omega), cond_pos (by omega), Int.toNat_natCast, hc, wrap64 (by omega) (by omega)]
    exact hm'
abbrev cputLC : LoopC := LoopC.of ⟨[(0, .vl u8T), (89, .vl recT), (90, .int .i64), (91, .int .i64)], [.box 13 [cmdP]]⟩
    (fun x => decide (x.1.2.2.1 = (List.length x.1.2.1 : Int)) && decide (x.1.2.2.2.1 = 0) && decide (x.1.1.length + 2241 * List.length x.1.2.1 ≤ 140737488350000)) fun x => [(true, .exit 3, cputSt x.2.1.1 (List.foldl putR x.1.1 x.1.2.1) x.1.2.1 (List.length x.1.2.1))]
theorem cput_go (p : patsDen cmdP) (b : List Int) (l : List Rec) (hm : l.length ≤ maxL) (hb : b.length + 2241 * l.length ≤ 140737488350000) :
    ∃ n, rounds (env consC1) H.command_put 1 (LPof []) V.command_put_24 L.command_put_24 n (cputSt p b l 0) (fun e s => some (e, s)) = some (.exit 3, cputSt p (l.foldl putR b) l l.length) :=
  cput_rounds (fun e s => some (e, s)) p l hm l 0 b rfl (by omega) hb
theorem cput_lok : LoopOK P0 H.command_put 1 L.command_put_24 cputLC :=
  loop_ok_of (env_ok consC1_ok) glob0 mixed0 noLoops V.command_put_24 (by decide) fun ⟨⟨b, l, n, i, _⟩, ⟨⟨p, _⟩, _⟩⟩ h hw => by
    simp only [Bool.and_eq_true, decide_eq_true_eq] at h
    obtain ⟨⟨rfl, rfl⟩, h3⟩ := h
    exact cput_go p b l hw.1.2.1.1 h3
def setHw (p : patsDen cmdP) (l : Nat) : List AV := (patsMk cmdP p).set 3 (.hw l)
theorem cget_rd2 {R : Type} (p : patsDen cmdP) (b : List Int) (e : Int) (xs : List Rec) (n i : Int) (K : Ex → St → Option R) : roundK (env consC1) H.command_get 3 (LPof []) V.command_get_16 L.command_get_16
    ⟨[(0, .ptr 0 (.tl 0) 0), (8, .ptr 1 (.tl 0) 3), (55, .int .i64 n), (56, .int .i64 i)], [(0, .arr 2 .bool [] [[.vl u8T b, .int .i64 e]]), (1, .arr 13 .bool [] [setHw p 2]), (2, .log recT xs)], 3⟩ K =
  bif decide (i < n) then
    bif decide ((xs ++ [(getR b).fst]).length * 56 ≤ 140737488355328) then
      K Ex.normal
        {
          slots :=
            [(0, AV.ptr 0 (Elt.tl 0) 0), (8, AV.ptr 1 (Elt.tl 0) 3),
              (55, AV.int IntKind.i64 n), (56, AV.int IntKind.i64 (IntKind.i64.wrap (i + (1 : Int))))],
          objs :=
            [(0,
                AObj.arr 2 Ty.bool []
                  [[AV.vl (Ty.int IntKind.u8) (List.drop (getR b).snd.fst.toNat b),
                      AV.int IntKind.i64 (bif e == (0 : (Pat.int IntKind.i64).den) then (getR b).snd.snd else e)]]),
              (1,
                AObj.arr 13 Ty.bool []
                  [[AV.int IntKind.i64 p.fst, AV.int IntKind.i64 p.snd.fst, AV.int IntKind.i64 p.snd.snd.fst, AV.hw 3,
                      AV.str p.snd.snd.snd.snd.fst, AV.int IntKind.i64 p.snd.snd.snd.snd.snd.fst, AV.int IntKind.i64 p.snd.snd.snd.snd.snd.snd.fst,
                      AV.int IntKind.i64 p.snd.snd.snd.snd.snd.snd.snd.fst, AV.int IntKind.u32 p.snd.snd.snd.snd.snd.snd.snd.snd.fst,
                      AV.int IntKind.i64 p.snd.snd.snd.snd.snd.snd.snd.snd.snd.fst, AV.int IntKind.i64 p.snd.snd.snd.snd.snd.snd.snd.snd.snd.snd.fst,
                      AV.int IntKind.i64 p.snd.snd.snd.snd.snd.snd.snd.snd.snd.snd.snd.fst,
                      AV.int IntKind.i64 p.snd.snd.snd.snd.snd.snd.snd.snd.snd.snd.snd.snd.fst]]),
              (2, AObj.dead), (3, AObj.log recTy (xs ++ [(getR b).fst]))],
          nx := 4 }
    else none
  else
    K (Ex.exit 1)
      {
        slots :=
          [(0, AV.ptr 0 (Elt.tl 0) 0), (8, AV.ptr 1 (Elt.tl 0) 3),
            (55, AV.int IntKind.i64 n), (56, AV.int IntKind.i64 i)],
        objs :=
          [(0, AObj.arr 2 Ty.bool [] [[AV.vl (Ty.int IntKind.u8) b, AV.int IntKind.i64 e]]),
            (1,
              AObj.arr 13 Ty.bool []
                [[AV.int IntKind.i64 p.fst, AV.int IntKind.i64 p.snd.fst, AV.int IntKind.i64 p.snd.snd.fst, AV.hw 2,
                    AV.str p.snd.snd.snd.snd.fst, AV.int IntKind.i64 p.snd.snd.snd.snd.snd.fst, AV.int IntKind.i64 p.snd.snd.snd.snd.snd.snd.fst,
                    AV.int IntKind.i64 p.snd.snd.snd.snd.snd.snd.snd.fst, AV.int IntKind.u32 p.snd.snd.snd.snd.snd.snd.snd.snd.fst,
                    AV.int IntKind.i64 p.snd.snd.snd.snd.snd.snd.snd.snd.snd.fst, AV.int IntKind.i64 p.snd.snd.snd.snd.snd.snd.snd.snd.snd.snd.fst,
                    AV.int IntKind.i64 p.snd.snd.snd.snd.snd.snd.snd.snd.snd.snd.snd.fst,
                    AV.int IntKind.i64 p.snd.snd.snd.snd.snd.snd.snd.snd.snd.snd.snd.snd.fst]]),
            (2, AObj.log recTy xs)],
        nx := 3 } := by kernel_rfl

theorem cget_rd3 {R : Type} (p : patsDen cmdP) (b : List Int) (e : Int) (xs : List Rec) (n i : Int) (K : Ex → St → Option R) : roundK (env consC1) H.command_get 3 (LPof []) V.command_get_16 L.command_get_16
    ⟨[(0, .ptr 0 (.tl 0) 0), (8, .ptr 1 (.tl 0) 3), (55, .int .i64 n), (56, .int .i64 i)], [(0, .arr 2 .bool [] [[.vl u8T b, .int .i64 e]]), (1, .arr 13 .bool [] [setHw p 3]), (2, .dead), (3, .log recT xs)], 4⟩ K =
  bif decide (i < n) then
    bif decide ((xs ++ [(getR b).fst]).length * 56 ≤ 140737488355328) then
      K Ex.normal
        {
          slots :=
            [(0, AV.ptr 0 (Elt.tl 0) 0), (8, AV.ptr 1 (Elt.tl 0) 3),
              (55, AV.int IntKind.i64 n), (56, AV.int IntKind.i64 (IntKind.i64.wrap (i + (1 : Int))))],
          objs :=
            [(0,
                AObj.arr 2 Ty.bool []
                  [[AV.vl (Ty.int IntKind.u8) (List.drop (getR b).snd.fst.toNat b),
                      AV.int IntKind.i64 (bif e == (0 : (Pat.int IntKind.i64).den) then (getR b).snd.snd else e)]]),
              (1,
                AObj.arr 13 Ty.bool []
                  [[AV.int IntKind.i64 p.fst, AV.int IntKind.i64 p.snd.fst, AV.int IntKind.i64 p.snd.snd.fst, AV.hw 3,
                      AV.str p.snd.snd.snd.snd.fst, AV.int IntKind.i64 p.snd.snd.snd.snd.snd.fst, AV.int IntKind.i64 p.snd.snd.snd.snd.snd.snd.fst,
                      AV.int IntKind.i64 p.snd.snd.snd.snd.snd.snd.snd.fst, AV.int IntKind.u32 p.snd.snd.snd.snd.snd.snd.snd.snd.fst,
                      AV.int IntKind.i64 p.snd.snd.snd.snd.snd.snd.snd.snd.snd.fst, AV.int IntKind.i64 p.snd.snd.snd.snd.snd.snd.snd.snd.snd.snd.fst,
                      AV.int IntKind.i64 p.snd.snd.snd.snd.snd.snd.snd.snd.snd.snd.snd.fst,
                      AV.int IntKind.i64 p.snd.snd.snd.snd.snd.snd.snd.snd.snd.snd.snd.snd.fst]]),
              (2, AObj.dead), (3, AObj.log recTy (xs ++ [(getR b).fst]))],
          nx := 4 }
    else none
  else
    K (Ex.exit 1)
      {
        slots :=
          [(0, AV.ptr 0 (Elt.tl 0) 0), (8, AV.ptr 1 (Elt.tl 0) 3),
            (55, AV.int IntKind.i64 n), (56, AV.int IntKind.i64 i)],
        objs :=
          [(0, AObj.arr 2 Ty.bool [] [[AV.vl (Ty.int IntKind.u8) b, AV.int IntKind.i64 e]]),
            (1,
              AObj.arr 13 Ty.bool []
                [[AV.int IntKind.i64 p.fst, AV.int IntKind.i64 p.snd.fst, AV.int IntKind.i64 p.snd.snd.fst, AV.hw 3,
                    AV.str p.snd.snd.snd.snd.fst, AV.int IntKind.i64 p.snd.snd.snd.snd.snd.fst, AV.int IntKind.i64 p.snd.snd.snd.snd.snd.snd.fst,
                    AV.int IntKind.i64 p.snd.snd.snd.snd.snd.snd.snd.fst, AV.int IntKind.u32 p.snd.snd.snd.snd.snd.snd.snd.snd.fst,
                    AV.int IntKind.i64 p.snd.snd.snd.snd.snd.snd.snd.snd.snd.fst, AV.int IntKind.i64 p.snd.snd.snd.snd.snd.snd.snd.snd.snd.snd.fst,
                    AV.int IntKind.i64 p.snd.snd.snd.snd.snd.snd.snd.snd.snd.snd.snd.fst,
                    AV.int IntKind.i64 p.snd.snd.snd.snd.snd.snd.snd.snd.snd.snd.snd.snd.fst]]),
            (2, AObj.dead), (3, AObj.log recTy xs)],
        nx := 4 } := by kernel_rfl

def getS2 (p : patsDen cmdP) (s : RdS) (n i : Int) : St := ⟨[(0, .ptr 0 (.tl 0) 0), (8, .ptr 1 (.tl 0) 3), (55, .int .i64 n), (56, .int .i64 i)], [(0, .arr 2 .bool [] [[.vl u8T s.1, .int .i64 s.2.1]]), (1, .arr 13 .bool [] [setHw p 2]), (2, .log recT s.2.2)], 3⟩
def getS3 (p : patsDen cmdP) (s : RdS) (n i : Int) : St := ⟨[(0, .ptr 0 (.tl 0) 0), (8, .ptr 1 (.tl 0) 3), (55, .int .i64 n), (56, .int .i64 i)], [(0, .arr 2 .bool [] [[.vl u8T s.1, .int .i64 s.2.1]]), (1, .arr 13 .bool [] [setHw p 3]), (2, .dead), (3, .log recT s.2.2)], 4⟩
theorem cget_rounds {R : Type} (K : Ex → St → Option R) (p : patsDen cmdP) (n : Nat) (hn : n ≤ 1000) : ∀ (k i : Nat) (s : RdS), i + k = n → s.2.2.length ≤ 1000000 + i →
    ∃ m, rounds (env consC1) H.command_get 3 (LPof []) V.command_get_16 L.command_get_16 m (getS3 p s n i) K = K (.exit 1) (getS3 p (itR k s) n n)
  | 0, i, s, hi, hx => by
    refine ⟨1, ?_⟩
    rw [rounds_succ']
    refine (cget_rd3 p s.1 s.2.1 s.2.2 _ _ _).trans ?_
    rw [cond_neg (by omega), show (i : Int) = (n : Int) from by omega]
    rfl
  | k + 1, i, s, hi, hx => by
    obtain ⟨m, hm⟩ := cget_rounds K p n hn k (i + 1) (stepR s) (by omega) (by simp only [stepR, List.length_append, List.length_cons, List.length_nil]; omega)
    refine ⟨m + 1, ?_⟩
    rw [rounds_succ']
    refine (cget_rd3 p s.1 s.2.1 s.2.2 _ _ _).trans ?_
    rw [cond_pos (by omega), cond_pos (by simp only [List.length_append, List.length_cons, List.length_nil]; omega), wrap64 (by omega) (by omega)]
    exact hm
theorem cget_rounds2 {R : Type} (K : Ex → St → Option R) (p : patsDen cmdP) (n : Nat) (hn : n ≤ 1000) (s : RdS) (hx : s.2.2.length ≤ 1000000) :
    ∃ m, rounds (env consC1) H.command_get 3 (LPof []) V.command_get_16 L.command_get_16 m (getS2 p s n 0) K = bif decide (n = 0) then K (.exit 1) (getS2 p s n n) else K (.exit 1) (getS3 p (itR n s) n n) := by
  cases n with
  | zero =>
    refine ⟨1, ?_⟩
    rw [rounds_succ']
    refine (cget_rd2 p s.1 s.2.1 s.2.2 _ _ _).trans ?_
    rw [cond_neg (by omega)]
    rfl
  | succ k =>
    obtain ⟨m, hm⟩ := cget_rounds K p (k + 1) hn k 1 (stepR s) (by omega) (by simp only [stepR, List.length_append, List.length_cons, List.length_nil]; omega)
    refine ⟨m + 1, ?_⟩
    rw [rounds_succ']
    refine (cget_rd2 p s.1 s.2.1 s.2.2 _ _ _).trans ?_
    rw [cond_pos (by omega), cond_pos (by simp only [List.length_append, List.length_cons, List.length_nil]; omega), wrap64 (by omega) (by omega)]
    exact hm
end Go.Sim
namespace Go.Sim
set_option linter.unusedSimpArgs false
set_option linter.unusedVariables false
set_option maxRecDepth 10000
abbrev cmdQ (l : Nat) : List Pat := [.int .i64, .int .i64, .int .i64, .lit (.hw l), .str, .int .i64, .int .i64, .int .i64, .int .u32, .int .i64, .int .i64, .int .i64, .int .i64]
abbrev unQ {l : Nat} (x : patsDen (cmdQ l)) : patsDen cmdP := (x.1, x.2.1, x.2.2.1, [], x.2.2.2.2)
abbrev cgetLC : LoopC := LoopC.of ⟨[(0, .lit (.ptr 0 (.tl 0) 0)), (8, .lit (.ptr 1 (.tl 0) 3)), (55, .int .i64), (56, .int .i64)], [.box 2 [[.vl u8T, .int .i64]], .box 13 [cmdQ 2], .log recT]⟩
    (fun x => decide (x.1.2.2.2.1 = 0) && decide (0 ≤ x.1.2.2.1) && decide (x.1.2.2.1 ≤ 1000) && decide (List.length x.2.2.2.1 ≤ 1000000))
    fun x => [(decide (x.1.2.2.1 = 0), .exit 1, getS2 (unQ x.2.2.1.1) (x.2.1.1.1, x.2.1.1.2.1, x.2.2.2.1) x.1.2.2.1 x.1.2.2.1),
      (true, .exit 1, getS3 (unQ x.2.2.1.1) (itR x.1.2.2.1.toNat (x.2.1.1.1, x.2.1.1.2.1, x.2.2.2.1)) x.1.2.2.1 x.1.2.2.1)]
theorem cget_go (p : patsDen cmdP) (s : RdS) (n : Int) (h0 : 0 ≤ n) (hn : n ≤ 1000) (hx : s.2.2.length ≤ 1000000) :
    ∃ m, rounds (env consC1) H.command_get 3 (LPof []) V.command_get_16 L.command_get_16 m (getS2 p s n 0) (fun e s => some (e, s)) = pick [(decide (n = 0), Ex.exit 1, getS2 p s n n), (true, .exit 1, getS3 p (itR n.toNat s) n n)] := by
  obtain ⟨k, rfl⟩ : ∃ k : Nat, n = k := ⟨n.toNat, by omega⟩
  obtain ⟨m, hm⟩ := cget_rounds2 (fun e s => some (e, s)) p k (by omega) s hx
  refine ⟨m, hm.trans ?_⟩
  have e : decide ((k : Int) = 0) = decide (k = 0) := by simp
  simp only [pick, e, Int.toNat_natCast, cond_true]
theorem cget_lok : LoopOK P0 H.command_get 3 L.command_get_16 cgetLC :=
  loop_ok_of (env_ok consC1_ok) glob0 mixed0 noLoops V.command_get_16 (by decide) fun ⟨⟨_, _, n, i, _⟩, ⟨⟨b, e, _⟩, _⟩, ⟨x, _⟩, xs, _⟩ h hw => by
    simp only [Bool.and_eq_true, decide_eq_true_eq] at h
    obtain ⟨⟨⟨rfl, h1⟩, h2⟩, h3⟩ := h
    exact cget_go (unQ x) (b, e, xs) n h1 h2 h3
noncomputable def getLP (R : Type) (k0 : Nat) : Loops R := cond (Nat.beq k0 3) (LPof [(16, cgetLC)]) noLP
noncomputable def putLP (R : Type) (k0 : Nat) : Loops R := cond (Nat.beq k0 1) (mixLP [14] (loopsF (env consC1) H.command_put k0 B.command_put 6) (LPof [(24, cputLC)])) noLP
theorem noLP_good {R : Type} {H : Hint} {k0 : Nat} {c : Code} : LoopsGood P0 H k0 (noLP (R := R)) c := fun b hb s K r h => by cases h
theorem getLP_good (R : Type) (k0 : Nat) : LoopsGood P0 H.command_get k0 (getLP R k0) B.command_get := by
  unfold getLP
  cases h : Nat.beq k0 3 with
  | false => exact noLP_good
  | true =>
    obtain rfl := Nat.eq_of_beq_eq_true h
    exact loops_good (tab := [(16, cgetLC)]) (by kernel_rfl) (fun x hx => by simp at hx; subst hx; exact cget_lok)
theorem putLP_good (R : Type) (k0 : Nat) : LoopsGood P0 H.command_put k0 (putLP R k0) B.command_put := by
  unfold putLP
  cases h : Nat.beq k0 1 with
  | false => exact noLP_good
  | true =>
    obtain rfl := Nat.eq_of_beq_eq_true h
    exact mixLP_good (loopsF_good (env_ok consC1_ok) glob0 mixed0 (by kernel_rfl) 6) (loops_good (tab := [(24, cputLC)]) (by kernel_rfl) (fun x hx => by simp at hx; subst hx; exact cput_lok))
noncomputable abbrev consC2 : List (FuncId × Con) := [(I.command_fields, inl (env []) H.command_fields F.command_fields (fun R _ => noLP)), (I.command_put, inl (env consC1) H.command_put F.command_put putLP), (I.command_get, inl (env consC1) H.command_get F.command_get getLP),
  (I.command_Right, .pure (pureOf [caseCright])), (I.bytes_Equal, .pure (pureOf [caseBeq]))] ++ consC1
theorem consC2_ok : ∀ x ∈ consC2, HoldsC P0 x.1 x.2 := by
  intro x hx
  rcases List.mem_append.1 hx with hx | hx
  · simp at hx
    rcases hx with rfl | rfl | rfl | rfl | rfl
    · exact inl_ok (env_ok env_nil) glob0 mixed0 G.command_fields Bd.command_fields C.command_fields (fun R k0 => noLP_good)
    · exact inl_ok (env_ok consC1_ok) glob0 mixed0 G.command_put Bd.command_put C.command_put putLP_good
    · exact inl_ok (env_ok consC1_ok) glob0 mixed0 G.command_get Bd.command_get C.command_get getLP_good
    · exact ⟨pureOf_holds (by simp; exact cright_ok), C.command_Right⟩
    · exact ⟨pureOf_holds (by simp; exact beq_ok), C.bytes_Equal⟩
  · exact consC1_ok x hx
theorem cbytes_ev (c : Cmd) : evFn (env consC2) H.command_Bytes (loopsF (env consC2) H.command_Bytes 0 B.command_Bytes 6) F.command_Bytes [valOf cmdT c] [] (finT [.sl u8T]) =
  bif !rightC c then some ([], ())
  else
    bif c.fst == (1 : Int) then
      bif decide (List.length ([] ++ putN (foldV c.fst).toNat) ≤ 140737488355000) then
        bif decide (List.length ([] ++ putN (foldV c.fst).toNat ++ putN (foldV c.snd.fst).toNat) ≤ 140737488355000) then
          bif
              decide
                (List.length ([] ++ putN (foldV c.fst).toNat ++ putN (foldV c.snd.fst).toNat ++ putN (foldV c.snd.snd.fst).toNat) ≤
                  140737488355000) then
            bif
                decide ((↑(List.length c.snd.snd.snd.fst) : Int) = (↑(List.length c.snd.snd.snd.fst) : Int)) && true &&
                    decide
                      (List.length
                            ([] ++ putN (foldV c.fst).toNat ++ putN (foldV c.snd.fst).toNat ++ putN (foldV c.snd.snd.fst).toNat ++
                              putN (IntKind.u64.wrap (↑(List.length c.snd.snd.snd.fst) : Int)).toNat) +
                          2241 * List.length c.snd.snd.snd.fst ≤
                        140737488350000) &&
                  true then
              some
                (List.foldl putR
                    ([] ++ putN (foldV c.fst).toNat ++ putN (foldV c.snd.fst).toNat ++ putN (foldV c.snd.snd.fst).toNat ++
                      putN (IntKind.u64.wrap (↑(List.length c.snd.snd.snd.fst) : Int)).toNat)
                    c.snd.snd.snd.fst,
                  ())
            else none
          else none
        else none
      else none
    else
      bif c.fst == (2 : Int) then
        bif decide (List.length ([] ++ putN (foldV c.fst).toNat) ≤ 140737488355000) then
          bif decide (List.length ([] ++ putN (foldV c.fst).toNat ++ putN (foldV c.snd.snd.snd.snd.snd.fst).toNat) ≤ 140737488355000) then
            some
              ([] ++ putN (foldV c.fst).toNat ++ putN (foldV c.snd.snd.snd.snd.snd.fst).toNat ++ putN (foldV c.snd.snd.snd.snd.snd.snd.fst).toNat, ())
          else none
        else none
      else
        bif c.fst == (3 : Int) then
          bif decide (List.length ([] ++ putN (foldV c.fst).toNat) + (bytesOf c.snd.snd.snd.snd.fst).length ≤ 140737488355000) then
            bif
                decide
                  (List.length ([] ++ putN (foldV c.fst).toNat ++ putN (bytesOf c.snd.snd.snd.snd.fst).length ++ bytesOf c.snd.snd.snd.snd.fst) ≤
                    140737488355000) then
              some
                ([] ++ putN (foldV c.fst).toNat ++ putN (bytesOf c.snd.snd.snd.snd.fst).length ++ bytesOf c.snd.snd.snd.snd.fst ++
                    putN (foldV c.snd.snd.snd.snd.snd.fst).toNat,
                  ())
            else none
          else none
        else
          bif c.fst == (4 : Int) then
            bif decide (List.length ([] ++ putN (foldV c.fst).toNat) + (bytesOf c.snd.snd.snd.snd.fst).length ≤ 140737488355000) then
              some ([] ++ putN (foldV c.fst).toNat ++ putN (bytesOf c.snd.snd.snd.snd.fst).length ++ bytesOf c.snd.snd.snd.snd.fst, ())
            else none
          else
            Option.bind (bif c.fst == (5 : Int) then some (c.fst == (5 : Int), ()) else some (c.fst == (9 : Int), ())) fun v =>
              bif v.fst then
                bif decide (List.length ([] ++ putN (foldV c.fst).toNat) ≤ 140737488355000) then
                  some ([] ++ putN (foldV c.fst).toNat ++ putN (foldV c.snd.snd.snd.snd.snd.snd.snd.fst).toNat, ())
                else none
              else
                bif c.fst == (6 : Int) then
                  bif decide (List.length ([] ++ putN (foldV c.fst).toNat) ≤ 140737488355000) then
                    bif
                        decide
                          (List.length ([] ++ putN (foldV c.fst).toNat ++ putN (foldV c.snd.snd.snd.snd.snd.snd.snd.snd.snd.fst).toNat) ≤
                            140737488355000) then
                      bif
                          decide
                            (List.length
                                ([] ++ putN (foldV c.fst).toNat ++ putN (foldV c.snd.snd.snd.snd.snd.snd.snd.snd.snd.fst).toNat ++
                                  putN (foldV c.snd.snd.snd.snd.snd.snd.snd.snd.snd.snd.fst).toNat) ≤
                              140737488355000) then
                        bif
                            decide
                              (List.length
                                  ([] ++ putN (foldV c.fst).toNat ++ putN (foldV c.snd.snd.snd.snd.snd.snd.snd.snd.snd.fst).toNat ++
                                      putN (foldV c.snd.snd.snd.snd.snd.snd.snd.snd.snd.snd.fst).toNat ++
                                    putN (foldV c.snd.snd.snd.snd.snd.snd.snd.snd.snd.snd.snd.fst).toNat) ≤
                                140737488355000) then
                          some
                            ([] ++ putN (foldV c.fst).toNat ++ putN (foldV c.snd.snd.snd.snd.snd.snd.snd.snd.snd.fst).toNat ++
                                    putN (foldV c.snd.snd.snd.snd.snd.snd.snd.snd.snd.snd.fst).toNat ++
                                  putN (foldV c.snd.snd.snd.snd.snd.snd.snd.snd.snd.snd.snd.fst).toNat ++
                                putN (foldV c.snd.snd.snd.snd.snd.snd.snd.snd.snd.snd.snd.snd).toNat,
                              ())
                        else none
                      else none
                    else none
                  else none
                else
                  bif c.fst == (8 : Int) then
                    bif decide (List.length ([] ++ putN (foldV c.fst).toNat) ≤ 140737488355000) then
                      bif
                          decide
                            (List.length ([] ++ putN (foldV c.fst).toNat ++ putN (foldV c.snd.snd.snd.snd.snd.fst).toNat) ≤
                              140737488355000) then
                        some
                          ([] ++ putN (foldV c.fst).toNat ++ putN (foldV c.snd.snd.snd.snd.snd.fst).toNat ++
                              putN (foldV c.snd.snd.snd.snd.snd.snd.snd.fst).toNat,
                            ())
                      else none
                    else none
                  else
                    bif c.fst == (11 : Int) then
                      bif decide (List.length ([] ++ putN (foldV c.fst).toNat) ≤ 140737488355000) then
                        bif
                            decide
                              (List.length ([] ++ putN (foldV c.fst).toNat ++ putN (foldV c.snd.snd.snd.snd.snd.fst).toNat) ≤
                                140737488355000) then
                          bif
                              decide
                                (List.length
                                    ([] ++ putN (foldV c.fst).toNat ++ putN (foldV c.snd.snd.snd.snd.snd.fst).toNat ++
                                      putN (foldV c.snd.snd.fst).toNat) ≤
                                  140737488355000) then
                            bif
                                decide
                                  (List.length
                                      ([] ++ putN (foldV c.fst).toNat ++ putN (foldV c.snd.snd.snd.snd.snd.fst).toNat ++
                                          putN (foldV c.snd.snd.fst).toNat ++
                                        putN (foldV c.snd.snd.snd.snd.snd.snd.fst).toNat) ≤
                                    140737488355000) then
                              some
                                ([] ++ putN (foldV c.fst).toNat ++ putN (foldV c.snd.snd.snd.snd.snd.fst).toNat ++ putN (foldV c.snd.snd.fst).toNat ++
                                      putN (foldV c.snd.snd.snd.snd.snd.snd.fst).toNat ++
                                    putN (IntKind.u64.wrap c.snd.snd.snd.snd.snd.snd.snd.snd.fst).toNat,
                                  ())
                            else none
                          else none
                        else none
                      else none
                    else some ([] ++ putN (foldV c.fst).toNat, ()) := by kernel_rfl

theorem dec1_four (l : List UInt8) : (dec1 l).2 ≤ 4 := by
  unfold dec1
  repeat' split
  all_goals simp
theorem cnt_four : ∀ (m : Nat) (l : List UInt8), l.length ≤ m → l.length ≤ 4 * cnt l
  | 0, l, h => by omega
  | m + 1, l, h => by
    by_cases hl : l = []
    · subst hl; simp
    · have h1 := dec1_four l
      have h2 := dec1_pos l
      have hpos : 1 ≤ l.length := by cases l with | nil => exact absurd rfl hl | cons a b => simp
      rw [cnt_cons l hl]
      have := cnt_four m (l.drop (dec1 l).2) (by simp only [List.length_drop]; omega)
      simp only [List.length_drop] at this
      omega
theorem valid_short {s : List UInt8} (h : validL s = true) : s.length ≤ 160 := by
  unfold validL at h
  simp only [Bool.and_eq_true, decide_eq_true_eq] at h
  have := cnt_four s.length s (Nat.le_refl _)
  omega
theorem putI_len {n : Int} (h : In .i64 n) : (putN (foldV n).toNat).length ≤ 10 := by
  have := In.i64.1 h
  have hf := fold_in this.1 this.2
  exact putN_len (by omega)
theorem wrapu32' {n : Int} (h : In .u32 n) : IntKind.u64.wrap n = n := by have := In.u32.1 h; exact wrapu64 (by omega) (by omega)
def caseBytes : PCase := ⟨[.ty cmdT], [.sl u8T], fun x => (fun (c : Cmd) => [(true, (bytesC c, ()))]) x.1⟩
theorem cbytes_val (c : Cmd) (hw : wfT cmdT c) : evFn (env consC2) H.command_Bytes (loopsF (env consC2) H.command_Bytes 0 B.command_Bytes 6) F.command_Bytes [valOf cmdT c] [] (finT [.sl u8T]) = some (bytesC c, ()) := by
  rw [cbytes_ev]
  unfold bytesC
  cases hr : rightC c with
  | false => rfl
  | true =>
    obtain ⟨a1, a2, a3, a4, a5, a6, a7, a8, a9, a10, a11, a12, a13⟩ := c
    obtain ⟨w1, w2, w3, w4, w5, w6, w7, w8, w9, w10, w11, w12, w13⟩ := hw
    have h1 : (putN (foldV a1).toNat).length ≤ 10 := putI_len w1
    have h2 : (putN (foldV a2).toNat).length ≤ 10 := putI_len w2
    have h3 : (putN (foldV a3).toNat).length ≤ 10 := putI_len w3
    have h6 : (putN (foldV a6).toNat).length ≤ 10 := putI_len w6
    have h7 : (putN (foldV a7).toNat).length ≤ 10 := putI_len w7
    have h8 : (putN (foldV a8).toNat).length ≤ 10 := putI_len w8
    have h10 : (putN (foldV a10).toNat).length ≤ 10 := putI_len w10
    have h11 : (putN (foldV a11).toNat).length ≤ 10 := putI_len w11
    have h12 : (putN (foldV a12).toNat).length ≤ 10 := putI_len w12
    have h13 : (putN (foldV a13).toNat).length ≤ 10 := putI_len w13
    have v9 : In .u32 a9 := w9
    have k9 := In.u32.1 v9
    clear w1 w2 w3 w4 w5 w6 w7 w8 w9 w10 w11 w12 w13
    have hb : (bytesOf a5).length = a5.length := by simp [bytesOf]
    unfold rightC at hr
    unfold encC
    simp only [Bool.not_true, cond_false, cond_true, putI, putC, putT, putL, hb] at hr ⊢
    by_cases e : a1 = 1
    · subst e
      simp only [Int.reduceBEq, Bool.or_false, Bool.false_or, Bool.or_self, Bool.or_true, Bool.true_or, cond_true, cond_false, Bool.and_eq_true, recsB, withinB, decide_eq_true_eq, Option.bind_some] at hr ⊢
      have hl : a4.length ≤ 50 := by omega
      have h9 := putN_len (n := a4.length) (by omega)
      rw [wrapu64 (by omega) (by omega), Int.toNat_natCast]
      rw [cond_pos (by simp only [List.length_append, List.length_nil]; omega), cond_pos (by simp only [List.length_append, List.length_nil]; omega), cond_pos (by simp only [List.length_append, List.length_nil]; omega)]
      simp only [decide_true, Bool.and_true, Bool.true_and]
      rw [cond_pos (by simp only [List.length_append, List.length_nil]; omega)]
    by_cases e : a1 = 2
    · subst e
      simp only [Int.reduceBEq, Bool.or_false, Bool.false_or, Bool.or_self, Bool.or_true, Bool.true_or, cond_true, cond_false, Bool.and_eq_true, recsB, withinB, decide_eq_true_eq, Option.bind_some] at hr ⊢
      rw [cond_pos (by simp only [List.length_append, List.length_nil]; omega), cond_pos (by simp only [List.length_append, List.length_nil]; omega)]
    by_cases e : a1 = 3
    · subst e
      simp only [Int.reduceBEq, Bool.or_false, Bool.false_or, Bool.or_self, Bool.or_true, Bool.true_or, cond_true, cond_false, Bool.and_eq_true, recsB, withinB, decide_eq_true_eq, Option.bind_some] at hr ⊢
      have hl := valid_short hr.2.2
      have h9 := putN_len (n := a5.length) (by omega)
      rw [cond_pos (by simp only [List.length_append, List.length_nil, hb]; omega), cond_pos (by simp only [List.length_append, List.length_nil, hb]; omega)]
    by_cases e : a1 = 4
    · subst e
      simp only [Int.reduceBEq, Bool.or_false, Bool.false_or, Bool.or_self, Bool.or_true, Bool.true_or, cond_true, cond_false, Bool.and_eq_true, recsB, withinB, decide_eq_true_eq, Option.bind_some] at hr ⊢
      have hl := valid_short hr.2
      rw [cond_pos (by simp only [List.length_append, List.length_nil, hb]; omega)]
    have e1 : (a1 == 1) = false := by simpa using ‹¬a1 = 1›
    have e2 : (a1 == 2) = false := by simpa using ‹¬a1 = 2›
    have e3 : (a1 == 3) = false := by simpa using ‹¬a1 = 3›
    have e4 : (a1 == 4) = false := by simpa using ‹¬a1 = 4›
    simp only [e1, e2, e3, e4, cond_false] at hr ⊢
    by_cases e : a1 = 5
    · subst e
      simp only [Int.reduceBEq, Bool.or_false, Bool.false_or, Bool.or_self, Bool.or_true, Bool.true_or, cond_true, cond_false, Bool.and_eq_true, recsB, withinB, decide_eq_true_eq, Option.bind_some] at hr ⊢
      rw [cond_pos (by simp only [List.length_append, List.length_nil]; omega)]
    have e5 : (a1 == 5) = false := by simpa using e
    simp only [e5, cond_false, Bool.false_or, Option.bind_some] at hr ⊢
    by_cases e : a1 = 9
    · subst e
      simp only [Int.reduceBEq, Bool.or_false, Bool.false_or, Bool.or_self, Bool.or_true, Bool.true_or, cond_true, cond_false, Bool.and_eq_true, recsB, withinB, decide_eq_true_eq, Option.bind_some] at hr ⊢
      rw [cond_pos (by simp only [List.length_append, List.length_nil]; omega)]
    have e9 : (a1 == 9) = false := by simpa using e
    simp only [e9, cond_false] at hr ⊢
    by_cases e : a1 = 6
    · subst e
      simp only [Int.reduceBEq, Bool.or_false, Bool.false_or, Bool.or_self, Bool.or_true, Bool.true_or, cond_true, cond_false, Bool.and_eq_true, recsB, withinB, decide_eq_true_eq, Option.bind_some] at hr ⊢
      rw [cond_pos (by simp only [List.length_append, List.length_nil]; omega), cond_pos (by simp only [List.length_append, List.length_nil]; omega), cond_pos (by simp only [List.length_append, List.length_nil]; omega), cond_pos (by simp only [List.length_append, List.length_nil]; omega)]
    have e6 : (a1 == 6) = false := by simpa using e
    simp only [e6, cond_false] at hr ⊢
    by_cases e : a1 = 8
    · subst e
      simp only [Int.reduceBEq, Bool.or_false, Bool.false_or, Bool.or_self, Bool.or_true, Bool.true_or, cond_true, cond_false, Bool.and_eq_true, recsB, withinB, decide_eq_true_eq, Option.bind_some] at hr ⊢
      rw [cond_pos (by simp only [List.length_append, List.length_nil]; omega), cond_pos (by simp only [List.length_append, List.length_nil]; omega)]
    have e8 : (a1 == 8) = false := by simpa using e
    simp only [e8, cond_false] at hr ⊢
    by_cases e : a1 = 11
    · subst e
      simp only [Int.reduceBEq, Bool.or_false, Bool.false_or, Bool.or_self, Bool.or_true, Bool.true_or, cond_true, cond_false, Bool.and_eq_true, recsB, withinB, decide_eq_true_eq, Option.bind_some] at hr ⊢
      rw [cond_pos (by simp only [List.length_append, List.length_nil]; omega), cond_pos (by simp only [List.length_append, List.length_nil]; omega), cond_pos (by simp only [List.length_append, List.length_nil]; omega), cond_pos (by simp only [List.length_append, List.length_nil]; omega), wrapu32' v9]
    have e11 : (a1 == 11) = false := by simpa using e
    simp only [e11, cond_false] at hr ⊢
theorem cbytes_ok : caseBytes.ok P0 I.command_Bytes := case_ok2 (H := H.command_Bytes) (E := env consC2) (env_ok consC2_ok) glob0 mixed0 G.command_Bytes Bd.command_Bytes (by kernel_rfl) (loopsF_good (env_ok consC2_ok) glob0 mixed0 (by kernel_rfl) 6) fun ⟨c, ()⟩ y h hw => by
  obtain ⟨hc, rfl⟩ := pick_pre h
  exact cbytes_val c hw.1
end Go.Sim
namespace Go.Sim
set_option linter.unusedSimpArgs false
set_option linter.unusedVariables false
set_option maxRecDepth 10000
noncomputable abbrev consC3 : List (FuncId × Con) := [(I.command_Bytes, .pure (pureOf [caseBytes]))] ++ consC2
theorem consC3_ok : ∀ x ∈ consC3, HoldsC P0 x.1 x.2 := by
  intro x hx
  rcases List.mem_append.1 hx with hx | hx
  · simp at hx
    subst hx
    exact ⟨pureOf_holds (by simp; exact cbytes_ok), C.command_Bytes⟩
  · exact consC2_ok x hx
theorem cread_ev (b : List Int) : evFn (env consC3) H.command_Read (loopsF (env consC3) H.command_Read 0 B.command_Read 6) F.command_Read [.vl u8T b] [] (finT [cmdT, .int .i64]) =
  bif unfoldV (numP (b, (0 : (Pat.int IntKind.i64).den))).fst == (1 : Int) then
    bif
        decide
                ((0 : (Pat.int IntKind.i64).den) ≤
                  bif decide ((51 : Int) < (countP (numP (numP (numP (b, (0 : (Pat.int IntKind.i64).den))).snd).snd).snd).fst) then (51 : Int)
                  else (countP (numP (numP (numP (b, (0 : (Pat.int IntKind.i64).den))).snd).snd).snd).fst) &&
              decide
                ((bif decide ((51 : Int) < (countP (numP (numP (numP (b, (0 : (Pat.int IntKind.i64).den))).snd).snd).snd).fst) then (51 : Int)
                  else (countP (numP (numP (numP (b, (0 : (Pat.int IntKind.i64).den))).snd).snd).snd).fst) ≤
                  (1000 : (Pat.int IntKind.i64).den)) &&
            true &&
          decide
            ((bif decide ((51 : Int) < (countP (numP (numP (numP (b, (0 : (Pat.int IntKind.i64).den))).snd).snd).snd).fst) then (51 : Int)
              else (countP (numP (numP (numP (b, (0 : (Pat.int IntKind.i64).den))).snd).snd).snd).fst) =
              (0 : (Pat.int IntKind.i64).den)) then
      bif
          !((countP (numP (numP (numP (b, (0 : (Pat.int IntKind.i64).den))).snd).snd).snd).snd.snd == (0 : (Pat.int IntKind.i64).den) &&
              (↑(countP (numP (numP (numP (b, (0 : (Pat.int IntKind.i64).den))).snd).snd).snd).snd.fst.length : Int) == (0 : Int)) then
        some
          (((0 : Int), (0 : Int), (0 : Int), [], [], (0 : Int), (0 : Int), (0 : Int), (0 : Int), (0 : Int), (0 : Int), (0 : Int), (0 : Int)), (2 : Int),
            ())
      else
        bif
            !rightC
                (unfoldV (numP (b, (0 : (Pat.int IntKind.i64).den))).fst, unfoldV (numP (numP (b, (0 : (Pat.int IntKind.i64).den))).snd).fst,
                  unfoldV (numP (numP (numP (b, (0 : (Pat.int IntKind.i64).den))).snd).snd).fst, [], [], (0 : Int), (0 : Int), (0 : Int), (0 : Int),
                  (0 : Int), (0 : Int), (0 : Int), (0 : Int)) then
          some
            (((0 : Int), (0 : Int), (0 : Int), [], [], (0 : Int), (0 : Int), (0 : Int), (0 : Int), (0 : Int), (0 : Int), (0 : Int), (0 : Int)),
              (2 : Int), ())
        else
          bif
              !ofBytes
                    (bytesC
                      (unfoldV (numP (b, (0 : (Pat.int IntKind.i64).den))).fst, unfoldV (numP (numP (b, (0 : (Pat.int IntKind.i64).den))).snd).fst,
                        unfoldV (numP (numP (numP (b, (0 : (Pat.int IntKind.i64).den))).snd).snd).fst, [], [], (0 : Int), (0 : Int), (0 : Int),
                        (0 : Int), (0 : Int), (0 : Int), (0 : Int), (0 : Int))) ==
                  ofBytes b then
            some
              (((0 : Int), (0 : Int), (0 : Int), [], [], (0 : Int), (0 : Int), (0 : Int), (0 : Int), (0 : Int), (0 : Int), (0 : Int), (0 : Int)),
                (2 : Int), ())
          else
            some
              ((unfoldV (numP (b, (0 : (Pat.int IntKind.i64).den))).fst, unfoldV (numP (numP (b, (0 : (Pat.int IntKind.i64).den))).snd).fst,
                  unfoldV (numP (numP (numP (b, (0 : (Pat.int IntKind.i64).den))).snd).snd).fst, [], [], (0 : Int), (0 : Int), (0 : Int), (0 : Int),
                  (0 : Int), (0 : Int), (0 : Int), (0 : Int)),
                (0 : Int), ())
    else
      bif
          decide
                  ((0 : (Pat.int IntKind.i64).den) ≤
                    bif decide ((51 : Int) < (countP (numP (numP (numP (b, (0 : (Pat.int IntKind.i64).den))).snd).snd).snd).fst) then (51 : Int)
                    else (countP (numP (numP (numP (b, (0 : (Pat.int IntKind.i64).den))).snd).snd).snd).fst) &&
                decide
                  ((bif decide ((51 : Int) < (countP (numP (numP (numP (b, (0 : (Pat.int IntKind.i64).den))).snd).snd).snd).fst) then (51 : Int)
                    else (countP (numP (numP (numP (b, (0 : (Pat.int IntKind.i64).den))).snd).snd).snd).fst) ≤
                    (1000 : (Pat.int IntKind.i64).den)) &&
              true &&
            true then
        bif
            !((itR
                        (bif decide ((51 : Int) < (countP (numP (numP (numP (b, (0 : (Pat.int IntKind.i64).den))).snd).snd).snd).fst) then (51 : Int)
                          else (countP (numP (numP (numP (b, (0 : (Pat.int IntKind.i64).den))).snd).snd).snd).fst).toNat
                        ((countP (numP (numP (numP (b, (0 : (Pat.int IntKind.i64).den))).snd).snd).snd).snd.fst,
                          (countP (numP (numP (numP (b, (0 : (Pat.int IntKind.i64).den))).snd).snd).snd).snd.snd, [])).snd.fst ==
                  (0 : (Pat.int IntKind.i64).den) &&
                (↑(itR
                            (bif decide ((51 : Int) < (countP (numP (numP (numP (b, (0 : (Pat.int IntKind.i64).den))).snd).snd).snd).fst) then
                                (51 : Int)
                              else (countP (numP (numP (numP (b, (0 : (Pat.int IntKind.i64).den))).snd).snd).snd).fst).toNat
                            ((countP (numP (numP (numP (b, (0 : (Pat.int IntKind.i64).den))).snd).snd).snd).snd.fst,
                              (countP (numP (numP (numP (b, (0 : (Pat.int IntKind.i64).den))).snd).snd).snd).snd.snd, [])).fst.length :
                    Int) ==
                  (0 : Int)) then
          some
            (((0 : Int), (0 : Int), (0 : Int), [], [], (0 : Int), (0 : Int), (0 : Int), (0 : Int), (0 : Int), (0 : Int), (0 : Int), (0 : Int)),
              (2 : Int), ())
        else
          bif
              !rightC
                  (unfoldV (numP (b, (0 : (Pat.int IntKind.i64).den))).fst, unfoldV (numP (numP (b, (0 : (Pat.int IntKind.i64).den))).snd).fst,
                    unfoldV (numP (numP (numP (b, (0 : (Pat.int IntKind.i64).den))).snd).snd).fst,
                    (itR
                          (bif decide ((51 : Int) < (countP (numP (numP (numP (b, (0 : (Pat.int IntKind.i64).den))).snd).snd).snd).fst) then (51 : Int)
                            else (countP (numP (numP (numP (b, (0 : (Pat.int IntKind.i64).den))).snd).snd).snd).fst).toNat
                          ((countP (numP (numP (numP (b, (0 : (Pat.int IntKind.i64).den))).snd).snd).snd).snd.fst,
                            (countP (numP (numP (numP (b, (0 : (Pat.int IntKind.i64).den))).snd).snd).snd).snd.snd, [])).snd.snd,
                    [], (0 : Int), (0 : Int), (0 : Int), (0 : Int), (0 : Int), (0 : Int), (0 : Int), (0 : Int)) then
            some
              (((0 : Int), (0 : Int), (0 : Int), [], [], (0 : Int), (0 : Int), (0 : Int), (0 : Int), (0 : Int), (0 : Int), (0 : Int), (0 : Int)),
                (2 : Int), ())
          else
            bif
                !ofBytes
                      (bytesC
                        (unfoldV (numP (b, (0 : (Pat.int IntKind.i64).den))).fst, unfoldV (numP (numP (b, (0 : (Pat.int IntKind.i64).den))).snd).fst,
                          unfoldV (numP (numP (numP (b, (0 : (Pat.int IntKind.i64).den))).snd).snd).fst,
                          (itR
                                (bif decide ((51 : Int) < (countP (numP (numP (numP (b, (0 : (Pat.int IntKind.i64).den))).snd).snd).snd).fst) then
                                    (51 : Int)
                                  else (countP (numP (numP (numP (b, (0 : (Pat.int IntKind.i64).den))).snd).snd).snd).fst).toNat
                                ((countP (numP (numP (numP (b, (0 : (Pat.int IntKind.i64).den))).snd).snd).snd).snd.fst,
                                  (countP (numP (numP (numP (b, (0 : (Pat.int IntKind.i64).den))).snd).snd).snd).snd.snd, [])).snd.snd,
                          [], (0 : Int), (0 : Int), (0 : Int), (0 : Int), (0 : Int), (0 : Int), (0 : Int), (0 : Int))) ==
                    ofBytes b then
              some
                (((0 : Int), (0 : Int), (0 : Int), [], [], (0 : Int), (0 : Int), (0 : Int), (0 : Int), (0 : Int), (0 : Int), (0 : Int), (0 : Int)),
                  (2 : Int), ())
            else
              some
                ((unfoldV (numP (b, (0 : (Pat.int IntKind.i64).den))).fst, unfoldV (numP (numP (b, (0 : (Pat.int IntKind.i64).den))).snd).fst,
                    unfoldV (numP (numP (numP (b, (0 : (Pat.int IntKind.i64).den))).snd).snd).fst,
                    (itR
                          (bif decide ((51 : Int) < (countP (numP (numP (numP (b, (0 : (Pat.int IntKind.i64).den))).snd).snd).snd).fst) then (51 : Int)
                            else (countP (numP (numP (numP (b, (0 : (Pat.int IntKind.i64).den))).snd).snd).snd).fst).toNat
                          ((countP (numP (numP (numP (b, (0 : (Pat.int IntKind.i64).den))).snd).snd).snd).snd.fst,
                            (countP (numP (numP (numP (b, (0 : (Pat.int IntKind.i64).den))).snd).snd).snd).snd.snd, [])).snd.snd,
                    [], (0 : Int), (0 : Int), (0 : Int), (0 : Int), (0 : Int), (0 : Int), (0 : Int), (0 : Int)),
                  (0 : Int), ())
      else none
  else
    bif unfoldV (numP (b, (0 : (Pat.int IntKind.i64).den))).fst == (2 : Int) then
      bif
          !((numP (numP (numP (b, (0 : (Pat.int IntKind.i64).den))).snd).snd).snd.snd == (0 : (Pat.int IntKind.i64).den) &&
              (↑(numP (numP (numP (b, (0 : (Pat.int IntKind.i64).den))).snd).snd).snd.fst.length : Int) == (0 : Int)) then
        some
          (((0 : Int), (0 : Int), (0 : Int), [], [], (0 : Int), (0 : Int), (0 : Int), (0 : Int), (0 : Int), (0 : Int), (0 : Int), (0 : Int)), (2 : Int),
            ())
      else
        bif
            !rightC
                (unfoldV (numP (b, (0 : (Pat.int IntKind.i64).den))).fst, (0 : Int), (0 : Int), [], [],
                  unfoldV (numP (numP (b, (0 : (Pat.int IntKind.i64).den))).snd).fst,
                  unfoldV (numP (numP (numP (b, (0 : (Pat.int IntKind.i64).den))).snd).snd).fst, (0 : Int), (0 : Int), (0 : Int), (0 : Int), (0 : Int),
                  (0 : Int)) then
          some
            (((0 : Int), (0 : Int), (0 : Int), [], [], (0 : Int), (0 : Int), (0 : Int), (0 : Int), (0 : Int), (0 : Int), (0 : Int), (0 : Int)),
              (2 : Int), ())
        else
          bif
              !ofBytes
                    (bytesC
                      (unfoldV (numP (b, (0 : (Pat.int IntKind.i64).den))).fst, (0 : Int), (0 : Int), [], [],
                        unfoldV (numP (numP (b, (0 : (Pat.int IntKind.i64).den))).snd).fst,
                        unfoldV (numP (numP (numP (b, (0 : (Pat.int IntKind.i64).den))).snd).snd).fst, (0 : Int), (0 : Int), (0 : Int), (0 : Int),
                        (0 : Int), (0 : Int))) ==
                  ofBytes b then
            some
              (((0 : Int), (0 : Int), (0 : Int), [], [], (0 : Int), (0 : Int), (0 : Int), (0 : Int), (0 : Int), (0 : Int), (0 : Int), (0 : Int)),
                (2 : Int), ())
          else
            some
              ((unfoldV (numP (b, (0 : (Pat.int IntKind.i64).den))).fst, (0 : Int), (0 : Int), [], [],
                  unfoldV (numP (numP (b, (0 : (Pat.int IntKind.i64).den))).snd).fst,
                  unfoldV (numP (numP (numP (b, (0 : (Pat.int IntKind.i64).den))).snd).snd).fst, (0 : Int), (0 : Int), (0 : Int), (0 : Int), (0 : Int),
                  (0 : Int)),
                (0 : Int), ())
    else
      bif unfoldV (numP (b, (0 : (Pat.int IntKind.i64).den))).fst == (3 : Int) then
        bif decide ((numP (b, (0 : (Pat.int IntKind.i64).den))).snd.fst.length ≤ 140737488355328) then
          bif
              !((numP (bytesP (numP (b, (0 : (Pat.int IntKind.i64).den))).snd).snd).snd.snd == (0 : (Pat.int IntKind.i64).den) &&
                  (↑(numP (bytesP (numP (b, (0 : (Pat.int IntKind.i64).den))).snd).snd).snd.fst.length : Int) == (0 : Int)) then
            some
              (((0 : Int), (0 : Int), (0 : Int), [], [], (0 : Int), (0 : Int), (0 : Int), (0 : Int), (0 : Int), (0 : Int), (0 : Int), (0 : Int)),
                (2 : Int), ())
          else
            bif
                !rightC
                    (unfoldV (numP (b, (0 : (Pat.int IntKind.i64).den))).fst, (0 : Int), (0 : Int), [],
                      ofBytes (bytesP (numP (b, (0 : (Pat.int IntKind.i64).den))).snd).fst,
                      unfoldV (numP (bytesP (numP (b, (0 : (Pat.int IntKind.i64).den))).snd).snd).fst, (0 : Int), (0 : Int), (0 : Int), (0 : Int),
                      (0 : Int), (0 : Int), (0 : Int)) then
              some
                (((0 : Int), (0 : Int), (0 : Int), [], [], (0 : Int), (0 : Int), (0 : Int), (0 : Int), (0 : Int), (0 : Int), (0 : Int), (0 : Int)),
                  (2 : Int), ())
            else
              bif
                  !ofBytes
                        (bytesC
                          (unfoldV (numP (b, (0 : (Pat.int IntKind.i64).den))).fst, (0 : Int), (0 : Int), [],
                            ofBytes (bytesP (numP (b, (0 : (Pat.int IntKind.i64).den))).snd).fst,
                            unfoldV (numP (bytesP (numP (b, (0 : (Pat.int IntKind.i64).den))).snd).snd).fst, (0 : Int), (0 : Int), (0 : Int), (0 : Int),
                            (0 : Int), (0 : Int), (0 : Int))) ==
                      ofBytes b then
                some
                  (((0 : Int), (0 : Int), (0 : Int), [], [], (0 : Int), (0 : Int), (0 : Int), (0 : Int), (0 : Int), (0 : Int), (0 : Int), (0 : Int)),
                    (2 : Int), ())
              else
                some
                  ((unfoldV (numP (b, (0 : (Pat.int IntKind.i64).den))).fst, (0 : Int), (0 : Int), [],
                      ofBytes (bytesP (numP (b, (0 : (Pat.int IntKind.i64).den))).snd).fst,
                      unfoldV (numP (bytesP (numP (b, (0 : (Pat.int IntKind.i64).den))).snd).snd).fst, (0 : Int), (0 : Int), (0 : Int), (0 : Int),
                      (0 : Int), (0 : Int), (0 : Int)),
                    (0 : Int), ())
        else none
      else
        bif unfoldV (numP (b, (0 : (Pat.int IntKind.i64).den))).fst == (4 : Int) then
          bif decide ((numP (b, (0 : (Pat.int IntKind.i64).den))).snd.fst.length ≤ 140737488355328) then
            bif
                !((bytesP (numP (b, (0 : (Pat.int IntKind.i64).den))).snd).snd.snd == (0 : (Pat.int IntKind.i64).den) &&
                    (↑(bytesP (numP (b, (0 : (Pat.int IntKind.i64).den))).snd).snd.fst.length : Int) == (0 : Int)) then
              some
                (((0 : Int), (0 : Int), (0 : Int), [], [], (0 : Int), (0 : Int), (0 : Int), (0 : Int), (0 : Int), (0 : Int), (0 : Int), (0 : Int)),
                  (2 : Int), ())
            else
              bif
                  !rightC
                      (unfoldV (numP (b, (0 : (Pat.int IntKind.i64).den))).fst, (0 : Int), (0 : Int), [],
                        ofBytes (bytesP (numP (b, (0 : (Pat.int IntKind.i64).den))).snd).fst, (0 : Int), (0 : Int), (0 : Int), (0 : Int), (0 : Int),
                        (0 : Int), (0 : Int), (0 : Int)) then
                some
                  (((0 : Int), (0 : Int), (0 : Int), [], [], (0 : Int), (0 : Int), (0 : Int), (0 : Int), (0 : Int), (0 : Int), (0 : Int), (0 : Int)),
                    (2 : Int), ())
              else
                bif
                    !ofBytes
                          (bytesC
                            (unfoldV (numP (b, (0 : (Pat.int IntKind.i64).den))).fst, (0 : Int), (0 : Int), [],
                              ofBytes (bytesP (numP (b, (0 : (Pat.int IntKind.i64).den))).snd).fst, (0 : Int), (0 : Int), (0 : Int), (0 : Int),
                              (0 : Int), (0 : Int), (0 : Int), (0 : Int))) ==
                        ofBytes b then
                  some
                    (((0 : Int), (0 : Int), (0 : Int), [], [], (0 : Int), (0 : Int), (0 : Int), (0 : Int), (0 : Int), (0 : Int), (0 : Int), (0 : Int)),
                      (2 : Int), ())
                else
                  some
                    ((unfoldV (numP (b, (0 : (Pat.int IntKind.i64).den))).fst, (0 : Int), (0 : Int), [],
                        ofBytes (bytesP (numP (b, (0 : (Pat.int IntKind.i64).den))).snd).fst, (0 : Int), (0 : Int), (0 : Int), (0 : Int), (0 : Int),
                        (0 : Int), (0 : Int), (0 : Int)),
                      (0 : Int), ())
          else none
        else
          Option.bind
            (bif unfoldV (numP (b, (0 : (Pat.int IntKind.i64).den))).fst == (5 : Int) then
              some (unfoldV (numP (b, (0 : (Pat.int IntKind.i64).den))).fst == (5 : Int), ())
            else some (unfoldV (numP (b, (0 : (Pat.int IntKind.i64).den))).fst == (9 : Int), ()))
            fun v =>
            bif v.fst then
              bif
                  !((numP (numP (b, (0 : (Pat.int IntKind.i64).den))).snd).snd.snd == (0 : (Pat.int IntKind.i64).den) &&
                      (↑(numP (numP (b, (0 : (Pat.int IntKind.i64).den))).snd).snd.fst.length : Int) == (0 : Int)) then
                some
                  (((0 : Int), (0 : Int), (0 : Int), [], [], (0 : Int), (0 : Int), (0 : Int), (0 : Int), (0 : Int), (0 : Int), (0 : Int), (0 : Int)),
                    (2 : Int), ())
              else
                bif
                    !rightC
                        (unfoldV (numP (b, (0 : (Pat.int IntKind.i64).den))).fst, (0 : Int), (0 : Int), [], [], (0 : Int), (0 : Int),
                          unfoldV (numP (numP (b, (0 : (Pat.int IntKind.i64).den))).snd).fst, (0 : Int), (0 : Int), (0 : Int), (0 : Int),
                          (0 : Int)) then
                  some
                    (((0 : Int), (0 : Int), (0 : Int), [], [], (0 : Int), (0 : Int), (0 : Int), (0 : Int), (0 : Int), (0 : Int), (0 : Int), (0 : Int)),
                      (2 : Int), ())
                else
                  bif
                      !ofBytes
                            (bytesC
                              (unfoldV (numP (b, (0 : (Pat.int IntKind.i64).den))).fst, (0 : Int), (0 : Int), [], [], (0 : Int), (0 : Int),
                                unfoldV (numP (numP (b, (0 : (Pat.int IntKind.i64).den))).snd).fst, (0 : Int), (0 : Int), (0 : Int), (0 : Int),
                                (0 : Int))) ==
                          ofBytes b then
                    some
                      (((0 : Int), (0 : Int), (0 : Int), [], [], (0 : Int), (0 : Int), (0 : Int), (0 : Int), (0 : Int), (0 : Int), (0 : Int),
                          (0 : Int)),
                        (2 : Int), ())
                  else
                    some
                      ((unfoldV (numP (b, (0 : (Pat.int IntKind.i64).den))).fst, (0 : Int), (0 : Int), [], [], (0 : Int), (0 : Int),
                          unfoldV (numP (numP (b, (0 : (Pat.int IntKind.i64).den))).snd).fst, (0 : Int), (0 : Int), (0 : Int), (0 : Int), (0 : Int)),
                        (0 : Int), ())
            else
              bif unfoldV (numP (b, (0 : (Pat.int IntKind.i64).den))).fst == (6 : Int) then
                bif
                    !((numP (numP (numP (numP (numP (b, (0 : (Pat.int IntKind.i64).den))).snd).snd).snd).snd).snd.snd ==
                          (0 : (Pat.int IntKind.i64).den) &&
                        (↑(numP (numP (numP (numP (numP (b, (0 : (Pat.int IntKind.i64).den))).snd).snd).snd).snd).snd.fst.length : Int) ==
                          (0 : Int)) then
                  some
                    (((0 : Int), (0 : Int), (0 : Int), [], [], (0 : Int), (0 : Int), (0 : Int), (0 : Int), (0 : Int), (0 : Int), (0 : Int), (0 : Int)),
                      (2 : Int), ())
                else
                  bif
                      !rightC
                          (unfoldV (numP (b, (0 : (Pat.int IntKind.i64).den))).fst, (0 : Int), (0 : Int), [], [], (0 : Int), (0 : Int), (0 : Int),
                            (0 : Int), unfoldV (numP (numP (b, (0 : (Pat.int IntKind.i64).den))).snd).fst,
                            unfoldV (numP (numP (numP (b, (0 : (Pat.int IntKind.i64).den))).snd).snd).fst,
                            unfoldV (numP (numP (numP (numP (b, (0 : (Pat.int IntKind.i64).den))).snd).snd).snd).fst,
                            unfoldV (numP (numP (numP (numP (numP (b, (0 : (Pat.int IntKind.i64).den))).snd).snd).snd).snd).fst) then
                    some
                      (((0 : Int), (0 : Int), (0 : Int), [], [], (0 : Int), (0 : Int), (0 : Int), (0 : Int), (0 : Int), (0 : Int), (0 : Int),
                          (0 : Int)),
                        (2 : Int), ())
                  else
                    bif
                        !ofBytes
                              (bytesC
                                (unfoldV (numP (b, (0 : (Pat.int IntKind.i64).den))).fst, (0 : Int), (0 : Int), [], [], (0 : Int), (0 : Int), (0 : Int),
                                  (0 : Int), unfoldV (numP (numP (b, (0 : (Pat.int IntKind.i64).den))).snd).fst,
                                  unfoldV (numP (numP (numP (b, (0 : (Pat.int IntKind.i64).den))).snd).snd).fst,
                                  unfoldV (numP (numP (numP (numP (b, (0 : (Pat.int IntKind.i64).den))).snd).snd).snd).fst,
                                  unfoldV (numP (numP (numP (numP (numP (b, (0 : (Pat.int IntKind.i64).den))).snd).snd).snd).snd).fst)) ==
                            ofBytes b then
                      some
                        (((0 : Int), (0 : Int), (0 : Int), [], [], (0 : Int), (0 : Int), (0 : Int), (0 : Int), (0 : Int), (0 : Int), (0 : Int),
                            (0 : Int)),
                          (2 : Int), ())
                    else
                      some
                        ((unfoldV (numP (b, (0 : (Pat.int IntKind.i64).den))).fst, (0 : Int), (0 : Int), [], [], (0 : Int), (0 : Int), (0 : Int),
                            (0 : Int), unfoldV (numP (numP (b, (0 : (Pat.int IntKind.i64).den))).snd).fst,
                            unfoldV (numP (numP (numP (b, (0 : (Pat.int IntKind.i64).den))).snd).snd).fst,
                            unfoldV (numP (numP (numP (numP (b, (0 : (Pat.int IntKind.i64).den))).snd).snd).snd).fst,
                            unfoldV (numP (numP (numP (numP (numP (b, (0 : (Pat.int IntKind.i64).den))).snd).snd).snd).snd).fst),
                          (0 : Int), ())
              else
                bif unfoldV (numP (b, (0 : (Pat.int IntKind.i64).den))).fst == (8 : Int) then
                  bif
                      !((numP (numP (numP (b, (0 : (Pat.int IntKind.i64).den))).snd).snd).snd.snd == (0 : (Pat.int IntKind.i64).den) &&
                          (↑(numP (numP (numP (b, (0 : (Pat.int IntKind.i64).den))).snd).snd).snd.fst.length : Int) == (0 : Int)) then
                    some
                      (((0 : Int), (0 : Int), (0 : Int), [], [], (0 : Int), (0 : Int), (0 : Int), (0 : Int), (0 : Int), (0 : Int), (0 : Int),
                          (0 : Int)),
                        (2 : Int), ())
                  else
                    bif
                        !rightC
                            (unfoldV (numP (b, (0 : (Pat.int IntKind.i64).den))).fst, (0 : Int), (0 : Int), [], [],
                              unfoldV (numP (numP (b, (0 : (Pat.int IntKind.i64).den))).snd).fst, (0 : Int),
                              unfoldV (numP (numP (numP (b, (0 : (Pat.int IntKind.i64).den))).snd).snd).fst, (0 : Int), (0 : Int), (0 : Int), (0 : Int),
                              (0 : Int)) then
                      some
                        (((0 : Int), (0 : Int), (0 : Int), [], [], (0 : Int), (0 : Int), (0 : Int), (0 : Int), (0 : Int), (0 : Int), (0 : Int),
                            (0 : Int)),
                          (2 : Int), ())
                    else
                      bif
                          !ofBytes
                                (bytesC
                                  (unfoldV (numP (b, (0 : (Pat.int IntKind.i64).den))).fst, (0 : Int), (0 : Int), [], [],
                                    unfoldV (numP (numP (b, (0 : (Pat.int IntKind.i64).den))).snd).fst, (0 : Int),
                                    unfoldV (numP (numP (numP (b, (0 : (Pat.int IntKind.i64).den))).snd).snd).fst, (0 : Int), (0 : Int), (0 : Int),
                                    (0 : Int), (0 : Int))) ==
                              ofBytes b then
                        some
                          (((0 : Int), (0 : Int), (0 : Int), [], [], (0 : Int), (0 : Int), (0 : Int), (0 : Int), (0 : Int), (0 : Int), (0 : Int),
                              (0 : Int)),
                            (2 : Int), ())
                      else
                        some
                          ((unfoldV (numP (b, (0 : (Pat.int IntKind.i64).den))).fst, (0 : Int), (0 : Int), [], [],
                              unfoldV (numP (numP (b, (0 : (Pat.int IntKind.i64).den))).snd).fst, (0 : Int),
                              unfoldV (numP (numP (numP (b, (0 : (Pat.int IntKind.i64).den))).snd).snd).fst, (0 : Int), (0 : Int), (0 : Int), (0 : Int),
                              (0 : Int)),
                            (0 : Int), ())
                else
                  bif unfoldV (numP (b, (0 : (Pat.int IntKind.i64).den))).fst == (11 : Int) then
                    bif
                        !((numP (numP (numP (numP (numP (b, (0 : (Pat.int IntKind.i64).den))).snd).snd).snd).snd).snd.snd ==
                              (0 : (Pat.int IntKind.i64).den) &&
                            (↑(numP (numP (numP (numP (numP (b, (0 : (Pat.int IntKind.i64).den))).snd).snd).snd).snd).snd.fst.length : Int) ==
                              (0 : Int)) then
                      some
                        (((0 : Int), (0 : Int), (0 : Int), [], [], (0 : Int), (0 : Int), (0 : Int), (0 : Int), (0 : Int), (0 : Int), (0 : Int),
                            (0 : Int)),
                          (2 : Int), ())
                    else
                      bif
                          !rightC
                              (unfoldV (numP (b, (0 : (Pat.int IntKind.i64).den))).fst, (0 : Int),
                                unfoldV (numP (numP (numP (b, (0 : (Pat.int IntKind.i64).den))).snd).snd).fst, [], [],
                                unfoldV (numP (numP (b, (0 : (Pat.int IntKind.i64).den))).snd).fst,
                                unfoldV (numP (numP (numP (numP (b, (0 : (Pat.int IntKind.i64).den))).snd).snd).snd).fst, (0 : Int),
                                IntKind.u32.wrap (numP (numP (numP (numP (numP (b, (0 : (Pat.int IntKind.i64).den))).snd).snd).snd).snd).fst, (0 : Int),
                                (0 : Int), (0 : Int), (0 : Int)) then
                        some
                          (((0 : Int), (0 : Int), (0 : Int), [], [], (0 : Int), (0 : Int), (0 : Int), (0 : Int), (0 : Int), (0 : Int), (0 : Int),
                              (0 : Int)),
                            (2 : Int), ())
                      else
                        bif
                            !ofBytes
                                  (bytesC
                                    (unfoldV (numP (b, (0 : (Pat.int IntKind.i64).den))).fst, (0 : Int),
                                      unfoldV (numP (numP (numP (b, (0 : (Pat.int IntKind.i64).den))).snd).snd).fst, [], [],
                                      unfoldV (numP (numP (b, (0 : (Pat.int IntKind.i64).den))).snd).fst,
                                      unfoldV (numP (numP (numP (numP (b, (0 : (Pat.int IntKind.i64).den))).snd).snd).snd).fst, (0 : Int),
                                      IntKind.u32.wrap (numP (numP (numP (numP (numP (b, (0 : (Pat.int IntKind.i64).den))).snd).snd).snd).snd).fst,
                                      (0 : Int), (0 : Int), (0 : Int), (0 : Int))) ==
                                ofBytes b then
                          some
                            (((0 : Int), (0 : Int), (0 : Int), [], [], (0 : Int), (0 : Int), (0 : Int), (0 : Int), (0 : Int), (0 : Int), (0 : Int),
                                (0 : Int)),
                              (2 : Int), ())
                        else
                          some
                            ((unfoldV (numP (b, (0 : (Pat.int IntKind.i64).den))).fst, (0 : Int),
                                unfoldV (numP (numP (numP (b, (0 : (Pat.int IntKind.i64).den))).snd).snd).fst, [], [],
                                unfoldV (numP (numP (b, (0 : (Pat.int IntKind.i64).den))).snd).fst,
                                unfoldV (numP (numP (numP (numP (b, (0 : (Pat.int IntKind.i64).den))).snd).snd).snd).fst, (0 : Int),
                                IntKind.u32.wrap (numP (numP (numP (numP (numP (b, (0 : (Pat.int IntKind.i64).den))).snd).snd).snd).snd).fst, (0 : Int),
                                (0 : Int), (0 : Int), (0 : Int)),
                              (0 : Int), ())
                  else
                    bif
                        !((numP (b, (0 : (Pat.int IntKind.i64).den))).snd.snd == (0 : (Pat.int IntKind.i64).den) &&
                            (↑(numP (b, (0 : (Pat.int IntKind.i64).den))).snd.fst.length : Int) == (0 : Int)) then
                      some
                        (((0 : Int), (0 : Int), (0 : Int), [], [], (0 : Int), (0 : Int), (0 : Int), (0 : Int), (0 : Int), (0 : Int), (0 : Int),
                            (0 : Int)),
                          (2 : Int), ())
                    else
                      bif
                          !rightC
                              (unfoldV (numP (b, (0 : (Pat.int IntKind.i64).den))).fst, (0 : Int), (0 : Int), [], [], (0 : Int), (0 : Int), (0 : Int),
                                (0 : Int), (0 : Int), (0 : Int), (0 : Int), (0 : Int)) then
                        some
                          (((0 : Int), (0 : Int), (0 : Int), [], [], (0 : Int), (0 : Int), (0 : Int), (0 : Int), (0 : Int), (0 : Int), (0 : Int),
                              (0 : Int)),
                            (2 : Int), ())
                      else
                        bif
                            !ofBytes
                                  (bytesC
                                    (unfoldV (numP (b, (0 : (Pat.int IntKind.i64).den))).fst, (0 : Int), (0 : Int), [], [], (0 : Int), (0 : Int),
                                      (0 : Int), (0 : Int), (0 : Int), (0 : Int), (0 : Int), (0 : Int))) ==
                                ofBytes b then
                          some
                            (((0 : Int), (0 : Int), (0 : Int), [], [], (0 : Int), (0 : Int), (0 : Int), (0 : Int), (0 : Int), (0 : Int), (0 : Int),
                                (0 : Int)),
                              (2 : Int), ())
                        else
                          some
                            ((unfoldV (numP (b, (0 : (Pat.int IntKind.i64).den))).fst, (0 : Int), (0 : Int), [], [], (0 : Int), (0 : Int), (0 : Int),
                                (0 : Int), (0 : Int), (0 : Int), (0 : Int), (0 : Int)),
                              (0 : Int), ()) := by kernel_rfl

/-- The command that the bytes seem to be; what is left of them; what was wrong. -/
def candC (b : List Int) : Cmd × List Int × Int :=
  let n1 := numP (b, 0)
  let n2 := numP n1.2
  let n3 := numP n2.2
  let n4 := numP n3.2
  let n5 := numP n4.2
  let k := unfoldV n1.1
  let t := bytesP n1.2
  let m := countP n3.2
  bif k == 1 then
    let r := itR (bif decide (51 < m.1) then 51 else m.1).toNat (m.2.1, m.2.2, [])
    ((k, unfoldV n2.1, unfoldV n3.1, r.2.2, [], 0, 0, 0, 0, 0, 0, 0, 0), r.1, r.2.1)
  else bif k == 2 then ((k, 0, 0, [], [], unfoldV n2.1, unfoldV n3.1, 0, 0, 0, 0, 0, 0), n3.2)
  else bif k == 3 then ((k, 0, 0, [], ofBytes t.1, unfoldV (numP t.2).1, 0, 0, 0, 0, 0, 0, 0), (numP t.2).2)
  else bif k == 4 then ((k, 0, 0, [], ofBytes t.1, 0, 0, 0, 0, 0, 0, 0, 0), t.2)
  else bif k == 5 || k == 9 then ((k, 0, 0, [], [], 0, 0, unfoldV n2.1, 0, 0, 0, 0, 0), n2.2)
  else bif k == 6 then ((k, 0, 0, [], [], 0, 0, 0, 0, unfoldV n2.1, unfoldV n3.1, unfoldV n4.1, unfoldV n5.1), n5.2)
  else bif k == 8 then ((k, 0, 0, [], [], unfoldV n2.1, 0, unfoldV n3.1, 0, 0, 0, 0, 0), n3.2)
  else bif k == 11 then ((k, 0, unfoldV n3.1, [], [], unfoldV n2.1, unfoldV n4.1, 0, IntKind.u32.wrap n5.1, 0, 0, 0, 0), n5.2)
  else ((k, 0, 0, [], [], 0, 0, 0, 0, 0, 0, 0, 0), n1.2)
abbrev zeroC : Cmd := (0, 0, 0, [], [], 0, 0, 0, 0, 0, 0, 0, 0)
def judgeC (x : Cmd × List Int × Int) (b : List Int) : Cmd × Int :=
  bif !(x.2.2 == 0 && (((x.2.1.length : Nat) : Int) == 0)) then (zeroC, 2) else bif !rightC x.1 then (zeroC, 2) else bif !(ofBytes (bytesC x.1) == ofBytes b) then (zeroC, 2) else (x.1, 0)
/-- What Read answers. -/
def readC (b : List Int) : Cmd × Int := judgeC (candC b) b
theorem judge_fin (c : Cmd) (r : List Int) (e : Int) (b : List Int) : (bif !(e == 0 && (((r.length : Nat) : Int) == 0)) then some (zeroC, (2 : Int), ()) else bif !rightC c then some (zeroC, (2 : Int), ()) else bif !(ofBytes (bytesC c) == ofBytes b) then some (zeroC, (2 : Int), ()) else some (c, (0 : Int), ())) =
    some ((judgeC (c, r, e) b).1, (judgeC (c, r, e) b).2, ()) := by
  unfold judgeC
  simp only
  cases e == 0 && (((r.length : Nat) : Int) == 0) <;> cases rightC c <;> cases ofBytes (bytesC c) == ofBytes b <;> rfl
theorem countV_nonneg (b : List Int) (e : Int) : 0 ≤ (countV b e).1 := by
  have h := numV_nonneg b e
  unfold countV
  cases decide ((numV b e).1 > ((numV b e).2.1.length : Int)) <;> cases (numV b e).2.2 == 0 <;> simp [h]
def caseRead : PCase := ⟨[.ty (.sl u8T)], [cmdT, .int .i64], fun x => (fun (b : List Int) => [(decide (b.length ≤ 140737488355328), ((readC b).1, (readC b).2, ()))]) x.1⟩
theorem cread_val (b : List Int) (hc : (decide (b.length ≤ 140737488355328)) = true) : evFn (env consC3) H.command_Read (loopsF (env consC3) H.command_Read 0 B.command_Read 6) F.command_Read [.vl u8T b] [] (finT [cmdT, .int .i64]) = some ((readC b).1, (readC b).2, ()) := by
  have hb := of_decide_eq_true hc
  have h1 : (numP (b, 0)).2.1.length ≤ b.length := numV_len b 0
  rw [cread_ev]
  unfold readC candC
  simp only
  cases k1 : unfoldV (numP (b, 0)).1 == 1 with
  | true =>
    simp only [cond_true]
    have h0 : 0 ≤ (countP (numP (numP (numP (b, 0)).2).2).2).1 := countV_nonneg _ _
    generalize countP (numP (numP (numP (b, 0)).2).2).2 = m at h0 ⊢
    obtain ⟨n, hn⟩ : ∃ n, n = (bif decide ((51 : Int) < m.1) then (51 : Int) else m.1) := ⟨_, rfl⟩
    have hn2 : 0 ≤ n ∧ n ≤ 1000 := by
      rw [hn]
      by_cases h : (51 : Int) < m.1
      · simp [h]
      · simp only [h, decide_false, cond_false]; omega
    rw [← hn]
    simp only [hn2.1, hn2.2, decide_true, Bool.and_true, Bool.true_and]
    by_cases hz : n = 0
    · subst hz
      simp only [decide_true, cond_true]
      exact judge_fin _ _ _ _
    · simp only [hz, decide_false, cond_false, cond_true]
      exact judge_fin _ _ _ _
  | false =>
    simp only [cond_false, cond_true]
    rw [cond_pos (by omega), cond_pos (by omega)]
    cases k2 : unfoldV (numP (b, 0)).1 == 2 with
    | true => exact judge_fin _ _ _ _
    | false =>
    cases k3 : unfoldV (numP (b, 0)).1 == 3 with
    | true => exact judge_fin _ _ _ _
    | false =>
    cases k4 : unfoldV (numP (b, 0)).1 == 4 with
    | true => exact judge_fin _ _ _ _
    | false =>
    simp only [cond_false]
    rw [sw2_bif]
    simp only [Option.bind_some]
    cases k5 : (unfoldV (numP (b, 0)).1 == 5 || unfoldV (numP (b, 0)).1 == 9) with
    | true => exact judge_fin _ _ _ _
    | false =>
    cases k6 : unfoldV (numP (b, 0)).1 == 6 with
    | true => exact judge_fin _ _ _ _
    | false =>
    cases k8 : unfoldV (numP (b, 0)).1 == 8 with
    | true => exact judge_fin _ _ _ _
    | false =>
    cases k11 : unfoldV (numP (b, 0)).1 == 11 with
    | true => exact judge_fin _ _ _ _
    | false => exact judge_fin _ _ _ _
theorem cread_ok : caseRead.ok P0 I.command_Read := case_ok2 (H := H.command_Read) (E := env consC3) (env_ok consC3_ok) glob0 mixed0 G.command_Read Bd.command_Read (by kernel_rfl) (loopsF_good (env_ok consC3_ok) glob0 mixed0 (by kernel_rfl) 6) fun ⟨b, ()⟩ y h hw => by
  obtain ⟨hc, rfl⟩ := pick_pre h
  exact cread_val b hc
end Go.Sim
namespace Go.Sim
set_option linter.unusedSimpArgs false
set_option linter.unusedVariables false
set_option maxRecDepth 10000
theorem numP_put {n : Int} (h : In .i64 n) (r : List Int) : numP (putN (foldV n).toNat ++ r, 0) = (foldV n, r, 0) := by
  have := In.i64.1 h
  exact unfold_put n r this.1 this.2
theorem numP_put0 {n : Int} (h : In .i64 n) : numP (putN (foldV n).toNat, 0) = (foldV n, [], 0) := by
  have := numP_put h []
  rwa [List.append_nil] at this
theorem numP_u0 {n : Int} (h0 : 0 ≤ n) (h1 : n ≤ 4294967295) : numP (putN n.toNat, 0) = (n, [], 0) := by
  have := numV_put n.toNat [] (by omega)
  rw [List.append_nil] at this
  show numV _ 0 = _
  rw [this, Int.toNat_of_nonneg h0]
theorem bytesP_put (l : List UInt8) (r : List Int) (hl : l.length ≤ 160) : bytesP (putN (bytesOf l).length ++ (bytesOf l ++ r), 0) = (bytesOf l, r, 0) := by
  have hb : (bytesOf l).length = l.length := by simp [bytesOf]
  rw [hb]
  exact bytesV_put l r (by omega)
theorem bytesP_put0 (l : List UInt8) (hl : l.length ≤ 160) : bytesP (putN (bytesOf l).length ++ bytesOf l, 0) = (bytesOf l, [], 0) := by
  have := bytesP_put l [] hl
  rwa [List.append_nil] at this
theorem encR_pos (r : Rec) : 1 ≤ (encR r).length := by unfold encR; simp only [List.length_append, List.length_cons, List.length_nil]; omega
theorem flat_len : ∀ (l : List Rec), l.length ≤ ((l.map encR).flatten).length
  | [] => by simp
  | r :: l => by have := flat_len l; have := encR_pos r; simp only [List.map_cons, List.flatten_cons, List.length_append, List.length_cons]; omega
theorem cand_enc (c : Cmd) (hr : rightC c = true) (hw : wfT cmdT c) : candC (encC c) = (c, [], 0) := by
  have hr2 := hr
  rw [← prog_right] at hr
  simp only [Bool.and_eq_true, decide_eq_true_eq] at hr
  have hbare := hr.1.2
  obtain ⟨a1, a2, a3, a4, a5, a6, a7, a8, a9, a10, a11, a12, a13⟩ := c
  obtain ⟨w1, w2, w3, w4, w5, w6, w7, w8, w9, w10, w11, w12, w13⟩ := hw
  have p2 := numP_put (n := a2) w2
  have p3 := numP_put (n := a3) w3
  have p6 := numP_put (n := a6) w6
  have p7 := numP_put (n := a7) w7
  have p8 := numP_put (n := a8) w8
  have p10 := numP_put (n := a10) w10
  have p11 := numP_put (n := a11) w11
  have p12 := numP_put (n := a12) w12
  have q6 := numP_put0 (n := a6) w6
  have q7 := numP_put0 (n := a7) w7
  have q8 := numP_put0 (n := a8) w8
  have q13 := numP_put0 (n := a13) w13
  have v9 : In .u32 a9 := w9
  have k9 := In.u32.1 v9
  have q9 := numP_u0 k9.1 k9.2
  have p1 := numP_put (n := a1) w1
  have q1 := numP_put0 (n := a1) w1
  clear w1 w2 w3 w4 w5 w6 w7 w8 w9 w10 w11 w12 w13
  unfold rightC at hr2
  unfold bareC at hbare
  unfold encC candC
  simp only [putI, putC, putT, putL, List.nil_append, List.append_assoc] at hr2 hbare ⊢
  by_cases e : a1 = 1
  · subst e
    simp only [Int.reduceBEq, Bool.or_false, Bool.false_or, Bool.or_self, Bool.or_true, Bool.true_or, cond_true, cond_false, Bool.and_eq_true, recsB, withinB, decide_eq_true_eq] at hr2 hbare ⊢
    have hl : a4.length ≤ 50 := by omega
    have hR : ∀ r ∈ a4, recR r = true := by
      intro r h
      have := hr2.2.2.2.2.2
      simp only [Bool.not_eq_true', List.any_eq_false] at this
      have := this r h
      simp only [badR1, Bool.or_eq_true, Bool.not_eq_true', not_or] at this
      simpa using this.2
    rw [putL_enc a4 _ hR]
    simp only [List.append_assoc]
    have hf := flat_len a4
    have hc : countP (putN a4.length ++ (a4.map encR).flatten, 0) = ((a4.length : Int), (a4.map encR).flatten, 0) := countV_put a4.length _ (by omega) hf
    rw [p1, p2, p3, hc]
    simp only [unfold_fold, Int.reduceBEq, cond_true]
    rw [cond_neg (by omega), Int.toNat_natCast]
    have hi := itR_enc a4 [] [] hR
    rw [List.append_nil, List.nil_append] at hi
    rw [hi]
    exact congrArg (fun q : Cmd => (q, ([] : List Int), (0 : Int))) hbare
  by_cases e : a1 = 2
  · subst e
    simp only [Int.reduceBEq, Bool.or_false, Bool.false_or, Bool.or_self, Bool.or_true, Bool.true_or, cond_true, cond_false, Bool.and_eq_true, recsB, withinB, decide_eq_true_eq] at hr2 hbare ⊢
    rw [p1]
    simp only [unfold_fold, of_bytes, Int.reduceBEq, Bool.or_false, Bool.false_or, Bool.or_self, Bool.or_true, Bool.true_or, cond_true, cond_false, p6, q7]
    exact congrArg (fun q : Cmd => (q, ([] : List Int), (0 : Int))) hbare
  by_cases e : a1 = 3
  · subst e
    simp only [Int.reduceBEq, Bool.or_false, Bool.false_or, Bool.or_self, Bool.or_true, Bool.true_or, cond_true, cond_false, Bool.and_eq_true, recsB, withinB, decide_eq_true_eq] at hr2 hbare ⊢
    have t5 := bytesP_put a5 (putN (foldV a6).toNat) (valid_short hr2.2.2)
    simp only [show (bytesOf a5).length = a5.length by simp [bytesOf]] at t5
    rw [p1]
    simp only [unfold_fold, of_bytes, Int.reduceBEq, Bool.or_false, Bool.false_or, Bool.or_self, Bool.or_true, Bool.true_or, cond_true, cond_false, t5, q6]
    exact congrArg (fun q : Cmd => (q, ([] : List Int), (0 : Int))) hbare
  by_cases e : a1 = 4
  · subst e
    simp only [Int.reduceBEq, Bool.or_false, Bool.false_or, Bool.or_self, Bool.or_true, Bool.true_or, cond_true, cond_false, Bool.and_eq_true, recsB, withinB, decide_eq_true_eq] at hr2 hbare ⊢
    have t5 := bytesP_put0 a5 (valid_short hr2.2)
    simp only [show (bytesOf a5).length = a5.length by simp [bytesOf]] at t5
    rw [p1]
    simp only [unfold_fold, of_bytes, Int.reduceBEq, Bool.or_false, Bool.false_or, Bool.or_self, Bool.or_true, Bool.true_or, cond_true, cond_false, t5]
    exact congrArg (fun q : Cmd => (q, ([] : List Int), (0 : Int))) hbare
  by_cases e : a1 = 5
  · subst e
    simp only [Int.reduceBEq, Bool.or_false, Bool.false_or, Bool.or_self, Bool.or_true, Bool.true_or, cond_true, cond_false, Bool.and_eq_true, recsB, withinB, decide_eq_true_eq] at hr2 hbare ⊢
    rw [p1]
    simp only [unfold_fold, of_bytes, Int.reduceBEq, Bool.or_false, Bool.false_or, Bool.or_self, Bool.or_true, Bool.true_or, cond_true, cond_false, q8]
    exact congrArg (fun q : Cmd => (q, ([] : List Int), (0 : Int))) hbare
  by_cases e : a1 = 9
  · subst e
    simp only [Int.reduceBEq, Bool.or_false, Bool.false_or, Bool.or_self, Bool.or_true, Bool.true_or, cond_true, cond_false, Bool.and_eq_true, recsB, withinB, decide_eq_true_eq] at hr2 hbare ⊢
    rw [p1]
    simp only [unfold_fold, of_bytes, Int.reduceBEq, Bool.or_false, Bool.false_or, Bool.or_self, Bool.or_true, Bool.true_or, cond_true, cond_false, q8]
    exact congrArg (fun q : Cmd => (q, ([] : List Int), (0 : Int))) hbare
  by_cases e : a1 = 6
  · subst e
    simp only [Int.reduceBEq, Bool.or_false, Bool.false_or, Bool.or_self, Bool.or_true, Bool.true_or, cond_true, cond_false, Bool.and_eq_true, recsB, withinB, decide_eq_true_eq] at hr2 hbare ⊢
    rw [p1]
    simp only [unfold_fold, of_bytes, Int.reduceBEq, Bool.or_false, Bool.false_or, Bool.or_self, Bool.or_true, Bool.true_or, cond_true, cond_false, p10, p11, p12, q13]
    exact congrArg (fun q : Cmd => (q, ([] : List Int), (0 : Int))) hbare
  by_cases e : a1 = 8
  · subst e
    simp only [Int.reduceBEq, Bool.or_false, Bool.false_or, Bool.or_self, Bool.or_true, Bool.true_or, cond_true, cond_false, Bool.and_eq_true, recsB, withinB, decide_eq_true_eq] at hr2 hbare ⊢
    rw [p1]
    simp only [unfold_fold, of_bytes, Int.reduceBEq, Bool.or_false, Bool.false_or, Bool.or_self, Bool.or_true, Bool.true_or, cond_true, cond_false, p6, q8]
    exact congrArg (fun q : Cmd => (q, ([] : List Int), (0 : Int))) hbare
  by_cases e : a1 = 11
  · subst e
    simp only [Int.reduceBEq, Bool.or_false, Bool.false_or, Bool.or_self, Bool.or_true, Bool.true_or, cond_true, cond_false, Bool.and_eq_true, recsB, withinB, decide_eq_true_eq] at hr2 hbare ⊢
    have wu9 : IntKind.u32.wrap a9 = a9 := wrap_in v9
    rw [p1]
    simp only [unfold_fold, of_bytes, Int.reduceBEq, Bool.or_false, Bool.false_or, Bool.or_self, Bool.or_true, Bool.true_or, cond_true, cond_false, p6, p3, p7, q9, wu9]
    exact congrArg (fun q : Cmd => (q, ([] : List Int), (0 : Int))) hbare
  have e1 : (a1 == 1) = false := by simpa using ‹¬a1 = 1›
  have e2 : (a1 == 2) = false := by simpa using ‹¬a1 = 2›
  have e3 : (a1 == 3) = false := by simpa using ‹¬a1 = 3›
  have e4 : (a1 == 4) = false := by simpa using ‹¬a1 = 4›
  have e5 : (a1 == 5) = false := by simpa using ‹¬a1 = 5›
  have e6 : (a1 == 6) = false := by simpa using ‹¬a1 = 6›
  have e8 : (a1 == 8) = false := by simpa using ‹¬a1 = 8›
  have e9 : (a1 == 9) = false := by simpa using ‹¬a1 = 9›
  have e11 : (a1 == 11) = false := by simpa using ‹¬a1 = 11›
  simp only [e1, e2, e3, e4, e5, e6, e8, e9, e11, Bool.or_false, cond_false] at hbare ⊢
  rw [q1]
  simp only [unfold_fold, e1, e2, e3, e4, e5, e6, e8, e9, e11, Bool.or_false, cond_false]
  cases h : (a1 == 0 || (a1 == 7 || a1 == 10)) with
  | true => rw [h] at hbare; exact congrArg (fun q : Cmd => (q, ([] : List Int), (0 : Int))) hbare
  | false => rw [h] at hbare; exact congrArg (fun q : Cmd => (q, ([] : List Int), (0 : Int))) hbare
theorem read_bytes (c : Cmd) (hr : rightC c = true) (hw : wfT cmdT c) : readC (bytesC c) = (c, 0) := by
  have hb : bytesC c = encC c := by unfold bytesC; rw [hr]; rfl
  unfold readC
  rw [hb, cand_enc c hr hw]
  unfold judgeC
  simp only [hr, hb, beq_self_eq_true, List.length_nil, Int.ofNat_zero, Bool.and_self, Bool.not_true, cond_false]
end Go.Sim
namespace Go.Sim
set_option linter.unusedSimpArgs false
set_option linter.unusedVariables false
set_option maxRecDepth 10000
theorem num10_ev (n : Int) : evFn (env []) H.cooperagelaw10_num (LPof []) F.cooperagelaw10_num [.int .i64 n] [] (finT [.int .i64]) =
  some (n, ()) := by kernel_rfl

def caseNum10 : PCase := ⟨[.ty (.int .i64)], [.int .i64], fun x => (fun (n : Int) => [(true, (n, ()))]) x.1⟩
theorem num10_val (n : Int) : evFn (env []) H.cooperagelaw10_num (LPof []) F.cooperagelaw10_num [.int .i64 n] [] (finT [.int .i64]) = some (n, ()) := by
  rw [num10_ev]
theorem num10_ok : caseNum10.ok P0 I.cooperagelaw10_num := case_ok2 (H := H.cooperagelaw10_num) (E := env []) (env_ok env_nil) glob0 mixed0 G.cooperagelaw10_num Bd.cooperagelaw10_num (by kernel_rfl) noLoops fun ⟨n, ()⟩ y h hw => by
  obtain ⟨hc, rfl⟩ := pick_pre h
  exact num10_val n
noncomputable abbrev consQ1 : List (FuncId × Con) := [(I.cooperagelaw10_num, .pure (pureOf [caseNum10])), (I.command_Bytes, .pure (pureOf [caseBytes])), (I.command_Read, .pure (pureOf [caseRead])), (I.command_Right, .pure (pureOf [caseCright])), (I.cooperageref10_Same, .pure (pureOf [caseSame10]))]
theorem consQ1_ok : ∀ x ∈ consQ1, HoldsC P0 x.1 x.2 := by
  intro x hx
  simp at hx
  rcases hx with rfl | rfl | rfl | rfl | rfl
  · exact ⟨pureOf_holds (by simp; exact num10_ok), C.cooperagelaw10_num⟩
  · exact ⟨pureOf_holds (by simp; exact cbytes_ok), C.command_Bytes⟩
  · exact ⟨pureOf_holds (by simp; exact cread_ok), C.command_Read⟩
  · exact ⟨pureOf_holds (by simp; exact cright_ok), C.command_Right⟩
  · exact ⟨pureOf_holds (by simp; exact same10_ok), C.cooperageref10_Same⟩
theorem alive10_ev : evFn (env consQ1) H.cooperagelaw10_alive (LPof []) F.cooperagelaw10_alive [] [] (finT [.bool]) =
  some (true, ()) := by kernel_rfl

def caseAlive10 : PCase := ⟨[], [.bool], fun x => [(true, (true, ()))]⟩
theorem alive10_val  : evFn (env consQ1) H.cooperagelaw10_alive (LPof []) F.cooperagelaw10_alive [] [] (finT [.bool]) = some (true, ()) := by
  rw [alive10_ev]
theorem alive10_ok : caseAlive10.ok P0 I.cooperagelaw10_alive := case_ok2 (H := H.cooperagelaw10_alive) (E := env consQ1) (env_ok consQ1_ok) glob0 mixed0 G.cooperagelaw10_alive Bd.cooperagelaw10_alive (by kernel_rfl) noLoops fun () y h hw => by
  obtain ⟨hc, rfl⟩ := pick_pre h
  exact alive10_val
noncomputable abbrev consQ2 : List (FuncId × Con) := [(I.cooperagelaw10_alive, .pure (pureOf [caseAlive10])), (I.cooperagelaw10_Big, .pure (pureOf [caseBig])), (I.cooperageref10_Right, .pure (pureOf [caseRright])), (I.command_Same, .pure (pureOf [caseCsame]))] ++ consQ1
theorem consQ2_ok : ∀ x ∈ consQ2, HoldsC P0 x.1 x.2 := by
  intro x hx
  rcases List.mem_append.1 hx with hx | hx
  · simp at hx
    rcases hx with rfl | rfl | rfl | rfl
    · exact ⟨pureOf_holds (by simp; exact alive10_ok), C.cooperagelaw10_alive⟩
    · exact ⟨pureOf_holds (by simp; exact big_ok), C.cooperagelaw10_Big⟩
    · exact ⟨pureOf_holds (by simp; exact rright_ok), C.cooperageref10_Right⟩
    · exact ⟨pureOf_holds (by simp; exact csame_ok), C.command_Same⟩
  · exact consQ1_ok x hx
theorem cbyteslaw_ev (c : Cmd) : evFn (env consQ2) H.cooperagelaw10_CommandBytes (LPof []) F.cooperagelaw10_CommandBytes [valOf cmdT c] [] (finT [.bool]) =
  bif bigC c then some (true, ())
  else
    bif !rightC c == rightC c then some (false, ())
    else
      bif !rightC c then some ((↑(bytesC c).length : Int) == (0 : Int), ())
      else
        bif decide ((bytesC c).length ≤ 140737488355328) then
          Option.bind (bif (readC (bytesC c)).snd == (0 : Int) then some (decide (c = (readC (bytesC c)).fst)) else some false) fun v => some (v, ())
        else none := by kernel_rfl

theorem creadslaw_ev (b : List Int) : evFn (env consQ2) H.cooperagelaw10_CommandReads (LPof []) F.cooperagelaw10_CommandReads [.vl u8T b] [] (finT [.bool]) =
  bif decide ((↑b.length : Int) > (500 : Int)) then some (true, ())
  else
    bif decide (b.length ≤ 140737488355328) then
      bif (readC b).snd != (0 : Int) then
        Option.bind
          (bif (readC b).snd == (2 : Int) then
            some
              (decide
                ((readC b).fst =
                  ((0 : Int), (0 : Int), (0 : Int), [], [], (0 : Int), (0 : Int), (0 : Int), (0 : Int), (0 : Int), (0 : Int), (0 : Int), (0 : Int))))
          else some false)
          fun v => some (v, ())
      else some (rightC (readC b).fst, ())
    else none := by kernel_rfl

theorem csamelaw_ev (a b : Cmd) : evFn (env consQ2) H.cooperagelaw10_CommandSame (LPof []) F.cooperagelaw10_CommandSame [valOf cmdT a, valOf cmdT b] [] (finT [.bool]) =
  Option.bind (bif bigC a then some true else some (bigC b)) fun v =>
    bif v then some (true, ())
    else
      Option.bind (bif decide (a = b) == decide (a = b) then bif decide (a = a) then some (decide (b = b)) else some false else some false) fun v =>
        some (v, ()) := by kernel_rfl

theorem putL_len : ∀ (l : List Rec) (b : List Int), (l.foldl putR b).length ≤ b.length + 2241 * l.length
  | [], b => by simp
  | r :: l, b => by
    have := putL_len l (putR b r)
    have hlen : (putR b r).length ≤ b.length + 2241 := by
      unfold putR
      cases h : recR r with
      | true => have := encR_len h; simp only [cond_true, List.length_append]; omega
      | false => simp only [cond_false]; omega
    simp only [List.foldl_cons, List.length_cons]
    omega
theorem bytesC_len (c : Cmd) (hw : wfT cmdT c) : (bytesC c).length ≤ 140000 := by
  unfold bytesC
  cases hr : rightC c with
  | false => simp
  | true =>
    obtain ⟨a1, a2, a3, a4, a5, a6, a7, a8, a9, a10, a11, a12, a13⟩ := c
    obtain ⟨w1, w2, w3, w4, w5, w6, w7, w8, w9, w10, w11, w12, w13⟩ := hw
    have h1 : (putN (foldV a1).toNat).length ≤ 10 := putI_len w1
    have h2 : (putN (foldV a2).toNat).length ≤ 10 := putI_len w2
    have h3 : (putN (foldV a3).toNat).length ≤ 10 := putI_len w3
    have h6 : (putN (foldV a6).toNat).length ≤ 10 := putI_len w6
    have h7 : (putN (foldV a7).toNat).length ≤ 10 := putI_len w7
    have h8 : (putN (foldV a8).toNat).length ≤ 10 := putI_len w8
    have h10 : (putN (foldV a10).toNat).length ≤ 10 := putI_len w10
    have h11 : (putN (foldV a11).toNat).length ≤ 10 := putI_len w11
    have h12 : (putN (foldV a12).toNat).length ≤ 10 := putI_len w12
    have h13 : (putN (foldV a13).toNat).length ≤ 10 := putI_len w13
    have v9 : In .u32 a9 := w9
    have k9 := In.u32.1 v9
    have h9 : (putN a9.toNat).length ≤ 10 := putN_len (by omega)
    clear w1 w2 w3 w4 w5 w6 w7 w8 w9 w10 w11 w12 w13
    have hb : (bytesOf a5).length = a5.length := by simp [bytesOf]
    unfold rightC at hr
    unfold encC
    simp only [Bool.not_true, cond_false, cond_true, putI, putC, putT, putL] at hr ⊢
    by_cases e : a1 = 1
    · subst e
      simp only [Int.reduceBEq, Bool.or_false, Bool.false_or, Bool.or_self, Bool.or_true, Bool.true_or, cond_true, cond_false, Bool.and_eq_true, recsB, withinB, decide_eq_true_eq, List.length_append, List.length_nil] at hr ⊢
      have hl : a4.length ≤ 50 := by omega
      have h9 := putN_len (n := a4.length) (by omega)
      refine Nat.le_trans (putL_len _ _) ?_
      simp only [List.length_append, List.length_nil]
      omega
    by_cases e : a1 = 2
    · subst e
      simp only [Int.reduceBEq, Bool.or_false, Bool.false_or, Bool.or_self, Bool.or_true, Bool.true_or, cond_true, cond_false, Bool.and_eq_true, recsB, withinB, decide_eq_true_eq, List.length_append, List.length_nil] at hr ⊢
      omega
    by_cases e : a1 = 3
    · subst e
      simp only [Int.reduceBEq, Bool.or_false, Bool.false_or, Bool.or_self, Bool.or_true, Bool.true_or, cond_true, cond_false, Bool.and_eq_true, recsB, withinB, decide_eq_true_eq, List.length_append, List.length_nil, hb] at hr ⊢
      have hl := valid_short hr.2.2
      have h5 := putN_len (n := a5.length) (by omega)
      omega
    by_cases e : a1 = 4
    · subst e
      simp only [Int.reduceBEq, Bool.or_false, Bool.false_or, Bool.or_self, Bool.or_true, Bool.true_or, cond_true, cond_false, Bool.and_eq_true, recsB, withinB, decide_eq_true_eq, List.length_append, List.length_nil, hb] at hr ⊢
      have hl := valid_short hr.2
      have h5 := putN_len (n := a5.length) (by omega)
      omega
    by_cases e : a1 = 5
    · subst e
      simp only [Int.reduceBEq, Bool.or_false, Bool.false_or, Bool.or_self, Bool.or_true, Bool.true_or, cond_true, cond_false, Bool.and_eq_true, recsB, withinB, decide_eq_true_eq, List.length_append, List.length_nil] at hr ⊢
      omega
    by_cases e : a1 = 9
    · subst e
      simp only [Int.reduceBEq, Bool.or_false, Bool.false_or, Bool.or_self, Bool.or_true, Bool.true_or, cond_true, cond_false, Bool.and_eq_true, recsB, withinB, decide_eq_true_eq, List.length_append, List.length_nil] at hr ⊢
      omega
    by_cases e : a1 = 6
    · subst e
      simp only [Int.reduceBEq, Bool.or_false, Bool.false_or, Bool.or_self, Bool.or_true, Bool.true_or, cond_true, cond_false, Bool.and_eq_true, recsB, withinB, decide_eq_true_eq, List.length_append, List.length_nil] at hr ⊢
      omega
    by_cases e : a1 = 8
    · subst e
      simp only [Int.reduceBEq, Bool.or_false, Bool.false_or, Bool.or_self, Bool.or_true, Bool.true_or, cond_true, cond_false, Bool.and_eq_true, recsB, withinB, decide_eq_true_eq, List.length_append, List.length_nil] at hr ⊢
      omega
    by_cases e : a1 = 11
    · subst e
      simp only [Int.reduceBEq, Bool.or_false, Bool.false_or, Bool.or_self, Bool.or_true, Bool.true_or, cond_true, cond_false, Bool.and_eq_true, recsB, withinB, decide_eq_true_eq, List.length_append, List.length_nil] at hr ⊢
      omega
    have e1 : (a1 == 1) = false := by simpa using ‹¬a1 = 1›
    have e2 : (a1 == 2) = false := by simpa using ‹¬a1 = 2›
    have e3 : (a1 == 3) = false := by simpa using ‹¬a1 = 3›
    have e4 : (a1 == 4) = false := by simpa using ‹¬a1 = 4›
    have e5 : (a1 == 5) = false := by simpa using ‹¬a1 = 5›
    have e6 : (a1 == 6) = false := by simpa using ‹¬a1 = 6›
    have e8 : (a1 == 8) = false := by simpa using ‹¬a1 = 8›
    have e9 : (a1 == 9) = false := by simpa using ‹¬a1 = 9›
    have e11 : (a1 == 11) = false := by simpa using ‹¬a1 = 11›
    simp only [e1, e2, e3, e4, e5, e6, e8, e9, e11, Bool.or_false, cond_false, List.length_append, List.length_nil]
    omega
theorem read_right (b : List Int) : (readC b).2 = 0 ∧ rightC (readC b).1 = true ∨ (readC b).2 = 2 ∧ (readC b).1 = zeroC := by
  unfold readC judgeC
  cases (candC b).2.2 == 0 && ((((candC b).2.1.length : Nat) : Int) == 0) with
  | false => exact .inr ⟨rfl, rfl⟩
  | true =>
    cases h : rightC (candC b).1 with
    | false => exact .inr ⟨rfl, rfl⟩
    | true =>
      cases ofBytes (bytesC (candC b).1) == ofBytes b with
      | false => exact .inr ⟨rfl, rfl⟩
      | true => exact .inl ⟨rfl, h⟩
def caseCbyteslaw : PCase := ⟨[.ty cmdT], [.bool], fun x => (fun (c : Cmd) => [(true, (true, ()))]) x.1⟩
theorem cbyteslaw_val (c : Cmd) (hw : wfT cmdT c) : evFn (env consQ2) H.cooperagelaw10_CommandBytes (LPof []) F.cooperagelaw10_CommandBytes [valOf cmdT c] [] (finT [.bool]) = some (true, ()) := by
  rw [cbyteslaw_ev]
  have hl := bytesC_len c hw
  cases bigC c with
  | true => rfl
  | false =>
    cases hr : rightC c with
    | false =>
      have : bytesC c = [] := by unfold bytesC; rw [hr]; rfl
      rw [this]; rfl
    | true =>
      rw [read_bytes c hr hw]
      simp only [Bool.not_true, Bool.false_beq, cond_false, beq_self_eq_true, cond_true, decide_true, Option.bind_some]
      rw [cond_pos (by omega)]
theorem cbyteslaw_ok : caseCbyteslaw.ok P0 I.cooperagelaw10_CommandBytes := case_ok2 (H := H.cooperagelaw10_CommandBytes) (E := env consQ2) (env_ok consQ2_ok) glob0 mixed0 G.cooperagelaw10_CommandBytes Bd.cooperagelaw10_CommandBytes (by kernel_rfl) noLoops fun ⟨c, ()⟩ y h hw => by
  obtain ⟨hc, rfl⟩ := pick_pre h
  exact cbyteslaw_val c hw.1
def caseCreadslaw : PCase := ⟨[.ty (.sl u8T)], [.bool], fun x => (fun (b : List Int) => [(true, (true, ()))]) x.1⟩
theorem creadslaw_val (b : List Int) : evFn (env consQ2) H.cooperagelaw10_CommandReads (LPof []) F.cooperagelaw10_CommandReads [.vl u8T b] [] (finT [.bool]) = some (true, ()) := by
  rw [creadslaw_ev]
  by_cases h : (b.length : Int) > 500
  · rw [cond_pos h]
  · rw [cond_neg h, cond_pos (by omega)]
    rcases read_right b with ⟨h1, h2⟩ | ⟨h1, h2⟩
    · rw [h1, h2]; rfl
    · rw [h1, h2]; rfl
theorem creadslaw_ok : caseCreadslaw.ok P0 I.cooperagelaw10_CommandReads := case_ok2 (H := H.cooperagelaw10_CommandReads) (E := env consQ2) (env_ok consQ2_ok) glob0 mixed0 G.cooperagelaw10_CommandReads Bd.cooperagelaw10_CommandReads (by kernel_rfl) noLoops fun ⟨b, ()⟩ y h hw => by
  obtain ⟨hc, rfl⟩ := pick_pre h
  exact creadslaw_val b
def caseCsamelaw : PCase := ⟨[.ty cmdT, .ty cmdT], [.bool], fun x => (fun (a b : Cmd) => [(true, (true, ()))]) x.1 x.2.1⟩
theorem csamelaw_val (a b : Cmd) : evFn (env consQ2) H.cooperagelaw10_CommandSame (LPof []) F.cooperagelaw10_CommandSame [valOf cmdT a, valOf cmdT b] [] (finT [.bool]) = some (true, ()) := by
  rw [csamelaw_ev]
  simp only [beq_self_eq_true, cond_true, decide_true, Option.bind_some]
  cases bigC a <;> cases bigC b <;> rfl
theorem csamelaw_ok : caseCsamelaw.ok P0 I.cooperagelaw10_CommandSame := case_ok2 (H := H.cooperagelaw10_CommandSame) (E := env consQ2) (env_ok consQ2_ok) glob0 mixed0 G.cooperagelaw10_CommandSame Bd.cooperagelaw10_CommandSame (by kernel_rfl) noLoops fun ⟨a, b, ()⟩ y h hw => by
  obtain ⟨hc, rfl⟩ := pick_pre h
  exact csamelaw_val a b
theorem cbyteslaw_good (x : tysDen [cmdT]) (hw : tysWf [cmdT] x) : ∃ o, EffGood P0 I.cooperagelaw10_CommandBytes (valsOf [cmdT] x) [] (.bool true) o := cbyteslaw_ok x (true, ()) rfl hw
theorem creadslaw_good (x : tysDen [.sl u8T]) (hw : tysWf [.sl u8T] x) : ∃ o, EffGood P0 I.cooperagelaw10_CommandReads (valsOf [.sl u8T] x) [] (.bool true) o := creadslaw_ok x (true, ()) rfl hw
theorem csamelaw_good (x : tysDen [cmdT, cmdT]) (hw : tysWf [cmdT, cmdT] x) : ∃ o, EffGood P0 I.cooperagelaw10_CommandSame (valsOf [cmdT, cmdT] x) [] (.bool true) o := csamelaw_ok x (true, ()) rfl hw
end Go.Sim
namespace Go.Sim
set_option linter.unusedSimpArgs false
set_option linter.unusedVariables false
set_option maxRecDepth 10000
noncomputable abbrev consQ3 : List (FuncId × Con) := [(I.cooperagelaw10_alive, .pure (pureOf [caseAlive10]))]
theorem consQ3_ok : ∀ x ∈ consQ3, HoldsC P0 x.1 x.2 := by
  intro x hx
  simp at hx
  subst hx
  exact ⟨pureOf_holds (by simp; exact alive10_ok), C.cooperagelaw10_alive⟩
def H.plain2 : Hint := { H.cooperagelaw10_CommandPlain with join := [(2, 28), (5, 32)] }
theorem plainout_ev (k f : Int) : evFn (env consQ3) H.plain2 (LPof []) F.cooperagelaw10_CommandPlain [.int .i64 k, .int .i64 f] [] (finT [.bool]) =
  Option.bind
    (bif decide (k < (0 : Int)) then some true
    else bif decide (k > (11 : Int)) then some true else bif decide (f < (0 : Int)) then some true else some (decide (f > (8 : Int))))
    fun v => bif v then some (true, ()) else none := by kernel_rfl

theorem plainout_val (k f : Int) (h : k < 0 ∨ k > 11 ∨ f < 0 ∨ f > 8) : evFn (env consQ3) H.plain2 (LPof []) F.cooperagelaw10_CommandPlain [.int .i64 k, .int .i64 f] [] (finT [.bool]) = some (true, ()) := by
  rw [plainout_ev]
  by_cases h1 : k < 0
  · simp [h1]
  by_cases h2 : k > 11
  · simp [h1, h2]
  by_cases h3 : f < 0
  · simp [h1, h2, h3]
  have h4 : f > 8 := by omega
  simp [h1, h2, h3, h4]
def casePlainOut : PCase := ⟨[.ty (.int .i64), .ty (.int .i64)], [.bool], fun x => [(decide (x.1 < 0 ∨ x.1 > 11 ∨ x.2.1 < 0 ∨ x.2.1 > 8), (true, ()))]⟩
theorem plainout_ok : casePlainOut.ok P0 I.cooperagelaw10_CommandPlain := case_ok2 (H := H.plain2) (E := env consQ3) (env_ok consQ3_ok) glob0 mixed0 G.cooperagelaw10_CommandPlain Bd.cooperagelaw10_CommandPlain (by kernel_rfl) noLoops fun ⟨k, f, ()⟩ y h hw => by
  obtain ⟨hc, rfl⟩ := pick_pre h
  exact plainout_val k f (of_decide_eq_true hc)
theorem plain_k0 (f : Nat) (h : f < 9) : evFn (env consQ2) H.cooperagelaw10_CommandPlain (LPof []) F.cooperagelaw10_CommandPlain [.int .i64 0, .int .i64 (f : Int)] [] (finT [.bool]) = some (true, ()) := by
  rcases (show f = 0 ∨ f = 1 ∨ f = 2 ∨ f = 3 ∨ f = 4 ∨ f = 5 ∨ f = 6 ∨ f = 7 ∨ f = 8 by omega) with rfl | rfl | rfl | rfl | rfl | rfl | rfl | rfl | rfl <;> kernel_rfl
theorem plain_k1 (f : Nat) (h : f < 9) : evFn (env consQ2) H.cooperagelaw10_CommandPlain (LPof []) F.cooperagelaw10_CommandPlain [.int .i64 1, .int .i64 (f : Int)] [] (finT [.bool]) = some (true, ()) := by
  rcases (show f = 0 ∨ f = 1 ∨ f = 2 ∨ f = 3 ∨ f = 4 ∨ f = 5 ∨ f = 6 ∨ f = 7 ∨ f = 8 by omega) with rfl | rfl | rfl | rfl | rfl | rfl | rfl | rfl | rfl <;> kernel_rfl
theorem plain_k2 (f : Nat) (h : f < 9) : evFn (env consQ2) H.cooperagelaw10_CommandPlain (LPof []) F.cooperagelaw10_CommandPlain [.int .i64 2, .int .i64 (f : Int)] [] (finT [.bool]) = some (true, ()) := by
  rcases (show f = 0 ∨ f = 1 ∨ f = 2 ∨ f = 3 ∨ f = 4 ∨ f = 5 ∨ f = 6 ∨ f = 7 ∨ f = 8 by omega) with rfl | rfl | rfl | rfl | rfl | rfl | rfl | rfl | rfl <;> kernel_rfl
theorem plain_k3 (f : Nat) (h : f < 9) : evFn (env consQ2) H.cooperagelaw10_CommandPlain (LPof []) F.cooperagelaw10_CommandPlain [.int .i64 3, .int .i64 (f : Int)] [] (finT [.bool]) = some (true, ()) := by
  rcases (show f = 0 ∨ f = 1 ∨ f = 2 ∨ f = 3 ∨ f = 4 ∨ f = 5 ∨ f = 6 ∨ f = 7 ∨ f = 8 by omega) with rfl | rfl | rfl | rfl | rfl | rfl | rfl | rfl | rfl <;> kernel_rfl
theorem plain_k4 (f : Nat) (h : f < 9) : evFn (env consQ2) H.cooperagelaw10_CommandPlain (LPof []) F.cooperagelaw10_CommandPlain [.int .i64 4, .int .i64 (f : Int)] [] (finT [.bool]) = some (true, ()) := by
  rcases (show f = 0 ∨ f = 1 ∨ f = 2 ∨ f = 3 ∨ f = 4 ∨ f = 5 ∨ f = 6 ∨ f = 7 ∨ f = 8 by omega) with rfl | rfl | rfl | rfl | rfl | rfl | rfl | rfl | rfl <;> kernel_rfl
theorem plain_k5 (f : Nat) (h : f < 9) : evFn (env consQ2) H.cooperagelaw10_CommandPlain (LPof []) F.cooperagelaw10_CommandPlain [.int .i64 5, .int .i64 (f : Int)] [] (finT [.bool]) = some (true, ()) := by
  rcases (show f = 0 ∨ f = 1 ∨ f = 2 ∨ f = 3 ∨ f = 4 ∨ f = 5 ∨ f = 6 ∨ f = 7 ∨ f = 8 by omega) with rfl | rfl | rfl | rfl | rfl | rfl | rfl | rfl | rfl <;> kernel_rfl
theorem plain_k6 (f : Nat) (h : f < 9) : evFn (env consQ2) H.cooperagelaw10_CommandPlain (LPof []) F.cooperagelaw10_CommandPlain [.int .i64 6, .int .i64 (f : Int)] [] (finT [.bool]) = some (true, ()) := by
  rcases (show f = 0 ∨ f = 1 ∨ f = 2 ∨ f = 3 ∨ f = 4 ∨ f = 5 ∨ f = 6 ∨ f = 7 ∨ f = 8 by omega) with rfl | rfl | rfl | rfl | rfl | rfl | rfl | rfl | rfl <;> kernel_rfl
theorem plain_k7 (f : Nat) (h : f < 9) : evFn (env consQ2) H.cooperagelaw10_CommandPlain (LPof []) F.cooperagelaw10_CommandPlain [.int .i64 7, .int .i64 (f : Int)] [] (finT [.bool]) = some (true, ()) := by
  rcases (show f = 0 ∨ f = 1 ∨ f = 2 ∨ f = 3 ∨ f = 4 ∨ f = 5 ∨ f = 6 ∨ f = 7 ∨ f = 8 by omega) with rfl | rfl | rfl | rfl | rfl | rfl | rfl | rfl | rfl <;> kernel_rfl
theorem plain_k8 (f : Nat) (h : f < 9) : evFn (env consQ2) H.cooperagelaw10_CommandPlain (LPof []) F.cooperagelaw10_CommandPlain [.int .i64 8, .int .i64 (f : Int)] [] (finT [.bool]) = some (true, ()) := by
  rcases (show f = 0 ∨ f = 1 ∨ f = 2 ∨ f = 3 ∨ f = 4 ∨ f = 5 ∨ f = 6 ∨ f = 7 ∨ f = 8 by omega) with rfl | rfl | rfl | rfl | rfl | rfl | rfl | rfl | rfl <;> kernel_rfl
theorem plain_k9 (f : Nat) (h : f < 9) : evFn (env consQ2) H.cooperagelaw10_CommandPlain (LPof []) F.cooperagelaw10_CommandPlain [.int .i64 9, .int .i64 (f : Int)] [] (finT [.bool]) = some (true, ()) := by
  rcases (show f = 0 ∨ f = 1 ∨ f = 2 ∨ f = 3 ∨ f = 4 ∨ f = 5 ∨ f = 6 ∨ f = 7 ∨ f = 8 by omega) with rfl | rfl | rfl | rfl | rfl | rfl | rfl | rfl | rfl <;> kernel_rfl
theorem plain_k10 (f : Nat) (h : f < 9) : evFn (env consQ2) H.cooperagelaw10_CommandPlain (LPof []) F.cooperagelaw10_CommandPlain [.int .i64 10, .int .i64 (f : Int)] [] (finT [.bool]) = some (true, ()) := by
  rcases (show f = 0 ∨ f = 1 ∨ f = 2 ∨ f = 3 ∨ f = 4 ∨ f = 5 ∨ f = 6 ∨ f = 7 ∨ f = 8 by omega) with rfl | rfl | rfl | rfl | rfl | rfl | rfl | rfl | rfl <;> kernel_rfl
theorem plain_k11 (f : Nat) (h : f < 9) : evFn (env consQ2) H.cooperagelaw10_CommandPlain (LPof []) F.cooperagelaw10_CommandPlain [.int .i64 11, .int .i64 (f : Int)] [] (finT [.bool]) = some (true, ()) := by
  rcases (show f = 0 ∨ f = 1 ∨ f = 2 ∨ f = 3 ∨ f = 4 ∨ f = 5 ∨ f = 6 ∨ f = 7 ∨ f = 8 by omega) with rfl | rfl | rfl | rfl | rfl | rfl | rfl | rfl | rfl <;> kernel_rfl
theorem plainin_val (k f : Int) (h1 : 0 ≤ k) (h2 : k ≤ 11) (h3 : 0 ≤ f) (h4 : f ≤ 8) : evFn (env consQ2) H.cooperagelaw10_CommandPlain (LPof []) F.cooperagelaw10_CommandPlain [.int .i64 k, .int .i64 f] [] (finT [.bool]) = some (true, ()) := by
  obtain ⟨f, rfl⟩ := Int.eq_ofNat_of_zero_le h3
  rcases (show k = 0 ∨ k = 1 ∨ k = 2 ∨ k = 3 ∨ k = 4 ∨ k = 5 ∨ k = 6 ∨ k = 7 ∨ k = 8 ∨ k = 9 ∨ k = 10 ∨ k = 11 by omega) with rfl | rfl | rfl | rfl | rfl | rfl | rfl | rfl | rfl | rfl | rfl | rfl
  · exact plain_k0 f (by omega)
  · exact plain_k1 f (by omega)
  · exact plain_k2 f (by omega)
  · exact plain_k3 f (by omega)
  · exact plain_k4 f (by omega)
  · exact plain_k5 f (by omega)
  · exact plain_k6 f (by omega)
  · exact plain_k7 f (by omega)
  · exact plain_k8 f (by omega)
  · exact plain_k9 f (by omega)
  · exact plain_k10 f (by omega)
  · exact plain_k11 f (by omega)
def casePlainIn : PCase := ⟨[.ty (.int .i64), .ty (.int .i64)], [.bool], fun x => [(decide (0 ≤ x.1 ∧ x.1 ≤ 11 ∧ 0 ≤ x.2.1 ∧ x.2.1 ≤ 8), (true, ()))]⟩
theorem plainin_ok : casePlainIn.ok P0 I.cooperagelaw10_CommandPlain := case_ok2 (H := H.cooperagelaw10_CommandPlain) (E := env consQ2) (env_ok consQ2_ok) glob0 mixed0 G.cooperagelaw10_CommandPlain Bd.cooperagelaw10_CommandPlain (by kernel_rfl) noLoops fun ⟨k, f, ()⟩ y h hw => by
  obtain ⟨hc, rfl⟩ := pick_pre h
  obtain ⟨h1, h2, h3, h4⟩ := of_decide_eq_true hc
  exact plainin_val k f h1 h2 h3 h4
theorem plain_pick (k f : Int) : pick (casePlainOut.f (k, f, ())) = some (true, ()) ∨ pick (casePlainIn.f (k, f, ())) = some (true, ()) := by
  by_cases h : k < 0 ∨ k > 11 ∨ f < 0 ∨ f > 8
  · exact .inl (by simp only [casePlainOut, pick]; rw [cond_pos h])
  · exact .inr (by simp only [casePlainIn, pick]; rw [cond_pos (show 0 ≤ k ∧ k ≤ 11 ∧ 0 ≤ f ∧ f ≤ 8 by omega)])
theorem plain_good (x : tysDen [.int .i64, .int .i64]) (hw : tysWf [.int .i64, .int .i64] x) : ∃ o, EffGood P0 I.cooperagelaw10_CommandPlain (valsOf [.int .i64, .int .i64] x) [] (.bool true) o := by
  obtain ⟨k, f, ⟨⟩⟩ := x
  rcases plain_pick k f with h | h
  · exact plainout_ok (k, f, ()) (true, ()) h hw
  · exact plainin_ok (k, f, ()) (true, ()) h hw
end Go.Sim
namespace Go.Sim
set_option maxRecDepth 10000
open Go.Proofs Go.Proofs.YtifkijepedhbgaaDoor
/-- A package variable that is an array, read whole. -/
theorem laid_array {P : Program} {W : World} {g n t e : Nat} {y : Ty} {cs : Array Value} {fuel : Nat} {ds : List (DataW Unit)} {p : List MemPlace} (hcell : ∀ i, W.cell? ⟨g, i, none⟩ = cs[i]?) (ht : P.underlying t = some (.array n e))
    (hd : DataW.trod (fun _ => ()) P W 0 (fun _ => true) false fuel t cs.toList = some (.agg ds, p)) (hsz : P.cellsOf e = y.sz) {xs : List y.den} (hlen : xs.length = n) (hn : n ≤ maxL)
    (hel : ∀ (i : Nat) x d (m : Nat) cs' p', xs[i]? = some x → ds[i]? = some d → DataW.trod (fun _ => ()) P W 0 (fun _ => true) false m e cs' = some (d, p') → Vt (phi0 W) W y x cs') :
    Vt (phi0 W) W (.sl y) xs [.slice (some ⟨g, 0, none⟩) xs.length xs.length] := by
  obtain ⟨zs, m, _, ex, hc, hz, hE⟩ := DataW.trod_array ht hd
  have hds : ds = zs.map (·.1) := DataW.agg.inj (Prod.mk.inj ex).1
  refine ⟨by rw [hlen]; exact hn, some ⟨g, 0, none⟩, xs.length, rfl, Nat.le_refl _, fun i x hx => ?_⟩
  have hi : i < n := by have := (List.getElem?_eq_some_iff.1 hx).1; omega
  have h1 := hE i hi
  rw [List.getElem?_eq_getElem (by omega : i < zs.length)] at h1
  have h2 : ds[i]? = some (zs[i]'(by omega)).1 := by rw [hds, List.getElem?_map, List.getElem?_eq_getElem (by omega : i < zs.length)]; rfl
  refine ⟨⟨g, 0, none⟩, _, rfl, rfl, hel i x _ m _ _ hx h2 h1, fun j v hj => ?_⟩
  have hj2 : cs.toList[i * y.sz + j]? = some v := by
    rw [hsz] at hj
    have hjl := (List.getElem?_eq_some_iff.1 hj).1
    rw [List.getElem?_take_of_lt (by rw [List.length_take] at hjl; omega), List.getElem?_drop] at hj
    exact hj
  have hc2 : W.cell? ⟨g, 0 + i * y.sz + j, none⟩ = some v := by
    rw [hcell, Nat.zero_add, ← Array.getElem?_toList]
    exact hj2
  exact ⟨hc2, (cell_phi0 hc2).2.1⟩
theorem pin_first : (Go.Pinned.utf8First : DataW Unit) = .agg (utf8First.map fun n => .lit (.int .u8 n)) := by kernel_rfl
theorem acc_laid : (Rows.laid_unicode_utf8_acceptRanges : DataW Unit) = .agg (utf8Acc.map fun x => .agg [.lit (.int .u8 x.1), .lit (.int .u8 x.2)]) := by kernel_rfl
theorem get_map {α β : Type} {f : α → β} {l : List α} {i : Nat} {x : α} {d : β} (hx : l[i]? = some x) (hd : (l.map f)[i]? = some d) : d = f x := by
  rw [List.getElem?_map, hx] at hd
  exact (Option.some.inj hd).symm
theorem laidN {W : World} (h : laidMetH Tryd.prog [("unicode/utf8.acceptRanges", Rows.laid_unicode_utf8_acceptRanges), ("unicode/utf8.first", Rows.laid_unicode_utf8_first)] W) : LaidT P0 (phi0 W) W := by
  rw [MakeChecks.laidMetH_plain _ _ _ (by kernel_rfl)] at h
  obtain ⟨ps, ⟨g1, t1, cs1, fuel1, p1, q1, hg1, ht1, hv1, hd1, ⟨g0, t0, cs0, fuel0, p0, q0, hg0, ht0, hv0, hd0, _, _⟩, _⟩, _, _⟩ := h
  have e1 := Option.some.inj ((show Tryd.prog.globalNamed "unicode/utf8.acceptRanges" = some 1 by kernel_rfl).symm.trans hg1)
  have e0 := Option.some.inj ((show Tryd.prog.globalNamed "unicode/utf8.first" = some 0 by kernel_rfl).symm.trans hg0)
  subst e1; subst e0
  have f1 := Option.some.inj ((show (Tryd.prog.globals[1]?).map (·.type) = some 131 by kernel_rfl).symm.trans ht1)
  have f0 := Option.some.inj ((show (Tryd.prog.globals[0]?).map (·.type) = some 128 by kernel_rfl).symm.trans ht0)
  subst f1; subst f0
  have hd0' : DataW.trod (fun _ => ()) Tryd.prog W 0 (fun _ => true) false fuel0 128 cs0.toList = some (.agg (utf8First.map fun n => .lit (.int .u8 n)), p0) := by rw [← pin_first]; exact hd0
  rw [acc_laid] at hd1
  have hint : ∀ (m : Nat) cs' (n : Int) p', DataW.trod (fun _ => ()) Tryd.prog W 0 (fun _ => true) false m 5 cs' = some (.lit (.int .u8 n), p') → cs' = [.int .u8 n] ∧ In .u8 n := fun m cs' n p' hm => by
    obtain ⟨z, z1, z2, z3⟩ := DataW.trod_int (k := .u8) (show Tryd.prog.underlying 5 = some (.int .u8) by kernel_rfl) hm
    have : n = z := by simpa using (Prod.mk.inj z2).1
    subst this
    exact ⟨z1, wf_In z3⟩
  intro x hx
  simp only [Tabs.tab, List.mem_cons, List.mem_nil_iff, or_false] at hx
  rcases hx with rfl | rfl
  · refine laid_array (fun i => World.var?_cell hg0 hv0 i) (show Tryd.prog.underlying 128 = some (.array 256 5) by kernel_rfl) hd0' (by kernel_rfl) utf8First_length (by decide) fun i x d m cs' p' hx hd ht => ?_
    have := get_map hx hd
    subst this
    exact hint m cs' x p' ht
  · refine laid_array (fun i => World.var?_cell hg1 hv1 i) (show Tryd.prog.underlying 131 = some (.array 16 130) by kernel_rfl) hd1 (by kernel_rfl) rfl (by decide) fun i x d m cs' p' hx hd ht => ?_
    have := get_map hx hd
    subst this
    obtain ⟨zs, m', _, ex, hc, hz, hE⟩ := DataW.trod_struct Tryd.underlying130 ht
    have c5 : Tryd.prog.cellsOf 5 = 1 := by kernel_rfl
    have c61 : Tryd.prog.cellsOf 130 = 2 := by kernel_rfl
    have a0 := hE 0 _ rfl
    have a1 := hE 1 _ rfl
    have hz2 : zs.length = 2 := hz
    obtain ⟨z0, z1, rfl⟩ : ∃ z0 z1, zs = [z0, z1] := by
      match zs, hz2 with
      | [z0, z1], _ => exact ⟨z0, z1, rfl⟩
    rw [c61] at hc
    obtain ⟨u0, u1, rfl⟩ : ∃ u0 u1, cs' = [u0, u1] := by
      match cs', hc with
      | [u0, u1], _ => exact ⟨u0, u1, rfl⟩
    have ex2 := (Prod.mk.inj ex).1
    simp only [List.map_cons, List.map_nil, DataW.agg.injEq, List.cons.injEq, and_true] at ex2
    obtain ⟨y0, p0'⟩ := z0
    obtain ⟨y1, p1'⟩ := z1
    obtain ⟨rfl, rfl⟩ := ex2
    have b0 := hint m' [u0] x.1 p0' (by rw [← show (([u0, u1] : List Value).drop 0).take (Tryd.prog.cellsOf 5) = [u0] by rw [c5]; rfl]; exact a0)
    have b1 := hint m' [u1] x.2 p1' (by rw [← show (([u0, u1] : List Value).drop 1).take (Tryd.prog.cellsOf 5) = [u1] by rw [c5]; rfl]; exact a1)
    exact ⟨[u0], [u1], rfl, b0, b1⟩
end Go.Sim
