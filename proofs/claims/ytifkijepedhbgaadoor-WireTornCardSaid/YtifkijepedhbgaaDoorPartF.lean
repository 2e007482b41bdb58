/-
  WkE3: walks of records as bytes. · PlCmd: commands as bytes: the plain side. · WkE4: walks of command.Bytes and command.Read. · WkE5: walks of command.Bytes and command.Read. · WkE6: the walk of command.Read. · WkE7: a command comes back from its bytes; the laws of chapter 10. · WkE8: the laws of chapter 10. · PlCrc: the sum of bytes: the plain side. · WkF1: walks of crc and of its document. · WkF2: walks of frame and of its document.
-/
import Derived.Test.YtifkijepedhbgaaDoorPartE
namespace Go.Sim
set_option linter.unusedSimpArgs false
set_option linter.unusedVariables false
set_option maxRecDepth 10000
noncomputable abbrev consR1 : List (FuncId × Con) := [(I.record_Right, .pure (pureOf [caseRecright]))] ++ consV3
theorem consR1_ok : ∀ x ∈ consR1, HoldsC P0 x.1 x.2 := by
  intro x hx
  rcases List.mem_append.1 hx with hx | hx
  · simp at hx
    subst hx
    exact ⟨pureOf_holds (by simp; exact recright_ok), C.record_Right⟩
  · exact consV3_ok x hx
theorem recput_ev (b : List Int) (r : Rec) : evFn (env consR1) H.record_Put (LPof []) F.record_Put [.vl u8T b, valOf recT r] [] (finV (.lit (.hw 0)) [.arr 1 u8T []] 0) = bif decide (b.length * 1 ≤ 140737488355328) then bif !recR r then some ((), (b, ()), ()) else bif decide (b.length ≤ 140737488355000) then bif decide (List.length (b ++ putN (IntKind.u64.wrap r.fst).toNat) ≤ 140737488355000) then bif r.snd.snd.snd.snd then bif decide ((b ++ putN (IntKind.u64.wrap r.fst).toNat ++ putN (foldV r.snd.fst).toNat ++ [(1 : Int)]).length * 1 ≤ 140737488355328) then bif decide ((b ++ putN (IntKind.u64.wrap r.fst).toNat ++ putN (foldV r.snd.fst).toNat ++ [(1 : Int)]).length ≤ 140737488355000) then bif decide ((b ++ putN (IntKind.u64.wrap r.fst).toNat ++ putN (foldV r.snd.fst).toNat ++ [(1 : Int)] ++ putN (IntKind.u64.wrap (↑(List.length r.snd.snd.fst) : Int)).toNat ++ bytesOf r.snd.snd.fst).length * 1 ≤ 140737488355328) then bif decide ((b ++ putN (IntKind.u64.wrap r.fst).toNat ++ putN (foldV r.snd.fst).toNat ++ [(1 : Int)] ++ putN (IntKind.u64.wrap (↑(List.length r.snd.snd.fst) : Int)).toNat ++ bytesOf r.snd.snd.fst).length ≤ 140737488355000) then bif decide ((b ++ putN (IntKind.u64.wrap r.fst).toNat ++ putN (foldV r.snd.fst).toNat ++ [(1 : Int)] ++ putN (IntKind.u64.wrap (↑(List.length r.snd.snd.fst) : Int)).toNat ++ bytesOf r.snd.snd.fst ++ putN (IntKind.u64.wrap (↑(List.length r.snd.snd.snd.fst) : Int)).toNat ++ bytesOf r.snd.snd.snd.fst).length * 1 ≤ 140737488355328) then some ((), (b ++ putN (IntKind.u64.wrap r.fst).toNat ++ putN (foldV r.snd.fst).toNat ++ [(1 : Int)] ++ putN (IntKind.u64.wrap (↑(List.length r.snd.snd.fst) : Int)).toNat ++ bytesOf r.snd.snd.fst ++ putN (IntKind.u64.wrap (↑(List.length r.snd.snd.snd.fst) : Int)).toNat ++ bytesOf r.snd.snd.snd.fst, ()), ()) else none else none else none else none else none else bif decide ((b ++ putN (IntKind.u64.wrap r.fst).toNat ++ putN (foldV r.snd.fst).toNat ++ [(0 : Int)]).length * 1 ≤ 140737488355328) then bif decide ((b ++ putN (IntKind.u64.wrap r.fst).toNat ++ putN (foldV r.snd.fst).toNat ++ [(0 : Int)]).length ≤ 140737488355000) then bif decide ((b ++ putN (IntKind.u64.wrap r.fst).toNat ++ putN (foldV r.snd.fst).toNat ++ [(0 : Int)] ++ putN (IntKind.u64.wrap (↑(List.length r.snd.snd.fst) : Int)).toNat ++ bytesOf r.snd.snd.fst).length * 1 ≤ 140737488355328) then bif decide ((b ++ putN (IntKind.u64.wrap r.fst).toNat ++ putN (foldV r.snd.fst).toNat ++ [(0 : Int)] ++ putN (IntKind.u64.wrap (↑(List.length r.snd.snd.fst) : Int)).toNat ++ bytesOf r.snd.snd.fst).length ≤ 140737488355000) then bif decide ((b ++ putN (IntKind.u64.wrap r.fst).toNat ++ putN (foldV r.snd.fst).toNat ++ [(0 : Int)] ++ putN (IntKind.u64.wrap (↑(List.length r.snd.snd.fst) : Int)).toNat ++ bytesOf r.snd.snd.fst ++ putN (IntKind.u64.wrap (↑(List.length r.snd.snd.snd.fst) : Int)).toNat ++ bytesOf r.snd.snd.snd.fst).length * 1 ≤ 140737488355328) then some ((), (b ++ putN (IntKind.u64.wrap r.fst).toNat ++ putN (foldV r.snd.fst).toNat ++ [(0 : Int)] ++ putN (IntKind.u64.wrap (↑(List.length r.snd.snd.fst) : Int)).toNat ++ bytesOf r.snd.snd.fst ++ putN (IntKind.u64.wrap (↑(List.length r.snd.snd.snd.fst) : Int)).toNat ++ bytesOf r.snd.snd.snd.fst, ()), ()) else none else none else none else none else none else none else none else none := by kernel_rfl

theorem gnum_ev (b : List Int) (i e m : Int) : evFn (env consR1) H.record_reader_number (LPof []) F.record_reader_number [.ptr 0 (.tl 0) 0, .int .u64 m] [.arr 3 .bool [] [[.vl u8T b, .int .i64 i, .int .i64 e]]] (finV (.int .u64) [.box 3 [[.vl u8T, .int .i64, .int .i64]]] 1) = bif e != (0 : Int) then some ((0 : Int), ((b, i, e, ()), ()), ()) else bif decide ((0 : Int) ≤ i) && decide (i ≤ (↑b.length : Int)) then Option.bind (bif (getB (List.drop i.toNat b)).snd.snd == (0 : Int) then some (decide ((getB (List.drop i.toNat b)).fst > m)) else some false) fun v => bif v then some ((getB (List.drop i.toNat b)).fst, ((b, IntKind.i64.wrap (i + (getB (List.drop i.toNat b)).snd.fst), (2 : Int), ()), ()), ()) else some ((getB (List.drop i.toNat b)).fst, ((b, IntKind.i64.wrap (i + (getB (List.drop i.toNat b)).snd.fst), (getB (List.drop i.toNat b)).snd.snd, ()), ()), ()) else none := by kernel_rfl

def caseGnum : VCase := ⟨[.lit (.ptr 0 (.tl 0) 0), .int .u64], [.box 3 [[.vl u8T, .int .i64, .int .i64]]], .int .u64, [.box 3 [[.vl u8T, .int .i64, .int .i64]]], fun ⟨_, m, ()⟩ ⟨⟨⟨b, i, e, ()⟩, ()⟩, ()⟩ => [(decide (0 ≤ i) && decide (i ≤ (b.length : Int)), ((gnumV m b i e).1, (((b, (gnumV m b i e).2.1, (gnumV m b i e).2.2, ()), ()), ())))]⟩
theorem gnum_val (b : List Int) (i e m : Int) (hc : (decide (0 ≤ i) && decide (i ≤ (b.length : Int))) = true) (hb : b.length ≤ maxL) : evFn (env consR1) H.record_reader_number (LPof []) F.record_reader_number [.ptr 0 (.tl 0) 0, .int .u64 m] [.arr 3 .bool [] [[.vl u8T b, .int .i64 i, .int .i64 e]]] (finV (.int .u64) [.box 3 [[.vl u8T, .int .i64, .int .i64]]] 1) = some ((gnumV m b i e).1, (((b, (gnumV m b i e).2.1, (gnumV m b i e).2.2, ()), ()), ())) := by
  unfold maxL at hb
  simp only [Bool.and_eq_true, decide_eq_true_eq] at hc
  have hg := getB_len (b.drop i.toNat)
  have hl : (b.drop i.toNat).length = b.length - i.toNat := by simp
  rw [gnum_ev, cond_pos2 hc.1 hc.2, and_bif, Option.bind_some, wrap64 (by omega) (by omega)]
  unfold gnumV
  cases e != 0
  · simp only [cond_false]
    cases (getB (b.drop i.toNat)).2.2 == 0 && decide ((getB (b.drop i.toNat)).1 > m) <;> rfl
  · rfl
theorem gnum_ok : caseGnum.e.ok P0 I.record_reader_number := vcase_ok (c := caseGnum) (H := H.record_reader_number) (E := env consR1) (env_ok consR1_ok) glob0 mixed0 G.record_reader_number Bd.record_reader_number (by kernel_rfl) noLoops fun ⟨_, m, ()⟩ ⟨⟨⟨b, i, e, ()⟩, ()⟩, ()⟩ r h hw1 hw2 => by
  obtain ⟨hc, rfl⟩ := pick_pre h
  exact gnum_val b i e m hc hw2.1.1.1.1
theorem gsign_ev (b : List Int) (i e : Int) : evFn (env consR1) H.record_reader_sign (LPof []) F.record_reader_sign [.ptr 0 (.tl 0) 0] [.arr 3 .bool [] [[.vl u8T b, .int .i64 i, .int .i64 e]]] (finV .bool [.box 3 [[.vl u8T, .int .i64, .int .i64]]] 1) = bif e != (0 : Int) then some (false, ((b, i, e, ()), ()), ()) else bif i == (↑b.length : Int) then some (false, ((b, i, (4 : Int), ()), ()), ()) else bif decide ((0 : Int) ≤ i) && decide (i < (↑b.length : Int)) then bif decide (b.getD i.toNat (0 : Int) > (1 : Int)) then bif decide ((0 : Int) ≤ IntKind.i64.wrap (IntKind.i64.wrap (i + (1 : Int)) - (1 : Int))) && decide (IntKind.i64.wrap (IntKind.i64.wrap (i + (1 : Int)) - (1 : Int)) < (↑b.length : Int)) then some (b.getD (IntKind.i64.wrap (IntKind.i64.wrap (i + (1 : Int)) - (1 : Int))).toNat (0 : Int) == (1 : Int), ((b, IntKind.i64.wrap (i + (1 : Int)), (2 : Int), ()), ()), ()) else none else bif decide ((0 : Int) ≤ IntKind.i64.wrap (IntKind.i64.wrap (i + (1 : Int)) - (1 : Int))) && decide (IntKind.i64.wrap (IntKind.i64.wrap (i + (1 : Int)) - (1 : Int)) < (↑b.length : Int)) then some (b.getD (IntKind.i64.wrap (IntKind.i64.wrap (i + (1 : Int)) - (1 : Int))).toNat (0 : Int) == (1 : Int), ((b, IntKind.i64.wrap (i + (1 : Int)), e, ()), ()), ()) else none else none := by kernel_rfl

def caseGsign : VCase := ⟨[.lit (.ptr 0 (.tl 0) 0)], [.box 3 [[.vl u8T, .int .i64, .int .i64]]], .bool, [.box 3 [[.vl u8T, .int .i64, .int .i64]]], fun ⟨_, ()⟩ ⟨⟨⟨b, i, e, ()⟩, ()⟩, ()⟩ => [(decide (0 ≤ i) && decide (i ≤ (b.length : Int)), ((gsignV b i e).1, (((b, (gsignV b i e).2.1, (gsignV b i e).2.2, ()), ()), ())))]⟩
theorem gsign_val (b : List Int) (i e : Int) (hc : (decide (0 ≤ i) && decide (i ≤ (b.length : Int))) = true) (hb : b.length ≤ maxL) : evFn (env consR1) H.record_reader_sign (LPof []) F.record_reader_sign [.ptr 0 (.tl 0) 0] [.arr 3 .bool [] [[.vl u8T b, .int .i64 i, .int .i64 e]]] (finV (.bool) [.box 3 [[.vl u8T, .int .i64, .int .i64]]] 1) = some ((gsignV b i e).1, (((b, (gsignV b i e).2.1, (gsignV b i e).2.2, ()), ()), ())) := by
  unfold maxL at hb
  simp only [Bool.and_eq_true, decide_eq_true_eq] at hc
  rw [gsign_ev]
  unfold gsignV
  by_cases he : e = 0
  · subst he
    simp only [bne_self_eq_false, cond_false]
    by_cases hi : i = (b.length : Int)
    · subst hi; simp only [beq_self_eq_true, cond_true]
    · have h1 : (i == (b.length : Int)) = false := by simpa using hi
      have h2 : IntKind.i64.wrap (i + 1) = i + 1 := wrap64 (by omega) (by omega)
      have h3 : IntKind.i64.wrap (i + 1 - 1) = i := by rw [wrap64 (by omega) (by omega)]; omega
      have h4 : (decide (0 ≤ i) && decide (i < (b.length : Int))) = true := by simp; omega
      rw [h1, h2, h3, h4]
      simp only [cond_false, cond_true]
      cases decide (b.getD i.toNat 0 > 1) <;> rfl
  · have e2 : (e != 0) = true := by simpa using he
    rw [e2]; rfl
theorem gsign_ok : caseGsign.e.ok P0 I.record_reader_sign := vcase_ok (c := caseGsign) (H := H.record_reader_sign) (E := env consR1) (env_ok consR1_ok) glob0 mixed0 G.record_reader_sign Bd.record_reader_sign (by kernel_rfl) noLoops fun ⟨_, ()⟩ ⟨⟨⟨b, i, e, ()⟩, ()⟩, ()⟩ r h hw1 hw2 => by
  obtain ⟨hc, rfl⟩ := pick_pre h
  exact gsign_val b i e hc hw2.1.1.1.1
noncomputable abbrev consR2 : List (FuncId × Con) := [(I.record_reader_number, .eff (effOf [caseGnum.e])), (I.record_reader_sign, .eff (effOf [caseGsign.e]))] ++ consR1
theorem consR2_ok : ∀ x ∈ consR2, HoldsC P0 x.1 x.2 := by
  intro x hx
  rcases List.mem_append.1 hx with hx | hx
  · simp at hx
    rcases hx with rfl | rfl
    · exact ⟨fun args objs r objs2 h _ => effOf_holds (by simp; exact gnum_ok) args objs r objs2 h, C.record_reader_number⟩
    · exact ⟨fun args objs r objs2 h _ => effOf_holds (by simp; exact gsign_ok) args objs r objs2 h, C.record_reader_sign⟩
  · exact consR1_ok x hx
theorem gtext_ev (b : List Int) (i e m : Int) : evFn (env consR2) H.record_reader_text (LPof []) F.record_reader_text [.ptr 0 (.tl 0) 0, .int .u64 m] [.arr 3 .bool [] [[.vl u8T b, .int .i64 i, .int .i64 e]]] (finV .str [.box 3 [[.vl u8T, .int .i64, .int .i64]]] 1) = bif decide ((0 : (Pat.int IntKind.i64).den) ≤ i) && decide (i ≤ (↑b.length : Int)) then Option.bind (bif (gnumV m b i e).snd.snd == (0 : Int) then some (decide (IntKind.i64.wrap (gnumV m b i e).fst > IntKind.i64.wrap ((↑b.length : Int) - (gnumV m b i e).snd.fst))) else some false) fun v => bif v then some ([], ((b, (gnumV m b i e).snd.fst, (4 : Int), ()), ()), ()) else bif (gnumV m b i e).snd.snd != (0 : Int) then some ([], ((b, (gnumV m b i e).snd.fst, (gnumV m b i e).snd.snd, ()), ()), ()) else bif decide ((0 : Int) ≤ IntKind.i64.wrap ((gnumV m b i e).snd.fst + IntKind.i64.wrap (gnumV m b i e).fst)) && decide (IntKind.i64.wrap ((gnumV m b i e).snd.fst + IntKind.i64.wrap (gnumV m b i e).fst) ≤ (↑b.length : Int)) then bif decide ((0 : Int) ≤ IntKind.i64.wrap (IntKind.i64.wrap ((gnumV m b i e).snd.fst + IntKind.i64.wrap (gnumV m b i e).fst) - IntKind.i64.wrap (gnumV m b i e).fst)) && decide (IntKind.i64.wrap (IntKind.i64.wrap ((gnumV m b i e).snd.fst + IntKind.i64.wrap (gnumV m b i e).fst) - IntKind.i64.wrap (gnumV m b i e).fst) ≤ IntKind.i64.wrap ((gnumV m b i e).snd.fst + IntKind.i64.wrap (gnumV m b i e).fst)) then some (ofBytes (List.drop (IntKind.i64.wrap (IntKind.i64.wrap ((gnumV m b i e).snd.fst + IntKind.i64.wrap (gnumV m b i e).fst) - IntKind.i64.wrap (gnumV m b i e).fst)).toNat (List.take (IntKind.i64.wrap ((gnumV m b i e).snd.fst + IntKind.i64.wrap (gnumV m b i e).fst)).toNat b)), ((b, IntKind.i64.wrap ((gnumV m b i e).snd.fst + IntKind.i64.wrap (gnumV m b i e).fst), (gnumV m b i e).snd.snd, ()), ()), ()) else none else none else none := by kernel_rfl

def caseGtext : VCase := ⟨[.lit (.ptr 0 (.tl 0) 0), .int .u64], [.box 3 [[.vl u8T, .int .i64, .int .i64]]], .str, [.box 3 [[.vl u8T, .int .i64, .int .i64]]], fun ⟨_, m, ()⟩ ⟨⟨⟨b, i, e, ()⟩, ()⟩, ()⟩ => [(decide (0 ≤ i) && decide (i ≤ (b.length : Int)) && decide (m ≤ 4611686018427387904), ((gtextV m b i e).1, (((b, (gtextV m b i e).2.1, (gtextV m b i e).2.2, ()), ()), ())))]⟩
theorem gtext_val (b : List Int) (i e m : Int) (hc : (decide (0 ≤ i) && decide (i ≤ (b.length : Int)) && decide (m ≤ 4611686018427387904)) = true) (hb : b.length ≤ maxL) : evFn (env consR2) H.record_reader_text (LPof []) F.record_reader_text [.ptr 0 (.tl 0) 0, .int .u64 m] [.arr 3 .bool [] [[.vl u8T b, .int .i64 i, .int .i64 e]]] (finV (.str) [.box 3 [[.vl u8T, .int .i64, .int .i64]]] 1) = some ((gtextV m b i e).1, (((b, (gtextV m b i e).2.1, (gtextV m b i e).2.2, ()), ()), ())) := by
  unfold maxL at hb
  simp only [Bool.and_eq_true, decide_eq_true_eq] at hc
  obtain ⟨⟨h0, h1⟩, hm⟩ := hc
  obtain ⟨a0, a1, a2, a3⟩ := gnumV_in (m := m) (e := e) h0 h1
  rw [gtext_ev, cond_pos2 h0 h1]
  unfold gtextV
  generalize gnumV m b i e = v at a0 a1 a2 a3 ⊢
  obtain ⟨x, j, e'⟩ := v
  simp only at a0 a1 a2 a3 ⊢
  rw [and_bif, Option.bind_some]
  by_cases he : e' = 0
  · subst he
    have a3 := a3 rfl
    have w1 : IntKind.i64.wrap x = x := wrap64 (by omega) (by omega)
    have w2 : IntKind.i64.wrap ((b.length : Int) - j) = (b.length : Int) - j := wrap64 (by omega) (by omega)
    rw [w1, w2]
    simp only [beq_self_eq_true, Bool.true_and, cond_true, bne_self_eq_false, cond_false]
    by_cases hx : x > (b.length : Int) - j
    · simp only [hx, decide_true, cond_true]
    · have w3 : IntKind.i64.wrap (j + x) = j + x := wrap64 (by omega) (by omega)
      have w4 : IntKind.i64.wrap (j + x - x) = j := by rw [wrap64 (by omega) (by omega)]; omega
      rw [w3, w4]
      simp only [hx, decide_false, cond_false]
      rw [cond_pos2 (by omega) (by omega), cond_pos2 (by omega) (by omega), List.drop_take, show (j + x).toNat - j.toNat = x.toNat from by omega]
  · have e1 : (e' == 0) = false := by simpa using he
    have e2 : (e' != 0) = true := by simpa using he
    simp only [e1, e2, Bool.false_and, cond_false, cond_true]
theorem gtext_ok : caseGtext.e.ok P0 I.record_reader_text := vcase_ok (c := caseGtext) (H := H.record_reader_text) (E := env consR2) (env_ok consR2_ok) glob0 mixed0 G.record_reader_text Bd.record_reader_text (by kernel_rfl) noLoops fun ⟨_, m, ()⟩ ⟨⟨⟨b, i, e, ()⟩, ()⟩, ()⟩ r h hw1 hw2 => by
  obtain ⟨hc, rfl⟩ := pick_pre h
  exact gtext_val b i e m hc hw2.1.1.1.1
noncomputable abbrev consR3 : List (FuncId × Con) := [(I.record_reader_text, .eff (effOf [caseGtext.e]))] ++ consR2
theorem consR3_ok : ∀ x ∈ consR3, HoldsC P0 x.1 x.2 := by
  intro x hx
  rcases List.mem_append.1 hx with hx | hx
  · simp at hx
    subst hx
    exact ⟨fun args objs r objs2 h _ => effOf_holds (by simp; exact gtext_ok) args objs r objs2 h, C.record_reader_text⟩
  · exact consR2_ok x hx
theorem recget_ev (b : List Int) : evFn (env consR3) H.record_Get (LPof []) F.record_Get [.vl u8T b] [] (finT [recT, .int .i64, .int .i64]) = bif decide ((0 : (Pat.int IntKind.i64).den) ≤ (gnumV (1125899906842624 : Int) b (0 : Int) (0 : Int)).snd.fst) && decide ((gnumV (1125899906842624 : Int) b (0 : Int) (0 : Int)).snd.fst ≤ (↑b.length : Int)) then bif decide ((0 : (Pat.int IntKind.i64).den) ≤ (gnumV (2199023255552 : Int) b (gnumV (1125899906842624 : Int) b (0 : Int) (0 : Int)).snd.fst (gnumV (1125899906842624 : Int) b (0 : Int) (0 : Int)).snd.snd).snd.fst) && decide ((gnumV (2199023255552 : Int) b (gnumV (1125899906842624 : Int) b (0 : Int) (0 : Int)).snd.fst (gnumV (1125899906842624 : Int) b (0 : Int) (0 : Int)).snd.snd).snd.fst ≤ (↑b.length : Int)) then bif decide ((0 : (Pat.int IntKind.i64).den) ≤ (gsignV b (gnumV (2199023255552 : Int) b (gnumV (1125899906842624 : Int) b (0 : Int) (0 : Int)).snd.fst (gnumV (1125899906842624 : Int) b (0 : Int) (0 : Int)).snd.snd).snd.fst (gnumV (2199023255552 : Int) b (gnumV (1125899906842624 : Int) b (0 : Int) (0 : Int)).snd.fst (gnumV (1125899906842624 : Int) b (0 : Int) (0 : Int)).snd.snd).snd.snd).snd.fst) && decide ((gsignV b (gnumV (2199023255552 : Int) b (gnumV (1125899906842624 : Int) b (0 : Int) (0 : Int)).snd.fst (gnumV (1125899906842624 : Int) b (0 : Int) (0 : Int)).snd.snd).snd.fst (gnumV (2199023255552 : Int) b (gnumV (1125899906842624 : Int) b (0 : Int) (0 : Int)).snd.fst (gnumV (1125899906842624 : Int) b (0 : Int) (0 : Int)).snd.snd).snd.snd).snd.fst ≤ (↑b.length : Int)) && true then bif decide ((0 : (Pat.int IntKind.i64).den) ≤ (gtextV (200 : Int) b (gsignV b (gnumV (2199023255552 : Int) b (gnumV (1125899906842624 : Int) b (0 : Int) (0 : Int)).snd.fst (gnumV (1125899906842624 : Int) b (0 : Int) (0 : Int)).snd.snd).snd.fst (gnumV (2199023255552 : Int) b (gnumV (1125899906842624 : Int) b (0 : Int) (0 : Int)).snd.fst (gnumV (1125899906842624 : Int) b (0 : Int) (0 : Int)).snd.snd).snd.snd).snd.fst (gsignV b (gnumV (2199023255552 : Int) b (gnumV (1125899906842624 : Int) b (0 : Int) (0 : Int)).snd.fst (gnumV (1125899906842624 : Int) b (0 : Int) (0 : Int)).snd.snd).snd.fst (gnumV (2199023255552 : Int) b (gnumV (1125899906842624 : Int) b (0 : Int) (0 : Int)).snd.fst (gnumV (1125899906842624 : Int) b (0 : Int) (0 : Int)).snd.snd).snd.snd).snd.snd).snd.fst) && decide ((gtextV (200 : Int) b (gsignV b (gnumV (2199023255552 : Int) b (gnumV (1125899906842624 : Int) b (0 : Int) (0 : Int)).snd.fst (gnumV (1125899906842624 : Int) b (0 : Int) (0 : Int)).snd.snd).snd.fst (gnumV (2199023255552 : Int) b (gnumV (1125899906842624 : Int) b (0 : Int) (0 : Int)).snd.fst (gnumV (1125899906842624 : Int) b (0 : Int) (0 : Int)).snd.snd).snd.snd).snd.fst (gsignV b (gnumV (2199023255552 : Int) b (gnumV (1125899906842624 : Int) b (0 : Int) (0 : Int)).snd.fst (gnumV (1125899906842624 : Int) b (0 : Int) (0 : Int)).snd.snd).snd.fst (gnumV (2199023255552 : Int) b (gnumV (1125899906842624 : Int) b (0 : Int) (0 : Int)).snd.fst (gnumV (1125899906842624 : Int) b (0 : Int) (0 : Int)).snd.snd).snd.snd).snd.snd).snd.fst ≤ (↑b.length : Int)) && true then Option.bind (bif (gtextV (2000 : Int) b (gtextV (200 : Int) b (gsignV b (gnumV (2199023255552 : Int) b (gnumV (1125899906842624 : Int) b (0 : Int) (0 : Int)).snd.fst (gnumV (1125899906842624 : Int) b (0 : Int) (0 : Int)).snd.snd).snd.fst (gnumV (2199023255552 : Int) b (gnumV (1125899906842624 : Int) b (0 : Int) (0 : Int)).snd.fst (gnumV (1125899906842624 : Int) b (0 : Int) (0 : Int)).snd.snd).snd.snd).snd.fst (gsignV b (gnumV (2199023255552 : Int) b (gnumV (1125899906842624 : Int) b (0 : Int) (0 : Int)).snd.fst (gnumV (1125899906842624 : Int) b (0 : Int) (0 : Int)).snd.snd).snd.fst (gnumV (2199023255552 : Int) b (gnumV (1125899906842624 : Int) b (0 : Int) (0 : Int)).snd.fst (gnumV (1125899906842624 : Int) b (0 : Int) (0 : Int)).snd.snd).snd.snd).snd.snd).snd.fst (gtextV (200 : Int) b (gsignV b (gnumV (2199023255552 : Int) b (gnumV (1125899906842624 : Int) b (0 : Int) (0 : Int)).snd.fst (gnumV (1125899906842624 : Int) b (0 : Int) (0 : Int)).snd.snd).snd.fst (gnumV (2199023255552 : Int) b (gnumV (1125899906842624 : Int) b (0 : Int) (0 : Int)).snd.fst (gnumV (1125899906842624 : Int) b (0 : Int) (0 : Int)).snd.snd).snd.snd).snd.fst (gsignV b (gnumV (2199023255552 : Int) b (gnumV (1125899906842624 : Int) b (0 : Int) (0 : Int)).snd.fst (gnumV (1125899906842624 : Int) b (0 : Int) (0 : Int)).snd.snd).snd.fst (gnumV (2199023255552 : Int) b (gnumV (1125899906842624 : Int) b (0 : Int) (0 : Int)).snd.fst (gnumV (1125899906842624 : Int) b (0 : Int) (0 : Int)).snd.snd).snd.snd).snd.snd).snd.snd).snd.snd == (0 : Int) then some !recR (IntKind.i64.wrap (gnumV (1125899906842624 : Int) b (0 : Int) (0 : Int)).fst, unfoldV (gnumV (2199023255552 : Int) b (gnumV (1125899906842624 : Int) b (0 : Int) (0 : Int)).snd.fst (gnumV (1125899906842624 : Int) b (0 : Int) (0 : Int)).snd.snd).fst, (gtextV (200 : Int) b (gsignV b (gnumV (2199023255552 : Int) b (gnumV (1125899906842624 : Int) b (0 : Int) (0 : Int)).snd.fst (gnumV (1125899906842624 : Int) b (0 : Int) (0 : Int)).snd.snd).snd.fst (gnumV (2199023255552 : Int) b (gnumV (1125899906842624 : Int) b (0 : Int) (0 : Int)).snd.fst (gnumV (1125899906842624 : Int) b (0 : Int) (0 : Int)).snd.snd).snd.snd).snd.fst (gsignV b (gnumV (2199023255552 : Int) b (gnumV (1125899906842624 : Int) b (0 : Int) (0 : Int)).snd.fst (gnumV (1125899906842624 : Int) b (0 : Int) (0 : Int)).snd.snd).snd.fst (gnumV (2199023255552 : Int) b (gnumV (1125899906842624 : Int) b (0 : Int) (0 : Int)).snd.fst (gnumV (1125899906842624 : Int) b (0 : Int) (0 : Int)).snd.snd).snd.snd).snd.snd).fst, (gtextV (2000 : Int) b (gtextV (200 : Int) b (gsignV b (gnumV (2199023255552 : Int) b (gnumV (1125899906842624 : Int) b (0 : Int) (0 : Int)).snd.fst (gnumV (1125899906842624 : Int) b (0 : Int) (0 : Int)).snd.snd).snd.fst (gnumV (2199023255552 : Int) b (gnumV (1125899906842624 : Int) b (0 : Int) (0 : Int)).snd.fst (gnumV (1125899906842624 : Int) b (0 : Int) (0 : Int)).snd.snd).snd.snd).snd.fst (gsignV b (gnumV (2199023255552 : Int) b (gnumV (1125899906842624 : Int) b (0 : Int) (0 : Int)).snd.fst (gnumV (1125899906842624 : Int) b (0 : Int) (0 : Int)).snd.snd).snd.fst (gnumV (2199023255552 : Int) b (gnumV (1125899906842624 : Int) b (0 : Int) (0 : Int)).snd.fst (gnumV (1125899906842624 : Int) b (0 : Int) (0 : Int)).snd.snd).snd.snd).snd.snd).snd.fst (gtextV (200 : Int) b (gsignV b (gnumV (2199023255552 : Int) b (gnumV (1125899906842624 : Int) b (0 : Int) (0 : Int)).snd.fst (gnumV (1125899906842624 : Int) b (0 : Int) (0 : Int)).snd.snd).snd.fst (gnumV (2199023255552 : Int) b (gnumV (1125899906842624 : Int) b (0 : Int) (0 : Int)).snd.fst (gnumV (1125899906842624 : Int) b (0 : Int) (0 : Int)).snd.snd).snd.snd).snd.fst (gsignV b (gnumV (2199023255552 : Int) b (gnumV (1125899906842624 : Int) b (0 : Int) (0 : Int)).snd.fst (gnumV (1125899906842624 : Int) b (0 : Int) (0 : Int)).snd.snd).snd.fst (gnumV (2199023255552 : Int) b (gnumV (1125899906842624 : Int) b (0 : Int) (0 : Int)).snd.fst (gnumV (1125899906842624 : Int) b (0 : Int) (0 : Int)).snd.snd).snd.snd).snd.snd).snd.snd).fst, (gsignV b (gnumV (2199023255552 : Int) b (gnumV (1125899906842624 : Int) b (0 : Int) (0 : Int)).snd.fst (gnumV (1125899906842624 : Int) b (0 : Int) (0 : Int)).snd.snd).snd.fst (gnumV (2199023255552 : Int) b (gnumV (1125899906842624 : Int) b (0 : Int) (0 : Int)).snd.fst (gnumV (1125899906842624 : Int) b (0 : Int) (0 : Int)).snd.snd).snd.snd).fst) else some false) fun v => bif v then some (((0 : Int), (0 : Int), [], [], false), (0 : Int), (2 : Int), ()) else bif (gtextV (2000 : Int) b (gtextV (200 : Int) b (gsignV b (gnumV (2199023255552 : Int) b (gnumV (1125899906842624 : Int) b (0 : Int) (0 : Int)).snd.fst (gnumV (1125899906842624 : Int) b (0 : Int) (0 : Int)).snd.snd).snd.fst (gnumV (2199023255552 : Int) b (gnumV (1125899906842624 : Int) b (0 : Int) (0 : Int)).snd.fst (gnumV (1125899906842624 : Int) b (0 : Int) (0 : Int)).snd.snd).snd.snd).snd.fst (gsignV b (gnumV (2199023255552 : Int) b (gnumV (1125899906842624 : Int) b (0 : Int) (0 : Int)).snd.fst (gnumV (1125899906842624 : Int) b (0 : Int) (0 : Int)).snd.snd).snd.fst (gnumV (2199023255552 : Int) b (gnumV (1125899906842624 : Int) b (0 : Int) (0 : Int)).snd.fst (gnumV (1125899906842624 : Int) b (0 : Int) (0 : Int)).snd.snd).snd.snd).snd.snd).snd.fst (gtextV (200 : Int) b (gsignV b (gnumV (2199023255552 : Int) b (gnumV (1125899906842624 : Int) b (0 : Int) (0 : Int)).snd.fst (gnumV (1125899906842624 : Int) b (0 : Int) (0 : Int)).snd.snd).snd.fst (gnumV (2199023255552 : Int) b (gnumV (1125899906842624 : Int) b (0 : Int) (0 : Int)).snd.fst (gnumV (1125899906842624 : Int) b (0 : Int) (0 : Int)).snd.snd).snd.snd).snd.fst (gsignV b (gnumV (2199023255552 : Int) b (gnumV (1125899906842624 : Int) b (0 : Int) (0 : Int)).snd.fst (gnumV (1125899906842624 : Int) b (0 : Int) (0 : Int)).snd.snd).snd.fst (gnumV (2199023255552 : Int) b (gnumV (1125899906842624 : Int) b (0 : Int) (0 : Int)).snd.fst (gnumV (1125899906842624 : Int) b (0 : Int) (0 : Int)).snd.snd).snd.snd).snd.snd).snd.snd).snd.snd != (0 : Int) then some (((0 : Int), (0 : Int), [], [], false), (0 : Int), (gtextV (2000 : Int) b (gtextV (200 : Int) b (gsignV b (gnumV (2199023255552 : Int) b (gnumV (1125899906842624 : Int) b (0 : Int) (0 : Int)).snd.fst (gnumV (1125899906842624 : Int) b (0 : Int) (0 : Int)).snd.snd).snd.fst (gnumV (2199023255552 : Int) b (gnumV (1125899906842624 : Int) b (0 : Int) (0 : Int)).snd.fst (gnumV (1125899906842624 : Int) b (0 : Int) (0 : Int)).snd.snd).snd.snd).snd.fst (gsignV b (gnumV (2199023255552 : Int) b (gnumV (1125899906842624 : Int) b (0 : Int) (0 : Int)).snd.fst (gnumV (1125899906842624 : Int) b (0 : Int) (0 : Int)).snd.snd).snd.fst (gnumV (2199023255552 : Int) b (gnumV (1125899906842624 : Int) b (0 : Int) (0 : Int)).snd.fst (gnumV (1125899906842624 : Int) b (0 : Int) (0 : Int)).snd.snd).snd.snd).snd.snd).snd.fst (gtextV (200 : Int) b (gsignV b (gnumV (2199023255552 : Int) b (gnumV (1125899906842624 : Int) b (0 : Int) (0 : Int)).snd.fst (gnumV (1125899906842624 : Int) b (0 : Int) (0 : Int)).snd.snd).snd.fst (gnumV (2199023255552 : Int) b (gnumV (1125899906842624 : Int) b (0 : Int) (0 : Int)).snd.fst (gnumV (1125899906842624 : Int) b (0 : Int) (0 : Int)).snd.snd).snd.snd).snd.fst (gsignV b (gnumV (2199023255552 : Int) b (gnumV (1125899906842624 : Int) b (0 : Int) (0 : Int)).snd.fst (gnumV (1125899906842624 : Int) b (0 : Int) (0 : Int)).snd.snd).snd.fst (gnumV (2199023255552 : Int) b (gnumV (1125899906842624 : Int) b (0 : Int) (0 : Int)).snd.fst (gnumV (1125899906842624 : Int) b (0 : Int) (0 : Int)).snd.snd).snd.snd).snd.snd).snd.snd).snd.snd, ()) else some ((IntKind.i64.wrap (gnumV (1125899906842624 : Int) b (0 : Int) (0 : Int)).fst, unfoldV (gnumV (2199023255552 : Int) b (gnumV (1125899906842624 : Int) b (0 : Int) (0 : Int)).snd.fst (gnumV (1125899906842624 : Int) b (0 : Int) (0 : Int)).snd.snd).fst, (gtextV (200 : Int) b (gsignV b (gnumV (2199023255552 : Int) b (gnumV (1125899906842624 : Int) b (0 : Int) (0 : Int)).snd.fst (gnumV (1125899906842624 : Int) b (0 : Int) (0 : Int)).snd.snd).snd.fst (gnumV (2199023255552 : Int) b (gnumV (1125899906842624 : Int) b (0 : Int) (0 : Int)).snd.fst (gnumV (1125899906842624 : Int) b (0 : Int) (0 : Int)).snd.snd).snd.snd).snd.fst (gsignV b (gnumV (2199023255552 : Int) b (gnumV (1125899906842624 : Int) b (0 : Int) (0 : Int)).snd.fst (gnumV (1125899906842624 : Int) b (0 : Int) (0 : Int)).snd.snd).snd.fst (gnumV (2199023255552 : Int) b (gnumV (1125899906842624 : Int) b (0 : Int) (0 : Int)).snd.fst (gnumV (1125899906842624 : Int) b (0 : Int) (0 : Int)).snd.snd).snd.snd).snd.snd).fst, (gtextV (2000 : Int) b (gtextV (200 : Int) b (gsignV b (gnumV (2199023255552 : Int) b (gnumV (1125899906842624 : Int) b (0 : Int) (0 : Int)).snd.fst (gnumV (1125899906842624 : Int) b (0 : Int) (0 : Int)).snd.snd).snd.fst (gnumV (2199023255552 : Int) b (gnumV (1125899906842624 : Int) b (0 : Int) (0 : Int)).snd.fst (gnumV (1125899906842624 : Int) b (0 : Int) (0 : Int)).snd.snd).snd.snd).snd.fst (gsignV b (gnumV (2199023255552 : Int) b (gnumV (1125899906842624 : Int) b (0 : Int) (0 : Int)).snd.fst (gnumV (1125899906842624 : Int) b (0 : Int) (0 : Int)).snd.snd).snd.fst (gnumV (2199023255552 : Int) b (gnumV (1125899906842624 : Int) b (0 : Int) (0 : Int)).snd.fst (gnumV (1125899906842624 : Int) b (0 : Int) (0 : Int)).snd.snd).snd.snd).snd.snd).snd.fst (gtextV (200 : Int) b (gsignV b (gnumV (2199023255552 : Int) b (gnumV (1125899906842624 : Int) b (0 : Int) (0 : Int)).snd.fst (gnumV (1125899906842624 : Int) b (0 : Int) (0 : Int)).snd.snd).snd.fst (gnumV (2199023255552 : Int) b (gnumV (1125899906842624 : Int) b (0 : Int) (0 : Int)).snd.fst (gnumV (1125899906842624 : Int) b (0 : Int) (0 : Int)).snd.snd).snd.snd).snd.fst (gsignV b (gnumV (2199023255552 : Int) b (gnumV (1125899906842624 : Int) b (0 : Int) (0 : Int)).snd.fst (gnumV (1125899906842624 : Int) b (0 : Int) (0 : Int)).snd.snd).snd.fst (gnumV (2199023255552 : Int) b (gnumV (1125899906842624 : Int) b (0 : Int) (0 : Int)).snd.fst (gnumV (1125899906842624 : Int) b (0 : Int) (0 : Int)).snd.snd).snd.snd).snd.snd).snd.snd).fst, (gsignV b (gnumV (2199023255552 : Int) b (gnumV (1125899906842624 : Int) b (0 : Int) (0 : Int)).snd.fst (gnumV (1125899906842624 : Int) b (0 : Int) (0 : Int)).snd.snd).snd.fst (gnumV (2199023255552 : Int) b (gnumV (1125899906842624 : Int) b (0 : Int) (0 : Int)).snd.fst (gnumV (1125899906842624 : Int) b (0 : Int) (0 : Int)).snd.snd).snd.snd).fst), (gtextV (2000 : Int) b (gtextV (200 : Int) b (gsignV b (gnumV (2199023255552 : Int) b (gnumV (1125899906842624 : Int) b (0 : Int) (0 : Int)).snd.fst (gnumV (1125899906842624 : Int) b (0 : Int) (0 : Int)).snd.snd).snd.fst (gnumV (2199023255552 : Int) b (gnumV (1125899906842624 : Int) b (0 : Int) (0 : Int)).snd.fst (gnumV (1125899906842624 : Int) b (0 : Int) (0 : Int)).snd.snd).snd.snd).snd.fst (gsignV b (gnumV (2199023255552 : Int) b (gnumV (1125899906842624 : Int) b (0 : Int) (0 : Int)).snd.fst (gnumV (1125899906842624 : Int) b (0 : Int) (0 : Int)).snd.snd).snd.fst (gnumV (2199023255552 : Int) b (gnumV (1125899906842624 : Int) b (0 : Int) (0 : Int)).snd.fst (gnumV (1125899906842624 : Int) b (0 : Int) (0 : Int)).snd.snd).snd.snd).snd.snd).snd.fst (gtextV (200 : Int) b (gsignV b (gnumV (2199023255552 : Int) b (gnumV (1125899906842624 : Int) b (0 : Int) (0 : Int)).snd.fst (gnumV (1125899906842624 : Int) b (0 : Int) (0 : Int)).snd.snd).snd.fst (gnumV (2199023255552 : Int) b (gnumV (1125899906842624 : Int) b (0 : Int) (0 : Int)).snd.fst (gnumV (1125899906842624 : Int) b (0 : Int) (0 : Int)).snd.snd).snd.snd).snd.fst (gsignV b (gnumV (2199023255552 : Int) b (gnumV (1125899906842624 : Int) b (0 : Int) (0 : Int)).snd.fst (gnumV (1125899906842624 : Int) b (0 : Int) (0 : Int)).snd.snd).snd.fst (gnumV (2199023255552 : Int) b (gnumV (1125899906842624 : Int) b (0 : Int) (0 : Int)).snd.fst (gnumV (1125899906842624 : Int) b (0 : Int) (0 : Int)).snd.snd).snd.snd).snd.snd).snd.snd).snd.fst, (0 : Int), ()) else none else none else none else none := by kernel_rfl

theorem recput_go (b : List Int) (r : Rec) (hb : b.length ≤ 140737488350000) : evFn (env consR1) H.record_Put (LPof []) F.record_Put [.vl u8T b, valOf recT r] [] (finV (.lit (.hw 0)) [.arr 1 u8T []] 0) = some ((), ((putR b r, ()), ())) := by
  rw [recput_ev, cond_pos (by omega)]
  unfold putR
  cases hr : recR r with
  | false => rfl
  | true =>
    have hl := encR_len hr
    obtain ⟨o, t, k, v, d⟩ := r
    simp only [recR, Bool.and_eq_true, decide_eq_true_eq] at hr
    obtain ⟨h1, h2, h3, h4, h5, h6, h7, h8⟩ := hr
    have hk : (bytesOf k).length = k.length := by simp [bytesOf]
    have hv : (bytesOf v).length = v.length := by simp [bytesOf]
    have w1 : IntKind.u64.wrap o = o := wrapu64 (by omega) (by omega)
    have w2 : (IntKind.u64.wrap ((List.length k : Nat) : Int)).toNat = List.length k := by rw [wrapu64 (by omega) (by omega)]; omega
    have w3 : (IntKind.u64.wrap ((List.length v : Nat) : Int)).toNat = List.length v := by rw [wrapu64 (by omega) (by omega)]; omega
    simp only [encR, List.length_append, List.length_cons, List.length_nil, hk, hv] at hl
    simp only [w1, w2, w3, Bool.not_true, cond_false, cond_true, encR]
    cases d <;> simp only [cond_true, cond_false, List.append_assoc] <;>
      (repeat rw [cond_pos (by first | omega | (simp only [List.length_append, List.length_cons, List.length_nil, hk, hv]; omega))])
def caseRecput : VCase := ⟨[.vl u8T, .agg [.int .i64, .int .i64, .str, .str, .bool]], [], .lit (.hw 0), [.arr 1 u8T []], fun ⟨b, ⟨o, t, k, v, d, ()⟩, ()⟩ () => [(decide (b.length ≤ 140737488350000), ((), ((putR b (o, t, k, v, d), ()), ())))]⟩
theorem recput_val (b : List Int) (o : Int) (t : Int) (k : List UInt8) (v : List UInt8) (d : Bool) (hc : (decide (b.length ≤ 140737488350000)) = true) : evFn (env consR1) H.record_Put (LPof []) F.record_Put [.vl u8T b, .agg [.int .i64 o, .int .i64 t, .str k, .str v, .bool d]] [] (finV (.lit (.hw 0)) [.arr 1 u8T []] 0) = some ((), ((putR b (o, t, k, v, d), ()), ())) := by
  exact recput_go b (o, t, k, v, d) (of_decide_eq_true hc)
theorem recput_ok : caseRecput.e.ok P0 I.record_Put := vcase_ok (c := caseRecput) (H := H.record_Put) (E := env consR1) (env_ok consR1_ok) glob0 mixed0 G.record_Put Bd.record_Put (by kernel_rfl) noLoops fun ⟨b, ⟨o, t, k, v, d, ()⟩, ()⟩ () r h hw1 hw2 => by
  obtain ⟨hc, rfl⟩ := pick_pre h
  exact recput_val b o t k v d hc
def caseRecget : PCase := ⟨[.ty (.sl u8T)], [recT, .int .i64, .int .i64], fun x => (fun (b : List Int) => [(true, ((getR b).1, (getR b).2.1, (getR b).2.2, ()))]) x.1⟩
theorem recget_val (b : List Int) : evFn (env consR3) H.record_Get (LPof []) F.record_Get [.vl u8T b] [] (finT [recT, .int .i64, .int .i64]) = some ((getR b).1, (getR b).2.1, (getR b).2.2, ()) := by
  rw [recget_ev]
  simp only [getR, rdE, rdX, rdV, rdK, rdS, rdT, rdO]
  have o := gnumV_in (m := 1125899906842624) (b := b) (i := 0) (e := 0) (by omega) (by omega)
  generalize gnumV 1125899906842624 b 0 0 = vo at o ⊢
  have t := gnumV_in (m := 2199023255552) (b := b) (e := vo.2.2) o.2.1 o.2.2.1
  have te := gnumV_e (m := 2199023255552) (b := b) (i := vo.2.1) (e := vo.2.2)
  generalize gnumV 2199023255552 b vo.2.1 vo.2.2 = vt at t te ⊢
  have s := gsignV_in (b := b) (e := vt.2.2) t.2.1 t.2.2.1
  have se := gsignV_e (b := b) (i := vt.2.1) (e := vt.2.2)
  generalize gsignV b vt.2.1 vt.2.2 = vs at s se ⊢
  have k := gtextV_in (m := 200) (b := b) (e := vs.2.2) s.1 s.2
  have ke := gtextV_e (m := 200) (b := b) (i := vs.2.1) (e := vs.2.2)
  generalize gtextV 200 b vs.2.1 vs.2.2 = vk at k ke ⊢
  have v := gtextV_in (m := 2000) (b := b) (e := vk.2.2) k.1 k.2
  have ve := gtextV_e (m := 2000) (b := b) (i := vk.2.1) (e := vk.2.2)
  generalize gtextV 2000 b vk.2.1 vk.2.2 = vv at v ve ⊢
  simp only [o.2.1, o.2.2.1, t.2.1, t.2.2.1, s.1, s.2, k.1, k.2, decide_true, Bool.and_self, cond_true]
  rw [and_bif, Option.bind_some]
  by_cases hz : vv.2.2 = 0
  · have h2 := o.2.2.2 (te (se (ke (ve hz))))
    have hw : IntKind.i64.wrap vo.1 = vo.1 := wrap64 (by omega) (by omega)
    rw [hw, hz]
    cases recR (vo.1, unfoldV vt.1, vk.1, vv.1, vs.1) <;> rfl
  · have e1 : (vv.2.2 == 0) = false := by simpa using hz
    have e2 : (vv.2.2 != 0) = true := by simpa using hz
    rw [e1]
    simp only [Bool.false_and, cond_false, e2, cond_true]
    rfl
theorem recget_ok : caseRecget.ok P0 I.record_Get := case_ok2 (H := H.record_Get) (E := env consR3) (env_ok consR3_ok) glob0 mixed0 G.record_Get Bd.record_Get (by kernel_rfl) noLoops fun ⟨b, ()⟩ y h hw => by
  obtain ⟨hc, rfl⟩ := pick_pre h
  exact recget_val b
end Go.Sim
namespace Go.Sim
set_option linter.unusedSimpArgs false
set_option linter.unusedVariables false

def putI (b : List Int) (n : Int) : List Int := b ++ putN (foldV n).toNat
def putC (b : List Int) (c : Cnf) : List Int := putI (putI (putI (putI b c.1) c.2.1) c.2.2.1) c.2.2.2
def putT (b : List Int) (s : List UInt8) : List Int := b ++ putN (List.length s) ++ bytesOf s
def putL (b : List Int) (l : List Rec) : List Int := l.foldl putR (b ++ putN (List.length l))
/-- The bytes of a command. -/
def encC (c : Cmd) : List Int :=
  bif c.1 == 1 then putL (putI (putI (putI [] c.1) c.2.1) c.2.2.1) c.2.2.2.1 else
  bif c.1 == 2 then putI (putI (putI [] c.1) c.2.2.2.2.2.1) c.2.2.2.2.2.2.1 else
  bif c.1 == 3 then putI (putT (putI [] c.1) c.2.2.2.2.1) c.2.2.2.2.2.1 else
  bif c.1 == 4 then putT (putI [] c.1) c.2.2.2.2.1 else
  bif c.1 == 5 || c.1 == 9 then putI (putI [] c.1) c.2.2.2.2.2.2.2.1 else
  bif c.1 == 6 then putC (putI [] c.1) c.2.2.2.2.2.2.2.2.2 else
  bif c.1 == 8 then putI (putI (putI [] c.1) c.2.2.2.2.2.1) c.2.2.2.2.2.2.2.1 else
  bif c.1 == 11 then putI [] c.1 ++ putN (foldV c.2.2.2.2.2.1).toNat ++ putN (foldV c.2.2.1).toNat ++ putN (foldV c.2.2.2.2.2.2.1).toNat ++ putN c.2.2.2.2.2.2.2.2.1.toNat else putI [] c.1
def bytesC (c : Cmd) : List Int := bif rightC c then encC c else []
/-- The records of a reader. -/
abbrev RdS := List Int × Int × List Rec
def stepR (s : RdS) : RdS := (s.1.drop (getR s.1).2.1.toNat, bif s.2.1 == 0 then (getR s.1).2.2 else s.2.1, s.2.2 ++ [(getR s.1).1])
def itR : Nat → RdS → RdS
  | 0, s => s
  | n + 1, s => itR n (stepR s)
theorem putL_enc : ∀ (l : List Rec) (b : List Int), (∀ r ∈ l, recR r = true) → l.foldl putR b = b ++ (l.map encR).flatten
  | [], b, _ => by simp
  | r :: l, b, h => by
    have hr : putR b r = b ++ encR r := by unfold putR; rw [h r (by simp)]; rfl
    rw [List.foldl_cons, hr, putL_enc l _ (fun x hx => h x (List.mem_cons_of_mem _ hx))]
    simp
theorem itR_enc : ∀ (l : List Rec) (xs : List Rec) (rest : List Int), (∀ r ∈ l, recR r = true) → itR l.length ((l.map encR).flatten ++ rest, 0, xs) = (rest, 0, xs ++ l)
  | [], xs, rest, _ => by simp [itR]
  | r :: l, xs, rest, h => by
    have hg := getR_put (h r (by simp)) ((l.map encR).flatten ++ rest)
    have hs : stepR (((r :: l).map encR).flatten ++ rest, 0, xs) = ((l.map encR).flatten ++ rest, 0, xs ++ [r]) := by
      unfold stepR
      simp only [List.map_cons, List.flatten_cons, List.append_assoc]
      rw [hg]
      simp
    rw [List.length_cons, itR, hs, itR_enc l _ _ (fun x hx => h x (List.mem_cons_of_mem _ hx))]
    simp
theorem numV_put (n : Nat) (r : List Int) (hn : n < 2 ^ 64) : numV (putN n ++ r) 0 = ((n : Int), r, 0) := by
  unfold numV
  rw [getB_putN n r hn]
  simp
theorem bytesV_put (l : List UInt8) (r : List Int) (hl : List.length l < 2 ^ 64) : bytesV (putN (List.length l) ++ (bytesOf l ++ r)) 0 = (bytesOf l, r, 0) := by
  unfold bytesV
  rw [numV_put _ _ hl]
  have hb : (bytesOf l).length = l.length := by simp [bytesOf]
  have h : ¬ ((List.length l : Nat) : Int) > (((bytesOf l ++ r).length : Nat) : Int) := by simp only [List.length_append, hb]; omega
  simp only [beq_self_eq_true, cond_true, h, decide_false, cond_false, Int.toNat_natCast]
  rw [← hb, List.take_left, List.drop_left]
theorem countV_put (n : Nat) (r : List Int) (hn : n < 2 ^ 64) (hr : n ≤ r.length) : countV (putN n ++ r) 0 = ((n : Int), r, 0) := by
  unfold countV
  rw [numV_put _ _ hn]
  have h : ¬ (n : Int) > (r.length : Int) := by omega
  simp [h]
theorem unfold_put (n : Int) (r : List Int) (h1 : -9223372036854775808 ≤ n) (h2 : n ≤ 9223372036854775807) : numV (putN (foldV n).toNat ++ r) 0 = (foldV n, r, 0) := by
  have hf := fold_in h1 h2
  rw [numV_put _ _ (by omega), Int.toNat_of_nonneg hf.1]
end Go.Sim
namespace Go.Sim
set_option linter.unusedSimpArgs false
set_option linter.unusedVariables false
set_option maxRecDepth 10000
noncomputable abbrev consC1 : List (FuncId × Con) := [(I.record_Put, .eff (effOf [caseRecput.e])), (I.record_Get, .pure (pureOf [caseRecget]))] ++ consV3
theorem consC1_ok : ∀ x ∈ consC1, HoldsC P0 x.1 x.2 := by
  intro x hx
  rcases List.mem_append.1 hx with hx | hx
  · simp at hx
    rcases hx with rfl | rfl
    · exact ⟨fun args objs r objs2 h _ => effOf_holds (by simp; exact recput_ok) args objs r objs2 h, C.record_Put⟩
    · exact ⟨pureOf_holds (by simp; exact recget_ok), C.record_Get⟩
  · exact consV3_ok x hx
theorem beq_ev (a b : List Int) : evFn (env []) H.bytes_Equal (LPof []) F.bytes_Equal [.vl u8T a, .vl u8T b] [] (finT [.bool]) = some (ofBytes a == ofBytes b, ()) := by kernel_rfl

def caseBeq : PCase := ⟨[.ty (.sl u8T), .ty (.sl u8T)], [.bool], fun x => (fun (a b : List Int) => [(true, (ofBytes a == ofBytes b, ()))]) x.1 x.2.1⟩
theorem beq_val (a b : List Int) : evFn (env []) H.bytes_Equal (LPof []) F.bytes_Equal [.vl u8T a, .vl u8T b] [] (finT [.bool]) = some (ofBytes a == ofBytes b, ()) := by
  exact beq_ev a b
theorem beq_ok : caseBeq.ok P0 I.bytes_Equal := case_ok2 (H := H.bytes_Equal) (E := env []) (env_ok env_nil) glob0 mixed0 G.bytes_Equal Bd.bytes_Equal (by kernel_rfl) noLoops fun ⟨a, b, ()⟩ y h hw => by
  obtain ⟨hc, rfl⟩ := pick_pre h
  exact beq_val a b
noncomputable abbrev consE5 : List (FuncId × Con) := [(I.cooperageref1_SameRecords, .pure (pureOf [caseSame]))]
theorem consE5_ok : ∀ x ∈ consE5, HoldsC P0 x.1 x.2 := by
  intro x hx
  simp at hx
  subst hx
  exact ⟨pureOf_holds (by simp; exact same_ok), C.cooperageref1_SameRecords⟩
theorem same10_ev (a b : Cmd) : evFn (env consE5) H.cooperageref10_Same (LPof []) F.cooperageref10_Same [valOf cmdT a, valOf cmdT b] [] (finT [.bool]) = Option.bind (bif a.fst == b.fst then bif a.snd.fst == b.snd.fst then bif a.snd.snd.fst == b.snd.snd.fst then bif decide (a.snd.snd.snd.fst = b.snd.snd.snd.fst) then bif a.snd.snd.snd.snd.fst == b.snd.snd.snd.snd.fst then bif a.snd.snd.snd.snd.snd.fst == b.snd.snd.snd.snd.snd.fst then bif a.snd.snd.snd.snd.snd.snd.fst == b.snd.snd.snd.snd.snd.snd.fst then bif a.snd.snd.snd.snd.snd.snd.snd.fst == b.snd.snd.snd.snd.snd.snd.snd.fst then bif a.snd.snd.snd.snd.snd.snd.snd.snd.fst == b.snd.snd.snd.snd.snd.snd.snd.snd.fst then some (a.snd.snd.snd.snd.snd.snd.snd.snd.snd.fst == b.snd.snd.snd.snd.snd.snd.snd.snd.snd.fst && (a.snd.snd.snd.snd.snd.snd.snd.snd.snd.snd.fst == b.snd.snd.snd.snd.snd.snd.snd.snd.snd.snd.fst && (a.snd.snd.snd.snd.snd.snd.snd.snd.snd.snd.snd.fst == b.snd.snd.snd.snd.snd.snd.snd.snd.snd.snd.snd.fst && (a.snd.snd.snd.snd.snd.snd.snd.snd.snd.snd.snd.snd == b.snd.snd.snd.snd.snd.snd.snd.snd.snd.snd.snd.snd && true)))) else some false else some false else some false else some false else some false else some false else some false else some false else some false) fun v => some (v, ()) := by kernel_rfl

def caseSame10 : PCase := ⟨[.ty cmdT, .ty cmdT], [.bool], fun x => (fun (a b : Cmd) => [(true, (decide (a = b), ()))]) x.1 x.2.1⟩
theorem same10_val (a b : Cmd) : evFn (env consE5) H.cooperageref10_Same (LPof []) F.cooperageref10_Same [valOf cmdT a, valOf cmdT b] [] (finT [.bool]) = some (decide (a = b), ()) := by
  rw [same10_ev]; simp only [and_bif, Option.bind_some]
  refine congrArg (fun q => some (q, ())) ?_
  obtain ⟨a1, a2, a3, a4, a5, a6, a7, a8, a9, a10, a11, a12, a13⟩ := a
  obtain ⟨b1, b2, b3, b4, b5, b6, b7, b8, b9, b10, b11, b12, b13⟩ := b
  apply Bool.eq_iff_iff.2
  simp only [Bool.and_eq_true, beq_iff_eq, decide_eq_true_eq, Bool.and_true, Prod.mk.injEq]
theorem same10_ok : caseSame10.ok P0 I.cooperageref10_Same := case_ok2 (H := H.cooperageref10_Same) (E := env consE5) (env_ok consE5_ok) glob0 mixed0 G.cooperageref10_Same Bd.cooperageref10_Same (by kernel_rfl) noLoops fun ⟨a, b, ()⟩ y h hw => by
  obtain ⟨hc, rfl⟩ := pick_pre h
  exact same10_val a b
theorem cput_rd {R : Type} (p : patsDen cmdP) (b : List Int) (l : List Rec) (n i : Int) (K : Ex → St → Option R) : roundK (env consC1) H.command_put 1 (LPof []) V.command_put_24 L.command_put_24 ⟨[(0, .vl u8T b), (89, .vl recT l), (90, .int .i64 n), (91, .int .i64 i)], [(0, .arr 13 .bool [] [patsMk cmdP p])], 1⟩ K = bif decide (i < n) then bif decide ((0 : Int) ≤ i) && decide (i < (↑l.length : Int)) then bif decide (b.length ≤ 140737488350000) then K Ex.normal { slots := [(0, AV.vl (Ty.int IntKind.u8) (putR b (l.getD i.toNat recTy.zero))), (89, AV.vl recTy l), (90, AV.int IntKind.i64 n), (91, AV.int IntKind.i64 (IntKind.i64.wrap (i + (1 : Int))))], objs := [(0, AObj.arr 13 Ty.bool [] [[AV.int IntKind.i64 p.fst, AV.int IntKind.i64 p.snd.fst, AV.int IntKind.i64 p.snd.snd.fst, AV.vl recTy p.snd.snd.snd.fst, AV.str p.snd.snd.snd.snd.fst, AV.int IntKind.i64 p.snd.snd.snd.snd.snd.fst, AV.int IntKind.i64 p.snd.snd.snd.snd.snd.snd.fst, AV.int IntKind.i64 p.snd.snd.snd.snd.snd.snd.snd.fst, AV.int IntKind.u32 p.snd.snd.snd.snd.snd.snd.snd.snd.fst, AV.int IntKind.i64 p.snd.snd.snd.snd.snd.snd.snd.snd.snd.fst, AV.int IntKind.i64 p.snd.snd.snd.snd.snd.snd.snd.snd.snd.snd.fst, AV.int IntKind.i64 p.snd.snd.snd.snd.snd.snd.snd.snd.snd.snd.snd.fst, AV.int IntKind.i64 p.snd.snd.snd.snd.snd.snd.snd.snd.snd.snd.snd.snd.fst]])], nx := 1 } else none else none else K (Ex.exit 3) { slots := [(0, AV.vl (Ty.int IntKind.u8) b), (89, AV.vl recTy l), (90, AV.int IntKind.i64 n), (91, AV.int IntKind.i64 i)], objs := [(0, AObj.arr 13 Ty.bool [] [[AV.int IntKind.i64 p.fst, AV.int IntKind.i64 p.snd.fst, AV.int IntKind.i64 p.snd.snd.fst, AV.vl recTy p.snd.snd.snd.fst, AV.str p.snd.snd.snd.snd.fst, AV.int IntKind.i64 p.snd.snd.snd.snd.snd.fst, AV.int IntKind.i64 p.snd.snd.snd.snd.snd.snd.fst, AV.int IntKind.i64 p.snd.snd.snd.snd.snd.snd.snd.fst, AV.int IntKind.u32 p.snd.snd.snd.snd.snd.snd.snd.snd.fst, AV.int IntKind.i64 p.snd.snd.snd.snd.snd.snd.snd.snd.snd.fst, AV.int IntKind.i64 p.snd.snd.snd.snd.snd.snd.snd.snd.snd.snd.fst, AV.int IntKind.i64 p.snd.snd.snd.snd.snd.snd.snd.snd.snd.snd.snd.fst, AV.int IntKind.i64 p.snd.snd.snd.snd.snd.snd.snd.snd.snd.snd.snd.snd.fst]])], nx := 1 } := by kernel_rfl

def cputSt (p : patsDen cmdP) (b : List Int) (l : List Rec) (i : Nat) : St := ⟨[(0, .vl u8T b), (89, .vl recT l), (90, .int .i64 l.length), (91, .int .i64 i)], [(0, .arr 13 .bool [] [patsMk cmdP p])], 1⟩
theorem cput_rounds {R : Type} (K : Ex → St → Option R) (p : patsDen cmdP) (l : List Rec) (hm : l.length ≤ 9223372036854775807) : ∀ (r : List Rec) (i : Nat) (b : List Int), l.drop i = r → i ≤ l.length → b.length + 2241 * r.length ≤ 140737488350000 →
    ∃ m, rounds (env consC1) H.command_put 1 (LPof []) V.command_put_24 L.command_put_24 m (cputSt p b l i) K = K (.exit 3) (cputSt p (r.foldl putR b) l l.length)
  | [], i, b, hr, hl, hb => by
    have : i = l.length := by have := congrArg List.length hr; simp at this; omega
    refine ⟨1, ?_⟩
    rw [rounds_succ']
    refine (cput_rd p b l _ _ _).trans ?_
    rw [cond_neg (by omega), this]
    rfl
  | c :: r, i, b, hr, hl, hb => by
    have hlt : i < l.length := by have := congrArg List.length hr; simp at this; omega
    have hc : l.getD i recTy.zero = c := by
      have := congrArg (fun l => l.getD 0 recTy.zero) hr
      simpa [List.getD_eq_getElem?_getD] using this
    have hr' : l.drop (i + 1) = r := by rw [show l.drop (i + 1) = (l.drop i).drop 1 by rw [List.drop_drop], hr]; rfl
    rw [List.length_cons] at hb
    have hlen : (putR b c).length ≤ b.length + 2241 := by
      unfold putR
      cases h : recR c with
      | true => have := encR_len h; simp only [cond_true, List.length_append]; omega
      | false => simp only [cond_false]; omega
    obtain ⟨m, hm'⟩ := cput_rounds K p l hm r (i + 1) (putR b c) hr' (by omega) (by omega)
    refine ⟨m + 1, ?_⟩
    rw [rounds_succ']
    refine (cput_rd p b l _ _ _).trans ?_
    rw [cond_pos (by omega), cond_pos2 (by omega) (by omega), cond_pos (by omega), Int.toNat_natCast, hc, wrap64 (by omega) (by omega)]
    exact hm'
abbrev cputLC : LoopC := LoopC.of ⟨[(0, .vl u8T), (89, .vl recT), (90, .int .i64), (91, .int .i64)], [.box 13 [cmdP]]⟩
    (fun x => decide (x.1.2.2.1 = (List.length x.1.2.1 : Int)) && decide (x.1.2.2.2.1 = 0) && decide (x.1.1.length + 2241 * List.length x.1.2.1 ≤ 140737488350000)) fun x => [(true, .exit 3, cputSt x.2.1.1 (List.foldl putR x.1.1 x.1.2.1) x.1.2.1 (List.length x.1.2.1))]
theorem cput_go (p : patsDen cmdP) (b : List Int) (l : List Rec) (hm : l.length ≤ maxL) (hb : b.length + 2241 * l.length ≤ 140737488350000) :
    ∃ n, rounds (env consC1) H.command_put 1 (LPof []) V.command_put_24 L.command_put_24 n (cputSt p b l 0) (fun e s => some (e, s)) = some (.exit 3, cputSt p (l.foldl putR b) l l.length) :=
  cput_rounds (fun e s => some (e, s)) p l hm l 0 b rfl (by omega) hb
theorem cput_lok : LoopOK P0 H.command_put 1 L.command_put_24 cputLC :=
  loop_ok_of (env_ok consC1_ok) glob0 mixed0 noLoops V.command_put_24 (by decide) fun ⟨⟨b, l, n, i, _⟩, ⟨⟨p, _⟩, _⟩⟩ h hw => by
    simp only [Bool.and_eq_true, decide_eq_true_eq] at h
    obtain ⟨⟨rfl, rfl⟩, h3⟩ := h
    exact cput_go p b l hw.1.2.1.1 h3
def setHw (p : patsDen cmdP) (l : Nat) : List AV := (patsMk cmdP p).set 3 (.hw l)
theorem cget_rd2 {R : Type} (p : patsDen cmdP) (b : List Int) (e : Int) (xs : List Rec) (n i : Int) (K : Ex → St → Option R) : roundK (env consC1) H.command_get 3 (LPof []) V.command_get_16 L.command_get_16 ⟨[(0, .ptr 0 (.tl 0) 0), (8, .ptr 1 (.tl 0) 3), (55, .int .i64 n), (56, .int .i64 i)], [(0, .arr 2 .bool [] [[.vl u8T b, .int .i64 e]]), (1, .arr 13 .bool [] [setHw p 2]), (2, .log recT xs)], 3⟩ K = bif decide (i < n) then bif decide ((xs ++ [(getR b).fst]).length * 56 ≤ 140737488355328) then K Ex.normal { slots := [(0, AV.ptr 0 (Elt.tl 0) 0), (8, AV.ptr 1 (Elt.tl 0) 3), (55, AV.int IntKind.i64 n), (56, AV.int IntKind.i64 (IntKind.i64.wrap (i + (1 : Int))))], objs := [(0, AObj.arr 2 Ty.bool [] [[AV.vl (Ty.int IntKind.u8) (List.drop (getR b).snd.fst.toNat b), AV.int IntKind.i64 (bif e == (0 : (Pat.int IntKind.i64).den) then (getR b).snd.snd else e)]]), (1, AObj.arr 13 Ty.bool [] [[AV.int IntKind.i64 p.fst, AV.int IntKind.i64 p.snd.fst, AV.int IntKind.i64 p.snd.snd.fst, AV.hw 3, AV.str p.snd.snd.snd.snd.fst, AV.int IntKind.i64 p.snd.snd.snd.snd.snd.fst, AV.int IntKind.i64 p.snd.snd.snd.snd.snd.snd.fst, AV.int IntKind.i64 p.snd.snd.snd.snd.snd.snd.snd.fst, AV.int IntKind.u32 p.snd.snd.snd.snd.snd.snd.snd.snd.fst, AV.int IntKind.i64 p.snd.snd.snd.snd.snd.snd.snd.snd.snd.fst, AV.int IntKind.i64 p.snd.snd.snd.snd.snd.snd.snd.snd.snd.snd.fst, AV.int IntKind.i64 p.snd.snd.snd.snd.snd.snd.snd.snd.snd.snd.snd.fst, AV.int IntKind.i64 p.snd.snd.snd.snd.snd.snd.snd.snd.snd.snd.snd.snd.fst]]), (2, AObj.dead), (3, AObj.log recTy (xs ++ [(getR b).fst]))], nx := 4 } else none else K (Ex.exit 1) { slots := [(0, AV.ptr 0 (Elt.tl 0) 0), (8, AV.ptr 1 (Elt.tl 0) 3), (55, AV.int IntKind.i64 n), (56, AV.int IntKind.i64 i)], objs := [(0, AObj.arr 2 Ty.bool [] [[AV.vl (Ty.int IntKind.u8) b, AV.int IntKind.i64 e]]), (1, AObj.arr 13 Ty.bool [] [[AV.int IntKind.i64 p.fst, AV.int IntKind.i64 p.snd.fst, AV.int IntKind.i64 p.snd.snd.fst, AV.hw 2, AV.str p.snd.snd.snd.snd.fst, AV.int IntKind.i64 p.snd.snd.snd.snd.snd.fst, AV.int IntKind.i64 p.snd.snd.snd.snd.snd.snd.fst, AV.int IntKind.i64 p.snd.snd.snd.snd.snd.snd.snd.fst, AV.int IntKind.u32 p.snd.snd.snd.snd.snd.snd.snd.snd.fst, AV.int IntKind.i64 p.snd.snd.snd.snd.snd.snd.snd.snd.snd.fst, AV.int IntKind.i64 p.snd.snd.snd.snd.snd.snd.snd.snd.snd.snd.fst, AV.int IntKind.i64 p.snd.snd.snd.snd.snd.snd.snd.snd.snd.snd.snd.fst, AV.int IntKind.i64 p.snd.snd.snd.snd.snd.snd.snd.snd.snd.snd.snd.snd.fst]]), (2, AObj.log recTy xs)], nx := 3 } := by kernel_rfl

theorem cget_rd3 {R : Type} (p : patsDen cmdP) (b : List Int) (e : Int) (xs : List Rec) (n i : Int) (K : Ex → St → Option R) : roundK (env consC1) H.command_get 3 (LPof []) V.command_get_16 L.command_get_16 ⟨[(0, .ptr 0 (.tl 0) 0), (8, .ptr 1 (.tl 0) 3), (55, .int .i64 n), (56, .int .i64 i)], [(0, .arr 2 .bool [] [[.vl u8T b, .int .i64 e]]), (1, .arr 13 .bool [] [setHw p 3]), (2, .dead), (3, .log recT xs)], 4⟩ K = bif decide (i < n) then bif decide ((xs ++ [(getR b).fst]).length * 56 ≤ 140737488355328) then K Ex.normal { slots := [(0, AV.ptr 0 (Elt.tl 0) 0), (8, AV.ptr 1 (Elt.tl 0) 3), (55, AV.int IntKind.i64 n), (56, AV.int IntKind.i64 (IntKind.i64.wrap (i + (1 : Int))))], objs := [(0, AObj.arr 2 Ty.bool [] [[AV.vl (Ty.int IntKind.u8) (List.drop (getR b).snd.fst.toNat b), AV.int IntKind.i64 (bif e == (0 : (Pat.int IntKind.i64).den) then (getR b).snd.snd else e)]]), (1, AObj.arr 13 Ty.bool [] [[AV.int IntKind.i64 p.fst, AV.int IntKind.i64 p.snd.fst, AV.int IntKind.i64 p.snd.snd.fst, AV.hw 3, AV.str p.snd.snd.snd.snd.fst, AV.int IntKind.i64 p.snd.snd.snd.snd.snd.fst, AV.int IntKind.i64 p.snd.snd.snd.snd.snd.snd.fst, AV.int IntKind.i64 p.snd.snd.snd.snd.snd.snd.snd.fst, AV.int IntKind.u32 p.snd.snd.snd.snd.snd.snd.snd.snd.fst, AV.int IntKind.i64 p.snd.snd.snd.snd.snd.snd.snd.snd.snd.fst, AV.int IntKind.i64 p.snd.snd.snd.snd.snd.snd.snd.snd.snd.snd.fst, AV.int IntKind.i64 p.snd.snd.snd.snd.snd.snd.snd.snd.snd.snd.snd.fst, AV.int IntKind.i64 p.snd.snd.snd.snd.snd.snd.snd.snd.snd.snd.snd.snd.fst]]), (2, AObj.dead), (3, AObj.log recTy (xs ++ [(getR b).fst]))], nx := 4 } else none else K (Ex.exit 1) { slots := [(0, AV.ptr 0 (Elt.tl 0) 0), (8, AV.ptr 1 (Elt.tl 0) 3), (55, AV.int IntKind.i64 n), (56, AV.int IntKind.i64 i)], objs := [(0, AObj.arr 2 Ty.bool [] [[AV.vl (Ty.int IntKind.u8) b, AV.int IntKind.i64 e]]), (1, AObj.arr 13 Ty.bool [] [[AV.int IntKind.i64 p.fst, AV.int IntKind.i64 p.snd.fst, AV.int IntKind.i64 p.snd.snd.fst, AV.hw 3, AV.str p.snd.snd.snd.snd.fst, AV.int IntKind.i64 p.snd.snd.snd.snd.snd.fst, AV.int IntKind.i64 p.snd.snd.snd.snd.snd.snd.fst, AV.int IntKind.i64 p.snd.snd.snd.snd.snd.snd.snd.fst, AV.int IntKind.u32 p.snd.snd.snd.snd.snd.snd.snd.snd.fst, AV.int IntKind.i64 p.snd.snd.snd.snd.snd.snd.snd.snd.snd.fst, AV.int IntKind.i64 p.snd.snd.snd.snd.snd.snd.snd.snd.snd.snd.fst, AV.int IntKind.i64 p.snd.snd.snd.snd.snd.snd.snd.snd.snd.snd.snd.fst, AV.int IntKind.i64 p.snd.snd.snd.snd.snd.snd.snd.snd.snd.snd.snd.snd.fst]]), (2, AObj.dead), (3, AObj.log recTy xs)], nx := 4 } := by kernel_rfl

def getS2 (p : patsDen cmdP) (s : RdS) (n i : Int) : St := ⟨[(0, .ptr 0 (.tl 0) 0), (8, .ptr 1 (.tl 0) 3), (55, .int .i64 n), (56, .int .i64 i)], [(0, .arr 2 .bool [] [[.vl u8T s.1, .int .i64 s.2.1]]), (1, .arr 13 .bool [] [setHw p 2]), (2, .log recT s.2.2)], 3⟩
def getS3 (p : patsDen cmdP) (s : RdS) (n i : Int) : St := ⟨[(0, .ptr 0 (.tl 0) 0), (8, .ptr 1 (.tl 0) 3), (55, .int .i64 n), (56, .int .i64 i)], [(0, .arr 2 .bool [] [[.vl u8T s.1, .int .i64 s.2.1]]), (1, .arr 13 .bool [] [setHw p 3]), (2, .dead), (3, .log recT s.2.2)], 4⟩
theorem cget_rounds {R : Type} (K : Ex → St → Option R) (p : patsDen cmdP) (n : Nat) (hn : n ≤ 1000) : ∀ (k i : Nat) (s : RdS), i + k = n → s.2.2.length ≤ 1000000 + i →
    ∃ m, rounds (env consC1) H.command_get 3 (LPof []) V.command_get_16 L.command_get_16 m (getS3 p s n i) K = K (.exit 1) (getS3 p (itR k s) n n)
  | 0, i, s, hi, hx => by
    refine ⟨1, ?_⟩
    rw [rounds_succ']
    refine (cget_rd3 p s.1 s.2.1 s.2.2 _ _ _).trans ?_
    rw [cond_neg (by omega), show (i : Int) = (n : Int) from by omega]
    rfl
  | k + 1, i, s, hi, hx => by
    obtain ⟨m, hm⟩ := cget_rounds K p n hn k (i + 1) (stepR s) (by omega) (by simp only [stepR, List.length_append, List.length_cons, List.length_nil]; omega)
    refine ⟨m + 1, ?_⟩
    rw [rounds_succ']
    refine (cget_rd3 p s.1 s.2.1 s.2.2 _ _ _).trans ?_
    rw [cond_pos (by omega), cond_pos (by simp only [List.length_append, List.length_cons, List.length_nil]; omega), wrap64 (by omega) (by omega)]
    exact hm
theorem cget_rounds2 {R : Type} (K : Ex → St → Option R) (p : patsDen cmdP) (n : Nat) (hn : n ≤ 1000) (s : RdS) (hx : s.2.2.length ≤ 1000000) :
    ∃ m, rounds (env consC1) H.command_get 3 (LPof []) V.command_get_16 L.command_get_16 m (getS2 p s n 0) K = bif decide (n = 0) then K (.exit 1) (getS2 p s n n) else K (.exit 1) (getS3 p (itR n s) n n) := by
  cases n with
  | zero =>
    refine ⟨1, ?_⟩
    rw [rounds_succ']
    refine (cget_rd2 p s.1 s.2.1 s.2.2 _ _ _).trans ?_
    rw [cond_neg (by omega)]
    rfl
  | succ k =>
    obtain ⟨m, hm⟩ := cget_rounds K p (k + 1) hn k 1 (stepR s) (by omega) (by simp only [stepR, List.length_append, List.length_cons, List.length_nil]; omega)
    refine ⟨m + 1, ?_⟩
    rw [rounds_succ']
    refine (cget_rd2 p s.1 s.2.1 s.2.2 _ _ _).trans ?_
    rw [cond_pos (by omega), cond_pos (by simp only [List.length_append, List.length_cons, List.length_nil]; omega), wrap64 (by omega) (by omega)]
    exact hm
end Go.Sim
namespace Go.Sim
set_option linter.unusedSimpArgs false
set_option linter.unusedVariables false
set_option maxRecDepth 10000
abbrev cmdQ (l : Nat) : List Pat := [.int .i64, .int .i64, .int .i64, .lit (.hw l), .str, .int .i64, .int .i64, .int .i64, .int .u32, .int .i64, .int .i64, .int .i64, .int .i64]
abbrev unQ {l : Nat} (x : patsDen (cmdQ l)) : patsDen cmdP := (x.1, x.2.1, x.2.2.1, [], x.2.2.2.2)
abbrev cgetLC : LoopC := LoopC.of ⟨[(0, .lit (.ptr 0 (.tl 0) 0)), (8, .lit (.ptr 1 (.tl 0) 3)), (55, .int .i64), (56, .int .i64)], [.box 2 [[.vl u8T, .int .i64]], .box 13 [cmdQ 2], .log recT]⟩
    (fun x => decide (x.1.2.2.2.1 = 0) && decide (0 ≤ x.1.2.2.1) && decide (x.1.2.2.1 ≤ 1000) && decide (List.length x.2.2.2.1 ≤ 1000000))
    fun x => [(decide (x.1.2.2.1 = 0), .exit 1, getS2 (unQ x.2.2.1.1) (x.2.1.1.1, x.2.1.1.2.1, x.2.2.2.1) x.1.2.2.1 x.1.2.2.1),
      (true, .exit 1, getS3 (unQ x.2.2.1.1) (itR x.1.2.2.1.toNat (x.2.1.1.1, x.2.1.1.2.1, x.2.2.2.1)) x.1.2.2.1 x.1.2.2.1)]
theorem cget_go (p : patsDen cmdP) (s : RdS) (n : Int) (h0 : 0 ≤ n) (hn : n ≤ 1000) (hx : s.2.2.length ≤ 1000000) :
    ∃ m, rounds (env consC1) H.command_get 3 (LPof []) V.command_get_16 L.command_get_16 m (getS2 p s n 0) (fun e s => some (e, s)) = pick [(decide (n = 0), Ex.exit 1, getS2 p s n n), (true, .exit 1, getS3 p (itR n.toNat s) n n)] := by
  obtain ⟨k, rfl⟩ : ∃ k : Nat, n = k := ⟨n.toNat, by omega⟩
  obtain ⟨m, hm⟩ := cget_rounds2 (fun e s => some (e, s)) p k (by omega) s hx
  refine ⟨m, hm.trans ?_⟩
  have e : decide ((k : Int) = 0) = decide (k = 0) := by simp
  simp only [pick, e, Int.toNat_natCast, cond_true]
theorem cget_lok : LoopOK P0 H.command_get 3 L.command_get_16 cgetLC :=
  loop_ok_of (env_ok consC1_ok) glob0 mixed0 noLoops V.command_get_16 (by decide) fun ⟨⟨_, _, n, i, _⟩, ⟨⟨b, e, _⟩, _⟩, ⟨x, _⟩, xs, _⟩ h hw => by
    simp only [Bool.and_eq_true, decide_eq_true_eq] at h
    obtain ⟨⟨⟨rfl, h1⟩, h2⟩, h3⟩ := h
    exact cget_go (unQ x) (b, e, xs) n h1 h2 h3
noncomputable def getLP (R : Type) (k0 : Nat) : Loops R := cond (Nat.beq k0 3) (LPof [(16, cgetLC)]) noLP
noncomputable def putLP (R : Type) (k0 : Nat) : Loops R := cond (Nat.beq k0 1) (mixLP [14] (loopsF (env consC1) H.command_put k0 B.command_put 6) (LPof [(24, cputLC)])) noLP
theorem noLP_good {R : Type} {H : Hint} {k0 : Nat} {c : Code} : LoopsGood P0 H k0 (noLP (R := R)) c := fun b hb s K r h => by cases h
theorem getLP_good (R : Type) (k0 : Nat) : LoopsGood P0 H.command_get k0 (getLP R k0) B.command_get := by
  unfold getLP
  cases h : Nat.beq k0 3 with
  | false => exact noLP_good
  | true =>
    obtain rfl := Nat.eq_of_beq_eq_true h
    exact loops_good (tab := [(16, cgetLC)]) (by kernel_rfl) (fun x hx => by simp at hx; subst hx; exact cget_lok)
theorem putLP_good (R : Type) (k0 : Nat) : LoopsGood P0 H.command_put k0 (putLP R k0) B.command_put := by
  unfold putLP
  cases h : Nat.beq k0 1 with
  | false => exact noLP_good
  | true =>
    obtain rfl := Nat.eq_of_beq_eq_true h
    exact mixLP_good (loopsF_good (env_ok consC1_ok) glob0 mixed0 (by kernel_rfl) 6) (loops_good (tab := [(24, cputLC)]) (by kernel_rfl) (fun x hx => by simp at hx; subst hx; exact cput_lok))
noncomputable abbrev consC2 : List (FuncId × Con) := [(I.command_fields, inl (env []) H.command_fields F.command_fields (fun R _ => noLP)), (I.command_put, inl (env consC1) H.command_put F.command_put putLP), (I.command_get, inl (env consC1) H.command_get F.command_get getLP),
  (I.command_Right, .pure (pureOf [caseCright])), (I.bytes_Equal, .pure (pureOf [caseBeq]))] ++ consC1
theorem consC2_ok : ∀ x ∈ consC2, HoldsC P0 x.1 x.2 := by
  intro x hx
  rcases List.mem_append.1 hx with hx | hx
  · simp at hx
    rcases hx with rfl | rfl | rfl | rfl | rfl
    · exact inl_ok (env_ok env_nil) glob0 mixed0 G.command_fields Bd.command_fields C.command_fields (fun R k0 => noLP_good)
    · exact inl_ok (env_ok consC1_ok) glob0 mixed0 G.command_put Bd.command_put C.command_put putLP_good
    · exact inl_ok (env_ok consC1_ok) glob0 mixed0 G.command_get Bd.command_get C.command_get getLP_good
    · exact ⟨pureOf_holds (by simp; exact cright_ok), C.command_Right⟩
    · exact ⟨pureOf_holds (by simp; exact beq_ok), C.bytes_Equal⟩
  · exact consC1_ok x hx
theorem cbytes_ev (c : Cmd) : evFn (env consC2) H.command_Bytes (loopsF (env consC2) H.command_Bytes 0 B.command_Bytes 6) F.command_Bytes [valOf cmdT c] [] (finT [.sl u8T]) = bif !rightC c then some ([], ()) else bif c.fst == (1 : Int) then bif decide (List.length ([] ++ putN (foldV c.fst).toNat) ≤ 140737488355000) then bif decide (List.length ([] ++ putN (foldV c.fst).toNat ++ putN (foldV c.snd.fst).toNat) ≤ 140737488355000) then bif decide (List.length ([] ++ putN (foldV c.fst).toNat ++ putN (foldV c.snd.fst).toNat ++ putN (foldV c.snd.snd.fst).toNat) ≤ 140737488355000) then bif decide ((↑(List.length c.snd.snd.snd.fst) : Int) = (↑(List.length c.snd.snd.snd.fst) : Int)) && true && decide (List.length ([] ++ putN (foldV c.fst).toNat ++ putN (foldV c.snd.fst).toNat ++ putN (foldV c.snd.snd.fst).toNat ++ putN (IntKind.u64.wrap (↑(List.length c.snd.snd.snd.fst) : Int)).toNat) + 2241 * List.length c.snd.snd.snd.fst ≤ 140737488350000) && true then some (List.foldl putR ([] ++ putN (foldV c.fst).toNat ++ putN (foldV c.snd.fst).toNat ++ putN (foldV c.snd.snd.fst).toNat ++ putN (IntKind.u64.wrap (↑(List.length c.snd.snd.snd.fst) : Int)).toNat) c.snd.snd.snd.fst, ()) else none else none else none else none else bif c.fst == (2 : Int) then bif decide (List.length ([] ++ putN (foldV c.fst).toNat) ≤ 140737488355000) then bif decide (List.length ([] ++ putN (foldV c.fst).toNat ++ putN (foldV c.snd.snd.snd.snd.snd.fst).toNat) ≤ 140737488355000) then some ([] ++ putN (foldV c.fst).toNat ++ putN (foldV c.snd.snd.snd.snd.snd.fst).toNat ++ putN (foldV c.snd.snd.snd.snd.snd.snd.fst).toNat, ()) else none else none else bif c.fst == (3 : Int) then bif decide (List.length ([] ++ putN (foldV c.fst).toNat) + (bytesOf c.snd.snd.snd.snd.fst).length ≤ 140737488355000) then bif decide (List.length ([] ++ putN (foldV c.fst).toNat ++ putN (bytesOf c.snd.snd.snd.snd.fst).length ++ bytesOf c.snd.snd.snd.snd.fst) ≤ 140737488355000) then some ([] ++ putN (foldV c.fst).toNat ++ putN (bytesOf c.snd.snd.snd.snd.fst).length ++ bytesOf c.snd.snd.snd.snd.fst ++ putN (foldV c.snd.snd.snd.snd.snd.fst).toNat, ()) else none else none else bif c.fst == (4 : Int) then bif decide (List.length ([] ++ putN (foldV c.fst).toNat) + (bytesOf c.snd.snd.snd.snd.fst).length ≤ 140737488355000) then some ([] ++ putN (foldV c.fst).toNat ++ putN (bytesOf c.snd.snd.snd.snd.fst).length ++ bytesOf c.snd.snd.snd.snd.fst, ()) else none else Option.bind (bif c.fst == (5 : Int) then some (c.fst == (5 : Int), ()) else some (c.fst == (9 : Int), ())) fun v => bif v.fst then bif decide (List.length ([] ++ putN (foldV c.fst).toNat) ≤ 140737488355000) then some ([] ++ putN (foldV c.fst).toNat ++ putN (foldV c.snd.snd.snd.snd.snd.snd.snd.fst).toNat, ()) else none else bif c.fst == (6 : Int) then bif decide (List.length ([] ++ putN (foldV c.fst).toNat) ≤ 140737488355000) then bif decide (List.length ([] ++ putN (foldV c.fst).toNat ++ putN (foldV c.snd.snd.snd.snd.snd.snd.snd.snd.snd.fst).toNat) ≤ 140737488355000) then bif decide (List.length ([] ++ putN (foldV c.fst).toNat ++ putN (foldV c.snd.snd.snd.snd.snd.snd.snd.snd.snd.fst).toNat ++ putN (foldV c.snd.snd.snd.snd.snd.snd.snd.snd.snd.snd.fst).toNat) ≤ 140737488355000) then bif decide (List.length ([] ++ putN (foldV c.fst).toNat ++ putN (foldV c.snd.snd.snd.snd.snd.snd.snd.snd.snd.fst).toNat ++ putN (foldV c.snd.snd.snd.snd.snd.snd.snd.snd.snd.snd.fst).toNat ++ putN (foldV c.snd.snd.snd.snd.snd.snd.snd.snd.snd.snd.snd.fst).toNat) ≤ 140737488355000) then some ([] ++ putN (foldV c.fst).toNat ++ putN (foldV c.snd.snd.snd.snd.snd.snd.snd.snd.snd.fst).toNat ++ putN (foldV c.snd.snd.snd.snd.snd.snd.snd.snd.snd.snd.fst).toNat ++ putN (foldV c.snd.snd.snd.snd.snd.snd.snd.snd.snd.snd.snd.fst).toNat ++ putN (foldV c.snd.snd.snd.snd.snd.snd.snd.snd.snd.snd.snd.snd).toNat, ()) else none else none else none else none else bif c.fst == (8 : Int) then bif decide (List.length ([] ++ putN (foldV c.fst).toNat) ≤ 140737488355000) then bif decide (List.length ([] ++ putN (foldV c.fst).toNat ++ putN (foldV c.snd.snd.snd.snd.snd.fst).toNat) ≤ 140737488355000) then some ([] ++ putN (foldV c.fst).toNat ++ putN (foldV c.snd.snd.snd.snd.snd.fst).toNat ++ putN (foldV c.snd.snd.snd.snd.snd.snd.snd.fst).toNat, ()) else none else none else bif c.fst == (11 : Int) then bif decide (List.length ([] ++ putN (foldV c.fst).toNat) ≤ 140737488355000) then bif decide (List.length ([] ++ putN (foldV c.fst).toNat ++ putN (foldV c.snd.snd.snd.snd.snd.fst).toNat) ≤ 140737488355000) then bif decide (List.length ([] ++ putN (foldV c.fst).toNat ++ putN (foldV c.snd.snd.snd.snd.snd.fst).toNat ++ putN (foldV c.snd.snd.fst).toNat) ≤ 140737488355000) then bif decide (List.length ([] ++ putN (foldV c.fst).toNat ++ putN (foldV c.snd.snd.snd.snd.snd.fst).toNat ++ putN (foldV c.snd.snd.fst).toNat ++ putN (foldV c.snd.snd.snd.snd.snd.snd.fst).toNat) ≤ 140737488355000) then some ([] ++ putN (foldV c.fst).toNat ++ putN (foldV c.snd.snd.snd.snd.snd.fst).toNat ++ putN (foldV c.snd.snd.fst).toNat ++ putN (foldV c.snd.snd.snd.snd.snd.snd.fst).toNat ++ putN (IntKind.u64.wrap c.snd.snd.snd.snd.snd.snd.snd.snd.fst).toNat, ()) else none else none else none else none else some ([] ++ putN (foldV c.fst).toNat, ()) := by kernel_rfl

theorem dec1_four (l : List UInt8) : (dec1 l).2 ≤ 4 := by
  unfold dec1
  repeat' split
  all_goals simp
theorem cnt_four : ∀ (m : Nat) (l : List UInt8), l.length ≤ m → l.length ≤ 4 * cnt l
  | 0, l, h => by omega
  | m + 1, l, h => by
    by_cases hl : l = []
    · subst hl; simp
    · have h1 := dec1_four l
      have h2 := dec1_pos l
      have hpos : 1 ≤ l.length := by cases l with | nil => exact absurd rfl hl | cons a b => simp
      rw [cnt_cons l hl]
      have := cnt_four m (l.drop (dec1 l).2) (by simp only [List.length_drop]; omega)
      simp only [List.length_drop] at this
      omega
theorem valid_short {s : List UInt8} (h : validL s = true) : s.length ≤ 160 := by
  unfold validL at h
  simp only [Bool.and_eq_true, decide_eq_true_eq] at h
  have := cnt_four s.length s (Nat.le_refl _)
  omega
theorem putI_len {n : Int} (h : In .i64 n) : (putN (foldV n).toNat).length ≤ 10 := by
  have := In.i64.1 h
  have hf := fold_in this.1 this.2
  exact putN_len (by omega)
theorem wrapu32' {n : Int} (h : In .u32 n) : IntKind.u64.wrap n = n := by have := In.u32.1 h; exact wrapu64 (by omega) (by omega)
def caseBytes : PCase := ⟨[.ty cmdT], [.sl u8T], fun x => (fun (c : Cmd) => [(true, (bytesC c, ()))]) x.1⟩
theorem cbytes_val (c : Cmd) (hw : wfT cmdT c) : evFn (env consC2) H.command_Bytes (loopsF (env consC2) H.command_Bytes 0 B.command_Bytes 6) F.command_Bytes [valOf cmdT c] [] (finT [.sl u8T]) = some (bytesC c, ()) := by
  rw [cbytes_ev]
  unfold bytesC
  cases hr : rightC c with
  | false => rfl
  | true =>
    obtain ⟨a1, a2, a3, a4, a5, a6, a7, a8, a9, a10, a11, a12, a13⟩ := c
    obtain ⟨w1, w2, w3, w4, w5, w6, w7, w8, w9, w10, w11, w12, w13⟩ := hw
    have h1 : (putN (foldV a1).toNat).length ≤ 10 := putI_len w1
    have h2 : (putN (foldV a2).toNat).length ≤ 10 := putI_len w2
    have h3 : (putN (foldV a3).toNat).length ≤ 10 := putI_len w3
    have h6 : (putN (foldV a6).toNat).length ≤ 10 := putI_len w6
    have h7 : (putN (foldV a7).toNat).length ≤ 10 := putI_len w7
    have h8 : (putN (foldV a8).toNat).length ≤ 10 := putI_len w8
    have h10 : (putN (foldV a10).toNat).length ≤ 10 := putI_len w10
    have h11 : (putN (foldV a11).toNat).length ≤ 10 := putI_len w11
    have h12 : (putN (foldV a12).toNat).length ≤ 10 := putI_len w12
    have h13 : (putN (foldV a13).toNat).length ≤ 10 := putI_len w13
    have v9 : In .u32 a9 := w9
    have k9 := In.u32.1 v9
    clear w1 w2 w3 w4 w5 w6 w7 w8 w9 w10 w11 w12 w13
    have hb : (bytesOf a5).length = a5.length := by simp [bytesOf]
    unfold rightC at hr
    unfold encC
    simp only [Bool.not_true, cond_false, cond_true, putI, putC, putT, putL, hb] at hr ⊢
    by_cases e : a1 = 1
    · subst e
      simp only [Int.reduceBEq, Bool.or_false, Bool.false_or, Bool.or_self, Bool.or_true, Bool.true_or, cond_true, cond_false, Bool.and_eq_true, recsB, withinB, decide_eq_true_eq, Option.bind_some] at hr ⊢
      have hl : a4.length ≤ 50 := by omega
      have h9 := putN_len (n := a4.length) (by omega)
      rw [wrapu64 (by omega) (by omega), Int.toNat_natCast]
      rw [cond_pos (by simp only [List.length_append, List.length_nil]; omega), cond_pos (by simp only [List.length_append, List.length_nil]; omega), cond_pos (by simp only [List.length_append, List.length_nil]; omega)]
      simp only [decide_true, Bool.and_true, Bool.true_and]
      rw [cond_pos (by simp only [List.length_append, List.length_nil]; omega)]
    by_cases e : a1 = 2
    · subst e
      simp only [Int.reduceBEq, Bool.or_false, Bool.false_or, Bool.or_self, Bool.or_true, Bool.true_or, cond_true, cond_false, Bool.and_eq_true, recsB, withinB, decide_eq_true_eq, Option.bind_some] at hr ⊢
      rw [cond_pos (by simp only [List.length_append, List.length_nil]; omega), cond_pos (by simp only [List.length_append, List.length_nil]; omega)]
    by_cases e : a1 = 3
    · subst e
      simp only [Int.reduceBEq, Bool.or_false, Bool.false_or, Bool.or_self, Bool.or_true, Bool.true_or, cond_true, cond_false, Bool.and_eq_true, recsB, withinB, decide_eq_true_eq, Option.bind_some] at hr ⊢
      have hl := valid_short hr.2.2
      have h9 := putN_len (n := a5.length) (by omega)
      rw [cond_pos (by simp only [List.length_append, List.length_nil, hb]; omega), cond_pos (by simp only [List.length_append, List.length_nil, hb]; omega)]
    by_cases e : a1 = 4
    · subst e
      simp only [Int.reduceBEq, Bool.or_false, Bool.false_or, Bool.or_self, Bool.or_true, Bool.true_or, cond_true, cond_false, Bool.and_eq_true, recsB, withinB, decide_eq_true_eq, Option.bind_some] at hr ⊢
      have hl := valid_short hr.2
      rw [cond_pos (by simp only [List.length_append, List.length_nil, hb]; omega)]
    have e1 : (a1 == 1) = false := by simpa using ‹¬a1 = 1›
    have e2 : (a1 == 2) = false := by simpa using ‹¬a1 = 2›
    have e3 : (a1 == 3) = false := by simpa using ‹¬a1 = 3›
    have e4 : (a1 == 4) = false := by simpa using ‹¬a1 = 4›
    simp only [e1, e2, e3, e4, cond_false] at hr ⊢
    by_cases e : a1 = 5
    · subst e
      simp only [Int.reduceBEq, Bool.or_false, Bool.false_or, Bool.or_self, Bool.or_true, Bool.true_or, cond_true, cond_false, Bool.and_eq_true, recsB, withinB, decide_eq_true_eq, Option.bind_some] at hr ⊢
      rw [cond_pos (by simp only [List.length_append, List.length_nil]; omega)]
    have e5 : (a1 == 5) = false := by simpa using e
    simp only [e5, cond_false, Bool.false_or, Option.bind_some] at hr ⊢
    by_cases e : a1 = 9
    · subst e
      simp only [Int.reduceBEq, Bool.or_false, Bool.false_or, Bool.or_self, Bool.or_true, Bool.true_or, cond_true, cond_false, Bool.and_eq_true, recsB, withinB, decide_eq_true_eq, Option.bind_some] at hr ⊢
      rw [cond_pos (by simp only [List.length_append, List.length_nil]; omega)]
    have e9 : (a1 == 9) = false := by simpa using e
    simp only [e9, cond_false] at hr ⊢
    by_cases e : a1 = 6
    · subst e
      simp only [Int.reduceBEq, Bool.or_false, Bool.false_or, Bool.or_self, Bool.or_true, Bool.true_or, cond_true, cond_false, Bool.and_eq_true, recsB, withinB, decide_eq_true_eq, Option.bind_some] at hr ⊢
      rw [cond_pos (by simp only [List.length_append, List.length_nil]; omega), cond_pos (by simp only [List.length_append, List.length_nil]; omega), cond_pos (by simp only [List.length_append, List.length_nil]; omega), cond_pos (by simp only [List.length_append, List.length_nil]; omega)]
    have e6 : (a1 == 6) = false := by simpa using e
    simp only [e6, cond_false] at hr ⊢
    by_cases e : a1 = 8
    · subst e
      simp only [Int.reduceBEq, Bool.or_false, Bool.false_or, Bool.or_self, Bool.or_true, Bool.true_or, cond_true, cond_false, Bool.and_eq_true, recsB, withinB, decide_eq_true_eq, Option.bind_some] at hr ⊢
      rw [cond_pos (by simp only [List.length_append, List.length_nil]; omega), cond_pos (by simp only [List.length_append, List.length_nil]; omega)]
    have e8 : (a1 == 8) = false := by simpa using e
    simp only [e8, cond_false] at hr ⊢
    by_cases e : a1 = 11
    · subst e
      simp only [Int.reduceBEq, Bool.or_false, Bool.false_or, Bool.or_self, Bool.or_true, Bool.true_or, cond_true, cond_false, Bool.and_eq_true, recsB, withinB, decide_eq_true_eq, Option.bind_some] at hr ⊢
      rw [cond_pos (by simp only [List.length_append, List.length_nil]; omega), cond_pos (by simp only [List.length_append, List.length_nil]; omega), cond_pos (by simp only [List.length_append, List.length_nil]; omega), cond_pos (by simp only [List.length_append, List.length_nil]; omega), wrapu32' v9]
    have e11 : (a1 == 11) = false := by simpa using e
    simp only [e11, cond_false] at hr ⊢
theorem cbytes_ok : caseBytes.ok P0 I.command_Bytes := case_ok2 (H := H.command_Bytes) (E := env consC2) (env_ok consC2_ok) glob0 mixed0 G.command_Bytes Bd.command_Bytes (by kernel_rfl) (loopsF_good (env_ok consC2_ok) glob0 mixed0 (by kernel_rfl) 6) fun ⟨c, ()⟩ y h hw => by
  obtain ⟨hc, rfl⟩ := pick_pre h
  exact cbytes_val c hw.1
end Go.Sim
namespace Go.Sim
set_option linter.unusedSimpArgs false
set_option linter.unusedVariables false
set_option maxRecDepth 10000
noncomputable abbrev consC3 : List (FuncId × Con) := [(I.command_Bytes, .pure (pureOf [caseBytes]))] ++ consC2
theorem consC3_ok : ∀ x ∈ consC3, HoldsC P0 x.1 x.2 := by
  intro x hx
  rcases List.mem_append.1 hx with hx | hx
  · simp at hx
    subst hx
    exact ⟨pureOf_holds (by simp; exact cbytes_ok), C.command_Bytes⟩
  · exact consC2_ok x hx
theorem cread_ev (b : List Int) : evFn (env consC3) H.command_Read (loopsF (env consC3) H.command_Read 0 B.command_Read 6) F.command_Read [.vl u8T b] [] (finT [cmdT, .int .i64]) = bif unfoldV (numP (b, (0 : (Pat.int IntKind.i64).den))).fst == (1 : Int) then bif decide ((0 : (Pat.int IntKind.i64).den) ≤ bif decide ((51 : Int) < (countP (numP (numP (numP (b, (0 : (Pat.int IntKind.i64).den))).snd).snd).snd).fst) then (51 : Int) else (countP (numP (numP (numP (b, (0 : (Pat.int IntKind.i64).den))).snd).snd).snd).fst) && decide ((bif decide ((51 : Int) < (countP (numP (numP (numP (b, (0 : (Pat.int IntKind.i64).den))).snd).snd).snd).fst) then (51 : Int) else (countP (numP (numP (numP (b, (0 : (Pat.int IntKind.i64).den))).snd).snd).snd).fst) ≤ (1000 : (Pat.int IntKind.i64).den)) && true && decide ((bif decide ((51 : Int) < (countP (numP (numP (numP (b, (0 : (Pat.int IntKind.i64).den))).snd).snd).snd).fst) then (51 : Int) else (countP (numP (numP (numP (b, (0 : (Pat.int IntKind.i64).den))).snd).snd).snd).fst) = (0 : (Pat.int IntKind.i64).den)) then bif !((countP (numP (numP (numP (b, (0 : (Pat.int IntKind.i64).den))).snd).snd).snd).snd.snd == (0 : (Pat.int IntKind.i64).den) && (↑(countP (numP (numP (numP (b, (0 : (Pat.int IntKind.i64).den))).snd).snd).snd).snd.fst.length : Int) == (0 : Int)) then some (((0 : Int), (0 : Int), (0 : Int), [], [], (0 : Int), (0 : Int), (0 : Int), (0 : Int), (0 : Int), (0 : Int), (0 : Int), (0 : Int)), (2 : Int), ()) else bif !rightC (unfoldV (numP (b, (0 : (Pat.int IntKind.i64).den))).fst, unfoldV (numP (numP (b, (0 : (Pat.int IntKind.i64).den))).snd).fst, unfoldV (numP (numP (numP (b, (0 : (Pat.int IntKind.i64).den))).snd).snd).fst, [], [], (0 : Int), (0 : Int), (0 : Int), (0 : Int), (0 : Int), (0 : Int), (0 : Int), (0 : Int)) then some (((0 : Int), (0 : Int), (0 : Int), [], [], (0 : Int), (0 : Int), (0 : Int), (0 : Int), (0 : Int), (0 : Int), (0 : Int), (0 : Int)), (2 : Int), ()) else bif !ofBytes (bytesC (unfoldV (numP (b, (0 : (Pat.int IntKind.i64).den))).fst, unfoldV (numP (numP (b, (0 : (Pat.int IntKind.i64).den))).snd).fst, unfoldV (numP (numP (numP (b, (0 : (Pat.int IntKind.i64).den))).snd).snd).fst, [], [], (0 : Int), (0 : Int), (0 : Int), (0 : Int), (0 : Int), (0 : Int), (0 : Int), (0 : Int))) == ofBytes b then some (((0 : Int), (0 : Int), (0 : Int), [], [], (0 : Int), (0 : Int), (0 : Int), (0 : Int), (0 : Int), (0 : Int), (0 : Int), (0 : Int)), (2 : Int), ()) else some ((unfoldV (numP (b, (0 : (Pat.int IntKind.i64).den))).fst, unfoldV (numP (numP (b, (0 : (Pat.int IntKind.i64).den))).snd).fst, unfoldV (numP (numP (numP (b, (0 : (Pat.int IntKind.i64).den))).snd).snd).fst, [], [], (0 : Int), (0 : Int), (0 : Int), (0 : Int), (0 : Int), (0 : Int), (0 : Int), (0 : Int)), (0 : Int), ()) else bif decide ((0 : (Pat.int IntKind.i64).den) ≤ bif decide ((51 : Int) < (countP (numP (numP (numP (b, (0 : (Pat.int IntKind.i64).den))).snd).snd).snd).fst) then (51 : Int) else (countP (numP (numP (numP (b, (0 : (Pat.int IntKind.i64).den))).snd).snd).snd).fst) && decide ((bif decide ((51 : Int) < (countP (numP (numP (numP (b, (0 : (Pat.int IntKind.i64).den))).snd).snd).snd).fst) then (51 : Int) else (countP (numP (numP (numP (b, (0 : (Pat.int IntKind.i64).den))).snd).snd).snd).fst) ≤ (1000 : (Pat.int IntKind.i64).den)) && true && true then bif !((itR (bif decide ((51 : Int) < (countP (numP (numP (numP (b, (0 : (Pat.int IntKind.i64).den))).snd).snd).snd).fst) then (51 : Int) else (countP (numP (numP (numP (b, (0 : (Pat.int IntKind.i64).den))).snd).snd).snd).fst).toNat ((countP (numP (numP (numP (b, (0 : (Pat.int IntKind.i64).den))).snd).snd).snd).snd.fst, (countP (numP (numP (numP (b, (0 : (Pat.int IntKind.i64).den))).snd).snd).snd).snd.snd, [])).snd.fst == (0 : (Pat.int IntKind.i64).den) && (↑(itR (bif decide ((51 : Int) < (countP (numP (numP (numP (b, (0 : (Pat.int IntKind.i64).den))).snd).snd).snd).fst) then (51 : Int) else (countP (numP (numP (numP (b, (0 : (Pat.int IntKind.i64).den))).snd).snd).snd).fst).toNat ((countP (numP (numP (numP (b, (0 : (Pat.int IntKind.i64).den))).snd).snd).snd).snd.fst, (countP (numP (numP (numP (b, (0 : (Pat.int IntKind.i64).den))).snd).snd).snd).snd.snd, [])).fst.length : Int) == (0 : Int)) then some (((0 : Int), (0 : Int), (0 : Int), [], [], (0 : Int), (0 : Int), (0 : Int), (0 : Int), (0 : Int), (0 : Int), (0 : Int), (0 : Int)), (2 : Int), ()) else bif !rightC (unfoldV (numP (b, (0 : (Pat.int IntKind.i64).den))).fst, unfoldV (numP (numP (b, (0 : (Pat.int IntKind.i64).den))).snd).fst, unfoldV (numP (numP (numP (b, (0 : (Pat.int IntKind.i64).den))).snd).snd).fst, (itR (bif decide ((51 : Int) < (countP (numP (numP (numP (b, (0 : (Pat.int IntKind.i64).den))).snd).snd).snd).fst) then (51 : Int) else (countP (numP (numP (numP (b, (0 : (Pat.int IntKind.i64).den))).snd).snd).snd).fst).toNat ((countP (numP (numP (numP (b, (0 : (Pat.int IntKind.i64).den))).snd).snd).snd).snd.fst, (countP (numP (numP (numP (b, (0 : (Pat.int IntKind.i64).den))).snd).snd).snd).snd.snd, [])).snd.snd, [], (0 : Int), (0 : Int), (0 : Int), (0 : Int), (0 : Int), (0 : Int), (0 : Int), (0 : Int)) then some (((0 : Int), (0 : Int), (0 : Int), [], [], (0 : Int), (0 : Int), (0 : Int), (0 : Int), (0 : Int), (0 : Int), (0 : Int), (0 : Int)), (2 : Int), ()) else bif !ofBytes (bytesC (unfoldV (numP (b, (0 : (Pat.int IntKind.i64).den))).fst, unfoldV (numP (numP (b, (0 : (Pat.int IntKind.i64).den))).snd).fst, unfoldV (numP (numP (numP (b, (0 : (Pat.int IntKind.i64).den))).snd).snd).fst, (itR (bif decide ((51 : Int) < (countP (numP (numP (numP (b, (0 : (Pat.int IntKind.i64).den))).snd).snd).snd).fst) then (51 : Int) else (countP (numP (numP (numP (b, (0 : (Pat.int IntKind.i64).den))).snd).snd).snd).fst).toNat ((countP (numP (numP (numP (b, (0 : (Pat.int IntKind.i64).den))).snd).snd).snd).snd.fst, (countP (numP (numP (numP (b, (0 : (Pat.int IntKind.i64).den))).snd).snd).snd).snd.snd, [])).snd.snd, [], (0 : Int), (0 : Int), (0 : Int), (0 : Int), (0 : Int), (0 : Int), (0 : Int), (0 : Int))) == ofBytes b then some (((0 : Int), (0 : Int), (0 : Int), [], [], (0 : Int), (0 : Int), (0 : Int), (0 : Int), (0 : Int), (0 : Int), (0 : Int), (0 : Int)), (2 : Int), ()) else some ((unfoldV (numP (b, (0 : (Pat.int IntKind.i64).den))).fst, unfoldV (numP (numP (b, (0 : (Pat.int IntKind.i64).den))).snd).fst, unfoldV (numP (numP (numP (b, (0 : (Pat.int IntKind.i64).den))).snd).snd).fst, (itR (bif decide ((51 : Int) < (countP (numP (numP (numP (b, (0 : (Pat.int IntKind.i64).den))).snd).snd).snd).fst) then (51 : Int) else (countP (numP (numP (numP (b, (0 : (Pat.int IntKind.i64).den))).snd).snd).snd).fst).toNat ((countP (numP (numP (numP (b, (0 : (Pat.int IntKind.i64).den))).snd).snd).snd).snd.fst, (countP (numP (numP (numP (b, (0 : (Pat.int IntKind.i64).den))).snd).snd).snd).snd.snd, [])).snd.snd, [], (0 : Int), (0 : Int), (0 : Int), (0 : Int), (0 : Int), (0 : Int), (0 : Int), (0 : Int)), (0 : Int), ()) else none else bif unfoldV (numP (b, (0 : (Pat.int IntKind.i64).den))).fst == (2 : Int) then bif !((numP (numP (numP (b, (0 : (Pat.int IntKind.i64).den))).snd).snd).snd.snd == (0 : (Pat.int IntKind.i64).den) && (↑(numP (numP (numP (b, (0 : (Pat.int IntKind.i64).den))).snd).snd).snd.fst.length : Int) == (0 : Int)) then some (((0 : Int), (0 : Int), (0 : Int), [], [], (0 : Int), (0 : Int), (0 : Int), (0 : Int), (0 : Int), (0 : Int), (0 : Int), (0 : Int)), (2 : Int), ()) else bif !rightC (unfoldV (numP (b, (0 : (Pat.int IntKind.i64).den))).fst, (0 : Int), (0 : Int), [], [], unfoldV (numP (numP (b, (0 : (Pat.int IntKind.i64).den))).snd).fst, unfoldV (numP (numP (numP (b, (0 : (Pat.int IntKind.i64).den))).snd).snd).fst, (0 : Int), (0 : Int), (0 : Int), (0 : Int), (0 : Int), (0 : Int)) then some (((0 : Int), (0 : Int), (0 : Int), [], [], (0 : Int), (0 : Int), (0 : Int), (0 : Int), (0 : Int), (0 : Int), (0 : Int), (0 : Int)), (2 : Int), ()) else bif !ofBytes (bytesC (unfoldV (numP (b, (0 : (Pat.int IntKind.i64).den))).fst, (0 : Int), (0 : Int), [], [], unfoldV (numP (numP (b, (0 : (Pat.int IntKind.i64).den))).snd).fst, unfoldV (numP (numP (numP (b, (0 : (Pat.int IntKind.i64).den))).snd).snd).fst, (0 : Int), (0 : Int), (0 : Int), (0 : Int), (0 : Int), (0 : Int))) == ofBytes b then some (((0 : Int), (0 : Int), (0 : Int), [], [], (0 : Int), (0 : Int), (0 : Int), (0 : Int), (0 : Int), (0 : Int), (0 : Int), (0 : Int)), (2 : Int), ()) else some ((unfoldV (numP (b, (0 : (Pat.int IntKind.i64).den))).fst, (0 : Int), (0 : Int), [], [], unfoldV (numP (numP (b, (0 : (Pat.int IntKind.i64).den))).snd).fst, unfoldV (numP (numP (numP (b, (0 : (Pat.int IntKind.i64).den))).snd).snd).fst, (0 : Int), (0 : Int), (0 : Int), (0 : Int), (0 : Int), (0 : Int)), (0 : Int), ()) else bif unfoldV (numP (b, (0 : (Pat.int IntKind.i64).den))).fst == (3 : Int) then bif decide ((numP (b, (0 : (Pat.int IntKind.i64).den))).snd.fst.length ≤ 140737488355328) then bif !((numP (bytesP (numP (b, (0 : (Pat.int IntKind.i64).den))).snd).snd).snd.snd == (0 : (Pat.int IntKind.i64).den) && (↑(numP (bytesP (numP (b, (0 : (Pat.int IntKind.i64).den))).snd).snd).snd.fst.length : Int) == (0 : Int)) then some (((0 : Int), (0 : Int), (0 : Int), [], [], (0 : Int), (0 : Int), (0 : Int), (0 : Int), (0 : Int), (0 : Int), (0 : Int), (0 : Int)), (2 : Int), ()) else bif !rightC (unfoldV (numP (b, (0 : (Pat.int IntKind.i64).den))).fst, (0 : Int), (0 : Int), [], ofBytes (bytesP (numP (b, (0 : (Pat.int IntKind.i64).den))).snd).fst, unfoldV (numP (bytesP (numP (b, (0 : (Pat.int IntKind.i64).den))).snd).snd).fst, (0 : Int), (0 : Int), (0 : Int), (0 : Int), (0 : Int), (0 : Int), (0 : Int)) then some (((0 : Int), (0 : Int), (0 : Int), [], [], (0 : Int), (0 : Int), (0 : Int), (0 : Int), (0 : Int), (0 : Int), (0 : Int), (0 : Int)), (2 : Int), ()) else bif !ofBytes (bytesC (unfoldV (numP (b, (0 : (Pat.int IntKind.i64).den))).fst, (0 : Int), (0 : Int), [], ofBytes (bytesP (numP (b, (0 : (Pat.int IntKind.i64).den))).snd).fst, unfoldV (numP (bytesP (numP (b, (0 : (Pat.int IntKind.i64).den))).snd).snd).fst, (0 : Int), (0 : Int), (0 : Int), (0 : Int), (0 : Int), (0 : Int), (0 : Int))) == ofBytes b then some (((0 : Int), (0 : Int), (0 : Int), [], [], (0 : Int), (0 : Int), (0 : Int), (0 : Int), (0 : Int), (0 : Int), (0 : Int), (0 : Int)), (2 : Int), ()) else some ((unfoldV (numP (b, (0 : (Pat.int IntKind.i64).den))).fst, (0 : Int), (0 : Int), [], ofBytes (bytesP (numP (b, (0 : (Pat.int IntKind.i64).den))).snd).fst, unfoldV (numP (bytesP (numP (b, (0 : (Pat.int IntKind.i64).den))).snd).snd).fst, (0 : Int), (0 : Int), (0 : Int), (0 : Int), (0 : Int), (0 : Int), (0 : Int)), (0 : Int), ()) else none else bif unfoldV (numP (b, (0 : (Pat.int IntKind.i64).den))).fst == (4 : Int) then bif decide ((numP (b, (0 : (Pat.int IntKind.i64).den))).snd.fst.length ≤ 140737488355328) then bif !((bytesP (numP (b, (0 : (Pat.int IntKind.i64).den))).snd).snd.snd == (0 : (Pat.int IntKind.i64).den) && (↑(bytesP (numP (b, (0 : (Pat.int IntKind.i64).den))).snd).snd.fst.length : Int) == (0 : Int)) then some (((0 : Int), (0 : Int), (0 : Int), [], [], (0 : Int), (0 : Int), (0 : Int), (0 : Int), (0 : Int), (0 : Int), (0 : Int), (0 : Int)), (2 : Int), ()) else bif !rightC (unfoldV (numP (b, (0 : (Pat.int IntKind.i64).den))).fst, (0 : Int), (0 : Int), [], ofBytes (bytesP (numP (b, (0 : (Pat.int IntKind.i64).den))).snd).fst, (0 : Int), (0 : Int), (0 : Int), (0 : Int), (0 : Int), (0 : Int), (0 : Int), (0 : Int)) then some (((0 : Int), (0 : Int), (0 : Int), [], [], (0 : Int), (0 : Int), (0 : Int), (0 : Int), (0 : Int), (0 : Int), (0 : Int), (0 : Int)), (2 : Int), ()) else bif !ofBytes (bytesC (unfoldV (numP (b, (0 : (Pat.int IntKind.i64).den))).fst, (0 : Int), (0 : Int), [], ofBytes (bytesP (numP (b, (0 : (Pat.int IntKind.i64).den))).snd).fst, (0 : Int), (0 : Int), (0 : Int), (0 : Int), (0 : Int), (0 : Int), (0 : Int), (0 : Int))) == ofBytes b then some (((0 : Int), (0 : Int), (0 : Int), [], [], (0 : Int), (0 : Int), (0 : Int), (0 : Int), (0 : Int), (0 : Int), (0 : Int), (0 : Int)), (2 : Int), ()) else some ((unfoldV (numP (b, (0 : (Pat.int IntKind.i64).den))).fst, (0 : Int), (0 : Int), [], ofBytes (bytesP (numP (b, (0 : (Pat.int IntKind.i64).den))).snd).fst, (0 : Int), (0 : Int), (0 : Int), (0 : Int), (0 : Int), (0 : Int), (0 : Int), (0 : Int)), (0 : Int), ()) else none else Option.bind (bif unfoldV (numP (b, (0 : (Pat.int IntKind.i64).den))).fst == (5 : Int) then some (unfoldV (numP (b, (0 : (Pat.int IntKind.i64).den))).fst == (5 : Int), ()) else some (unfoldV (numP (b, (0 : (Pat.int IntKind.i64).den))).fst == (9 : Int), ())) fun v => bif v.fst then bif !((numP (numP (b, (0 : (Pat.int IntKind.i64).den))).snd).snd.snd == (0 : (Pat.int IntKind.i64).den) && (↑(numP (numP (b, (0 : (Pat.int IntKind.i64).den))).snd).snd.fst.length : Int) == (0 : Int)) then some (((0 : Int), (0 : Int), (0 : Int), [], [], (0 : Int), (0 : Int), (0 : Int), (0 : Int), (0 : Int), (0 : Int), (0 : Int), (0 : Int)), (2 : Int), ()) else bif !rightC (unfoldV (numP (b, (0 : (Pat.int IntKind.i64).den))).fst, (0 : Int), (0 : Int), [], [], (0 : Int), (0 : Int), unfoldV (numP (numP (b, (0 : (Pat.int IntKind.i64).den))).snd).fst, (0 : Int), (0 : Int), (0 : Int), (0 : Int), (0 : Int)) then some (((0 : Int), (0 : Int), (0 : Int), [], [], (0 : Int), (0 : Int), (0 : Int), (0 : Int), (0 : Int), (0 : Int), (0 : Int), (0 : Int)), (2 : Int), ()) else bif !ofBytes (bytesC (unfoldV (numP (b, (0 : (Pat.int IntKind.i64).den))).fst, (0 : Int), (0 : Int), [], [], (0 : Int), (0 : Int), unfoldV (numP (numP (b, (0 : (Pat.int IntKind.i64).den))).snd).fst, (0 : Int), (0 : Int), (0 : Int), (0 : Int), (0 : Int))) == ofBytes b then some (((0 : Int), (0 : Int), (0 : Int), [], [], (0 : Int), (0 : Int), (0 : Int), (0 : Int), (0 : Int), (0 : Int), (0 : Int), (0 : Int)), (2 : Int), ()) else some ((unfoldV (numP (b, (0 : (Pat.int IntKind.i64).den))).fst, (0 : Int), (0 : Int), [], [], (0 : Int), (0 : Int), unfoldV (numP (numP (b, (0 : (Pat.int IntKind.i64).den))).snd).fst, (0 : Int), (0 : Int), (0 : Int), (0 : Int), (0 : Int)), (0 : Int), ()) else bif unfoldV (numP (b, (0 : (Pat.int IntKind.i64).den))).fst == (6 : Int) then bif !((numP (numP (numP (numP (numP (b, (0 : (Pat.int IntKind.i64).den))).snd).snd).snd).snd).snd.snd == (0 : (Pat.int IntKind.i64).den) && (↑(numP (numP (numP (numP (numP (b, (0 : (Pat.int IntKind.i64).den))).snd).snd).snd).snd).snd.fst.length : Int) == (0 : Int)) then some (((0 : Int), (0 : Int), (0 : Int), [], [], (0 : Int), (0 : Int), (0 : Int), (0 : Int), (0 : Int), (0 : Int), (0 : Int), (0 : Int)), (2 : Int), ()) else bif !rightC (unfoldV (numP (b, (0 : (Pat.int IntKind.i64).den))).fst, (0 : Int), (0 : Int), [], [], (0 : Int), (0 : Int), (0 : Int), (0 : Int), unfoldV (numP (numP (b, (0 : (Pat.int IntKind.i64).den))).snd).fst, unfoldV (numP (numP (numP (b, (0 : (Pat.int IntKind.i64).den))).snd).snd).fst, unfoldV (numP (numP (numP (numP (b, (0 : (Pat.int IntKind.i64).den))).snd).snd).snd).fst, unfoldV (numP (numP (numP (numP (numP (b, (0 : (Pat.int IntKind.i64).den))).snd).snd).snd).snd).fst) then some (((0 : Int), (0 : Int), (0 : Int), [], [], (0 : Int), (0 : Int), (0 : Int), (0 : Int), (0 : Int), (0 : Int), (0 : Int), (0 : Int)), (2 : Int), ()) else bif !ofBytes (bytesC (unfoldV (numP (b, (0 : (Pat.int IntKind.i64).den))).fst, (0 : Int), (0 : Int), [], [], (0 : Int), (0 : Int), (0 : Int), (0 : Int), unfoldV (numP (numP (b, (0 : (Pat.int IntKind.i64).den))).snd).fst, unfoldV (numP (numP (numP (b, (0 : (Pat.int IntKind.i64).den))).snd).snd).fst, unfoldV (numP (numP (numP (numP (b, (0 : (Pat.int IntKind.i64).den))).snd).snd).snd).fst, unfoldV (numP (numP (numP (numP (numP (b, (0 : (Pat.int IntKind.i64).den))).snd).snd).snd).snd).fst)) == ofBytes b then some (((0 : Int), (0 : Int), (0 : Int), [], [], (0 : Int), (0 : Int), (0 : Int), (0 : Int), (0 : Int), (0 : Int), (0 : Int), (0 : Int)), (2 : Int), ()) else some ((unfoldV (numP (b, (0 : (Pat.int IntKind.i64).den))).fst, (0 : Int), (0 : Int), [], [], (0 : Int), (0 : Int), (0 : Int), (0 : Int), unfoldV (numP (numP (b, (0 : (Pat.int IntKind.i64).den))).snd).fst, unfoldV (numP (numP (numP (b, (0 : (Pat.int IntKind.i64).den))).snd).snd).fst, unfoldV (numP (numP (numP (numP (b, (0 : (Pat.int IntKind.i64).den))).snd).snd).snd).fst, unfoldV (numP (numP (numP (numP (numP (b, (0 : (Pat.int IntKind.i64).den))).snd).snd).snd).snd).fst), (0 : Int), ()) else bif unfoldV (numP (b, (0 : (Pat.int IntKind.i64).den))).fst == (8 : Int) then bif !((numP (numP (numP (b, (0 : (Pat.int IntKind.i64).den))).snd).snd).snd.snd == (0 : (Pat.int IntKind.i64).den) && (↑(numP (numP (numP (b, (0 : (Pat.int IntKind.i64).den))).snd).snd).snd.fst.length : Int) == (0 : Int)) then some (((0 : Int), (0 : Int), (0 : Int), [], [], (0 : Int), (0 : Int), (0 : Int), (0 : Int), (0 : Int), (0 : Int), (0 : Int), (0 : Int)), (2 : Int), ()) else bif !rightC (unfoldV (numP (b, (0 : (Pat.int IntKind.i64).den))).fst, (0 : Int), (0 : Int), [], [], unfoldV (numP (numP (b, (0 : (Pat.int IntKind.i64).den))).snd).fst, (0 : Int), unfoldV (numP (numP (numP (b, (0 : (Pat.int IntKind.i64).den))).snd).snd).fst, (0 : Int), (0 : Int), (0 : Int), (0 : Int), (0 : Int)) then some (((0 : Int), (0 : Int), (0 : Int), [], [], (0 : Int), (0 : Int), (0 : Int), (0 : Int), (0 : Int), (0 : Int), (0 : Int), (0 : Int)), (2 : Int), ()) else bif !ofBytes (bytesC (unfoldV (numP (b, (0 : (Pat.int IntKind.i64).den))).fst, (0 : Int), (0 : Int), [], [], unfoldV (numP (numP (b, (0 : (Pat.int IntKind.i64).den))).snd).fst, (0 : Int), unfoldV (numP (numP (numP (b, (0 : (Pat.int IntKind.i64).den))).snd).snd).fst, (0 : Int), (0 : Int), (0 : Int), (0 : Int), (0 : Int))) == ofBytes b then some (((0 : Int), (0 : Int), (0 : Int), [], [], (0 : Int), (0 : Int), (0 : Int), (0 : Int), (0 : Int), (0 : Int), (0 : Int), (0 : Int)), (2 : Int), ()) else some ((unfoldV (numP (b, (0 : (Pat.int IntKind.i64).den))).fst, (0 : Int), (0 : Int), [], [], unfoldV (numP (numP (b, (0 : (Pat.int IntKind.i64).den))).snd).fst, (0 : Int), unfoldV (numP (numP (numP (b, (0 : (Pat.int IntKind.i64).den))).snd).snd).fst, (0 : Int), (0 : Int), (0 : Int), (0 : Int), (0 : Int)), (0 : Int), ()) else bif unfoldV (numP (b, (0 : (Pat.int IntKind.i64).den))).fst == (11 : Int) then bif !((numP (numP (numP (numP (numP (b, (0 : (Pat.int IntKind.i64).den))).snd).snd).snd).snd).snd.snd == (0 : (Pat.int IntKind.i64).den) && (↑(numP (numP (numP (numP (numP (b, (0 : (Pat.int IntKind.i64).den))).snd).snd).snd).snd).snd.fst.length : Int) == (0 : Int)) then some (((0 : Int), (0 : Int), (0 : Int), [], [], (0 : Int), (0 : Int), (0 : Int), (0 : Int), (0 : Int), (0 : Int), (0 : Int), (0 : Int)), (2 : Int), ()) else bif !rightC (unfoldV (numP (b, (0 : (Pat.int IntKind.i64).den))).fst, (0 : Int), unfoldV (numP (numP (numP (b, (0 : (Pat.int IntKind.i64).den))).snd).snd).fst, [], [], unfoldV (numP (numP (b, (0 : (Pat.int IntKind.i64).den))).snd).fst, unfoldV (numP (numP (numP (numP (b, (0 : (Pat.int IntKind.i64).den))).snd).snd).snd).fst, (0 : Int), IntKind.u32.wrap (numP (numP (numP (numP (numP (b, (0 : (Pat.int IntKind.i64).den))).snd).snd).snd).snd).fst, (0 : Int), (0 : Int), (0 : Int), (0 : Int)) then some (((0 : Int), (0 : Int), (0 : Int), [], [], (0 : Int), (0 : Int), (0 : Int), (0 : Int), (0 : Int), (0 : Int), (0 : Int), (0 : Int)), (2 : Int), ()) else bif !ofBytes (bytesC (unfoldV (numP (b, (0 : (Pat.int IntKind.i64).den))).fst, (0 : Int), unfoldV (numP (numP (numP (b, (0 : (Pat.int IntKind.i64).den))).snd).snd).fst, [], [], unfoldV (numP (numP (b, (0 : (Pat.int IntKind.i64).den))).snd).fst, unfoldV (numP (numP (numP (numP (b, (0 : (Pat.int IntKind.i64).den))).snd).snd).snd).fst, (0 : Int), IntKind.u32.wrap (numP (numP (numP (numP (numP (b, (0 : (Pat.int IntKind.i64).den))).snd).snd).snd).snd).fst, (0 : Int), (0 : Int), (0 : Int), (0 : Int))) == ofBytes b then some (((0 : Int), (0 : Int), (0 : Int), [], [], (0 : Int), (0 : Int), (0 : Int), (0 : Int), (0 : Int), (0 : Int), (0 : Int), (0 : Int)), (2 : Int), ()) else some ((unfoldV (numP (b, (0 : (Pat.int IntKind.i64).den))).fst, (0 : Int), unfoldV (numP (numP (numP (b, (0 : (Pat.int IntKind.i64).den))).snd).snd).fst, [], [], unfoldV (numP (numP (b, (0 : (Pat.int IntKind.i64).den))).snd).fst, unfoldV (numP (numP (numP (numP (b, (0 : (Pat.int IntKind.i64).den))).snd).snd).snd).fst, (0 : Int), IntKind.u32.wrap (numP (numP (numP (numP (numP (b, (0 : (Pat.int IntKind.i64).den))).snd).snd).snd).snd).fst, (0 : Int), (0 : Int), (0 : Int), (0 : Int)), (0 : Int), ()) else bif !((numP (b, (0 : (Pat.int IntKind.i64).den))).snd.snd == (0 : (Pat.int IntKind.i64).den) && (↑(numP (b, (0 : (Pat.int IntKind.i64).den))).snd.fst.length : Int) == (0 : Int)) then some (((0 : Int), (0 : Int), (0 : Int), [], [], (0 : Int), (0 : Int), (0 : Int), (0 : Int), (0 : Int), (0 : Int), (0 : Int), (0 : Int)), (2 : Int), ()) else bif !rightC (unfoldV (numP (b, (0 : (Pat.int IntKind.i64).den))).fst, (0 : Int), (0 : Int), [], [], (0 : Int), (0 : Int), (0 : Int), (0 : Int), (0 : Int), (0 : Int), (0 : Int), (0 : Int)) then some (((0 : Int), (0 : Int), (0 : Int), [], [], (0 : Int), (0 : Int), (0 : Int), (0 : Int), (0 : Int), (0 : Int), (0 : Int), (0 : Int)), (2 : Int), ()) else bif !ofBytes (bytesC (unfoldV (numP (b, (0 : (Pat.int IntKind.i64).den))).fst, (0 : Int), (0 : Int), [], [], (0 : Int), (0 : Int), (0 : Int), (0 : Int), (0 : Int), (0 : Int), (0 : Int), (0 : Int))) == ofBytes b then some (((0 : Int), (0 : Int), (0 : Int), [], [], (0 : Int), (0 : Int), (0 : Int), (0 : Int), (0 : Int), (0 : Int), (0 : Int), (0 : Int)), (2 : Int), ()) else some ((unfoldV (numP (b, (0 : (Pat.int IntKind.i64).den))).fst, (0 : Int), (0 : Int), [], [], (0 : Int), (0 : Int), (0 : Int), (0 : Int), (0 : Int), (0 : Int), (0 : Int), (0 : Int)), (0 : Int), ()) := by kernel_rfl

/-- The command that the bytes seem to be; what is left of them; what was wrong. -/
def candC (b : List Int) : Cmd × List Int × Int :=
  let n1 := numP (b, 0)
  let n2 := numP n1.2
  let n3 := numP n2.2
  let n4 := numP n3.2
  let n5 := numP n4.2
  let k := unfoldV n1.1
  let t := bytesP n1.2
  let m := countP n3.2
  bif k == 1 then
    let r := itR (bif decide (51 < m.1) then 51 else m.1).toNat (m.2.1, m.2.2, [])
    ((k, unfoldV n2.1, unfoldV n3.1, r.2.2, [], 0, 0, 0, 0, 0, 0, 0, 0), r.1, r.2.1)
  else bif k == 2 then ((k, 0, 0, [], [], unfoldV n2.1, unfoldV n3.1, 0, 0, 0, 0, 0, 0), n3.2)
  else bif k == 3 then ((k, 0, 0, [], ofBytes t.1, unfoldV (numP t.2).1, 0, 0, 0, 0, 0, 0, 0), (numP t.2).2)
  else bif k == 4 then ((k, 0, 0, [], ofBytes t.1, 0, 0, 0, 0, 0, 0, 0, 0), t.2)
  else bif k == 5 || k == 9 then ((k, 0, 0, [], [], 0, 0, unfoldV n2.1, 0, 0, 0, 0, 0), n2.2)
  else bif k == 6 then ((k, 0, 0, [], [], 0, 0, 0, 0, unfoldV n2.1, unfoldV n3.1, unfoldV n4.1, unfoldV n5.1), n5.2)
  else bif k == 8 then ((k, 0, 0, [], [], unfoldV n2.1, 0, unfoldV n3.1, 0, 0, 0, 0, 0), n3.2)
  else bif k == 11 then ((k, 0, unfoldV n3.1, [], [], unfoldV n2.1, unfoldV n4.1, 0, IntKind.u32.wrap n5.1, 0, 0, 0, 0), n5.2)
  else ((k, 0, 0, [], [], 0, 0, 0, 0, 0, 0, 0, 0), n1.2)
abbrev zeroC : Cmd := (0, 0, 0, [], [], 0, 0, 0, 0, 0, 0, 0, 0)
def judgeC (x : Cmd × List Int × Int) (b : List Int) : Cmd × Int :=
  bif !(x.2.2 == 0 && (((x.2.1.length : Nat) : Int) == 0)) then (zeroC, 2) else bif !rightC x.1 then (zeroC, 2) else bif !(ofBytes (bytesC x.1) == ofBytes b) then (zeroC, 2) else (x.1, 0)
/-- What Read answers. -/
def readC (b : List Int) : Cmd × Int := judgeC (candC b) b
theorem judge_fin (c : Cmd) (r : List Int) (e : Int) (b : List Int) : (bif !(e == 0 && (((r.length : Nat) : Int) == 0)) then some (zeroC, (2 : Int), ()) else bif !rightC c then some (zeroC, (2 : Int), ()) else bif !(ofBytes (bytesC c) == ofBytes b) then some (zeroC, (2 : Int), ()) else some (c, (0 : Int), ())) =
    some ((judgeC (c, r, e) b).1, (judgeC (c, r, e) b).2, ()) := by
  unfold judgeC
  simp only
  cases e == 0 && (((r.length : Nat) : Int) == 0) <;> cases rightC c <;> cases ofBytes (bytesC c) == ofBytes b <;> rfl
theorem countV_nonneg (b : List Int) (e : Int) : 0 ≤ (countV b e).1 := by
  have h := numV_nonneg b e
  unfold countV
  cases decide ((numV b e).1 > ((numV b e).2.1.length : Int)) <;> cases (numV b e).2.2 == 0 <;> simp [h]
def caseRead : PCase := ⟨[.ty (.sl u8T)], [cmdT, .int .i64], fun x => (fun (b : List Int) => [(decide (b.length ≤ 140737488355328), ((readC b).1, (readC b).2, ()))]) x.1⟩
theorem cread_val (b : List Int) (hc : (decide (b.length ≤ 140737488355328)) = true) : evFn (env consC3) H.command_Read (loopsF (env consC3) H.command_Read 0 B.command_Read 6) F.command_Read [.vl u8T b] [] (finT [cmdT, .int .i64]) = some ((readC b).1, (readC b).2, ()) := by
  have hb := of_decide_eq_true hc
  have h1 : (numP (b, 0)).2.1.length ≤ b.length := numV_len b 0
  rw [cread_ev]
  unfold readC candC
  simp only
  cases k1 : unfoldV (numP (b, 0)).1 == 1 with
  | true =>
    simp only [cond_true]
    have h0 : 0 ≤ (countP (numP (numP (numP (b, 0)).2).2).2).1 := countV_nonneg _ _
    generalize countP (numP (numP (numP (b, 0)).2).2).2 = m at h0 ⊢
    obtain ⟨n, hn⟩ : ∃ n, n = (bif decide ((51 : Int) < m.1) then (51 : Int) else m.1) := ⟨_, rfl⟩
    have hn2 : 0 ≤ n ∧ n ≤ 1000 := by
      rw [hn]
      by_cases h : (51 : Int) < m.1
      · simp [h]
      · simp only [h, decide_false, cond_false]; omega
    rw [← hn]
    simp only [hn2.1, hn2.2, decide_true, Bool.and_true, Bool.true_and]
    by_cases hz : n = 0
    · subst hz
      simp only [decide_true, cond_true]
      exact judge_fin _ _ _ _
    · simp only [hz, decide_false, cond_false, cond_true]
      exact judge_fin _ _ _ _
  | false =>
    simp only [cond_false, cond_true]
    rw [cond_pos (by omega), cond_pos (by omega)]
    cases k2 : unfoldV (numP (b, 0)).1 == 2 with
    | true => exact judge_fin _ _ _ _
    | false =>
    cases k3 : unfoldV (numP (b, 0)).1 == 3 with
    | true => exact judge_fin _ _ _ _
    | false =>
    cases k4 : unfoldV (numP (b, 0)).1 == 4 with
    | true => exact judge_fin _ _ _ _
    | false =>
    simp only [cond_false]
    rw [sw2_bif]
    simp only [Option.bind_some]
    cases k5 : (unfoldV (numP (b, 0)).1 == 5 || unfoldV (numP (b, 0)).1 == 9) with
    | true => exact judge_fin _ _ _ _
    | false =>
    cases k6 : unfoldV (numP (b, 0)).1 == 6 with
    | true => exact judge_fin _ _ _ _
    | false =>
    cases k8 : unfoldV (numP (b, 0)).1 == 8 with
    | true => exact judge_fin _ _ _ _
    | false =>
    cases k11 : unfoldV (numP (b, 0)).1 == 11 with
    | true => exact judge_fin _ _ _ _
    | false => exact judge_fin _ _ _ _
theorem cread_ok : caseRead.ok P0 I.command_Read := case_ok2 (H := H.command_Read) (E := env consC3) (env_ok consC3_ok) glob0 mixed0 G.command_Read Bd.command_Read (by kernel_rfl) (loopsF_good (env_ok consC3_ok) glob0 mixed0 (by kernel_rfl) 6) fun ⟨b, ()⟩ y h hw => by
  obtain ⟨hc, rfl⟩ := pick_pre h
  exact cread_val b hc
end Go.Sim
namespace Go.Sim
set_option linter.unusedSimpArgs false
set_option linter.unusedVariables false
set_option maxRecDepth 10000
theorem numP_put {n : Int} (h : In .i64 n) (r : List Int) : numP (putN (foldV n).toNat ++ r, 0) = (foldV n, r, 0) := by
  have := In.i64.1 h
  exact unfold_put n r this.1 this.2
theorem numP_put0 {n : Int} (h : In .i64 n) : numP (putN (foldV n).toNat, 0) = (foldV n, [], 0) := by
  have := numP_put h []
  rwa [List.append_nil] at this
theorem numP_u0 {n : Int} (h0 : 0 ≤ n) (h1 : n ≤ 4294967295) : numP (putN n.toNat, 0) = (n, [], 0) := by
  have := numV_put n.toNat [] (by omega)
  rw [List.append_nil] at this
  show numV _ 0 = _
  rw [this, Int.toNat_of_nonneg h0]
theorem bytesP_put (l : List UInt8) (r : List Int) (hl : l.length ≤ 160) : bytesP (putN (bytesOf l).length ++ (bytesOf l ++ r), 0) = (bytesOf l, r, 0) := by
  have hb : (bytesOf l).length = l.length := by simp [bytesOf]
  rw [hb]
  exact bytesV_put l r (by omega)
theorem bytesP_put0 (l : List UInt8) (hl : l.length ≤ 160) : bytesP (putN (bytesOf l).length ++ bytesOf l, 0) = (bytesOf l, [], 0) := by
  have := bytesP_put l [] hl
  rwa [List.append_nil] at this
theorem encR_pos (r : Rec) : 1 ≤ (encR r).length := by unfold encR; simp only [List.length_append, List.length_cons, List.length_nil]; omega
theorem flat_len : ∀ (l : List Rec), l.length ≤ ((l.map encR).flatten).length
  | [] => by simp
  | r :: l => by have := flat_len l; have := encR_pos r; simp only [List.map_cons, List.flatten_cons, List.length_append, List.length_cons]; omega
theorem cand_enc (c : Cmd) (hr : rightC c = true) (hw : wfT cmdT c) : candC (encC c) = (c, [], 0) := by
  have hr2 := hr
  rw [← prog_right] at hr
  simp only [Bool.and_eq_true, decide_eq_true_eq] at hr
  have hbare := hr.1.2
  obtain ⟨a1, a2, a3, a4, a5, a6, a7, a8, a9, a10, a11, a12, a13⟩ := c
  obtain ⟨w1, w2, w3, w4, w5, w6, w7, w8, w9, w10, w11, w12, w13⟩ := hw
  have p2 := numP_put (n := a2) w2
  have p3 := numP_put (n := a3) w3
  have p6 := numP_put (n := a6) w6
  have p7 := numP_put (n := a7) w7
  have p8 := numP_put (n := a8) w8
  have p10 := numP_put (n := a10) w10
  have p11 := numP_put (n := a11) w11
  have p12 := numP_put (n := a12) w12
  have q6 := numP_put0 (n := a6) w6
  have q7 := numP_put0 (n := a7) w7
  have q8 := numP_put0 (n := a8) w8
  have q13 := numP_put0 (n := a13) w13
  have v9 : In .u32 a9 := w9
  have k9 := In.u32.1 v9
  have q9 := numP_u0 k9.1 k9.2
  have p1 := numP_put (n := a1) w1
  have q1 := numP_put0 (n := a1) w1
  clear w1 w2 w3 w4 w5 w6 w7 w8 w9 w10 w11 w12 w13
  unfold rightC at hr2
  unfold bareC at hbare
  unfold encC candC
  simp only [putI, putC, putT, putL, List.nil_append, List.append_assoc] at hr2 hbare ⊢
  by_cases e : a1 = 1
  · subst e
    simp only [Int.reduceBEq, Bool.or_false, Bool.false_or, Bool.or_self, Bool.or_true, Bool.true_or, cond_true, cond_false, Bool.and_eq_true, recsB, withinB, decide_eq_true_eq] at hr2 hbare ⊢
    have hl : a4.length ≤ 50 := by omega
    have hR : ∀ r ∈ a4, recR r = true := by
      intro r h
      have := hr2.2.2.2.2.2
      simp only [Bool.not_eq_true', List.any_eq_false] at this
      have := this r h
      simp only [badR1, Bool.or_eq_true, Bool.not_eq_true', not_or] at this
      simpa using this.2
    rw [putL_enc a4 _ hR]
    simp only [List.append_assoc]
    have hf := flat_len a4
    have hc : countP (putN a4.length ++ (a4.map encR).flatten, 0) = ((a4.length : Int), (a4.map encR).flatten, 0) := countV_put a4.length _ (by omega) hf
    rw [p1, p2, p3, hc]
    simp only [unfold_fold, Int.reduceBEq, cond_true]
    rw [cond_neg (by omega), Int.toNat_natCast]
    have hi := itR_enc a4 [] [] hR
    rw [List.append_nil, List.nil_append] at hi
    rw [hi]
    exact congrArg (fun q : Cmd => (q, ([] : List Int), (0 : Int))) hbare
  by_cases e : a1 = 2
  · subst e
    simp only [Int.reduceBEq, Bool.or_false, Bool.false_or, Bool.or_self, Bool.or_true, Bool.true_or, cond_true, cond_false, Bool.and_eq_true, recsB, withinB, decide_eq_true_eq] at hr2 hbare ⊢
    rw [p1]
    simp only [unfold_fold, of_bytes, Int.reduceBEq, Bool.or_false, Bool.false_or, Bool.or_self, Bool.or_true, Bool.true_or, cond_true, cond_false, p6, q7]
    exact congrArg (fun q : Cmd => (q, ([] : List Int), (0 : Int))) hbare
  by_cases e : a1 = 3
  · subst e
    simp only [Int.reduceBEq, Bool.or_false, Bool.false_or, Bool.or_self, Bool.or_true, Bool.true_or, cond_true, cond_false, Bool.and_eq_true, recsB, withinB, decide_eq_true_eq] at hr2 hbare ⊢
    have t5 := bytesP_put a5 (putN (foldV a6).toNat) (valid_short hr2.2.2)
    simp only [show (bytesOf a5).length = a5.length by simp [bytesOf]] at t5
    rw [p1]
    simp only [unfold_fold, of_bytes, Int.reduceBEq, Bool.or_false, Bool.false_or, Bool.or_self, Bool.or_true, Bool.true_or, cond_true, cond_false, t5, q6]
    exact congrArg (fun q : Cmd => (q, ([] : List Int), (0 : Int))) hbare
  by_cases e : a1 = 4
  · subst e
    simp only [Int.reduceBEq, Bool.or_false, Bool.false_or, Bool.or_self, Bool.or_true, Bool.true_or, cond_true, cond_false, Bool.and_eq_true, recsB, withinB, decide_eq_true_eq] at hr2 hbare ⊢
    have t5 := bytesP_put0 a5 (valid_short hr2.2)
    simp only [show (bytesOf a5).length = a5.length by simp [bytesOf]] at t5
    rw [p1]
    simp only [unfold_fold, of_bytes, Int.reduceBEq, Bool.or_false, Bool.false_or, Bool.or_self, Bool.or_true, Bool.true_or, cond_true, cond_false, t5]
    exact congrArg (fun q : Cmd => (q, ([] : List Int), (0 : Int))) hbare
  by_cases e : a1 = 5
  · subst e
    simp only [Int.reduceBEq, Bool.or_false, Bool.false_or, Bool.or_self, Bool.or_true, Bool.true_or, cond_true, cond_false, Bool.and_eq_true, recsB, withinB, decide_eq_true_eq] at hr2 hbare ⊢
    rw [p1]
    simp only [unfold_fold, of_bytes, Int.reduceBEq, Bool.or_false, Bool.false_or, Bool.or_self, Bool.or_true, Bool.true_or, cond_true, cond_false, q8]
    exact congrArg (fun q : Cmd => (q, ([] : List Int), (0 : Int))) hbare
  by_cases e : a1 = 9
  · subst e
    simp only [Int.reduceBEq, Bool.or_false, Bool.false_or, Bool.or_self, Bool.or_true, Bool.true_or, cond_true, cond_false, Bool.and_eq_true, recsB, withinB, decide_eq_true_eq] at hr2 hbare ⊢
    rw [p1]
    simp only [unfold_fold, of_bytes, Int.reduceBEq, Bool.or_false, Bool.false_or, Bool.or_self, Bool.or_true, Bool.true_or, cond_true, cond_false, q8]
    exact congrArg (fun q : Cmd => (q, ([] : List Int), (0 : Int))) hbare
  by_cases e : a1 = 6
  · subst e
    simp only [Int.reduceBEq, Bool.or_false, Bool.false_or, Bool.or_self, Bool.or_true, Bool.true_or, cond_true, cond_false, Bool.and_eq_true, recsB, withinB, decide_eq_true_eq] at hr2 hbare ⊢
    rw [p1]
    simp only [unfold_fold, of_bytes, Int.reduceBEq, Bool.or_false, Bool.false_or, Bool.or_self, Bool.or_true, Bool.true_or, cond_true, cond_false, p10, p11, p12, q13]
    exact congrArg (fun q : Cmd => (q, ([] : List Int), (0 : Int))) hbare
  by_cases e : a1 = 8
  · subst e
    simp only [Int.reduceBEq, Bool.or_false, Bool.false_or, Bool.or_self, Bool.or_true, Bool.true_or, cond_true, cond_false, Bool.and_eq_true, recsB, withinB, decide_eq_true_eq] at hr2 hbare ⊢
    rw [p1]
    simp only [unfold_fold, of_bytes, Int.reduceBEq, Bool.or_false, Bool.false_or, Bool.or_self, Bool.or_true, Bool.true_or, cond_true, cond_false, p6, q8]
    exact congrArg (fun q : Cmd => (q, ([] : List Int), (0 : Int))) hbare
  by_cases e : a1 = 11
  · subst e
    simp only [Int.reduceBEq, Bool.or_false, Bool.false_or, Bool.or_self, Bool.or_true, Bool.true_or, cond_true, cond_false, Bool.and_eq_true, recsB, withinB, decide_eq_true_eq] at hr2 hbare ⊢
    have wu9 : IntKind.u32.wrap a9 = a9 := wrap_in v9
    rw [p1]
    simp only [unfold_fold, of_bytes, Int.reduceBEq, Bool.or_false, Bool.false_or, Bool.or_self, Bool.or_true, Bool.true_or, cond_true, cond_false, p6, p3, p7, q9, wu9]
    exact congrArg (fun q : Cmd => (q, ([] : List Int), (0 : Int))) hbare
  have e1 : (a1 == 1) = false := by simpa using ‹¬a1 = 1›
  have e2 : (a1 == 2) = false := by simpa using ‹¬a1 = 2›
  have e3 : (a1 == 3) = false := by simpa using ‹¬a1 = 3›
  have e4 : (a1 == 4) = false := by simpa using ‹¬a1 = 4›
  have e5 : (a1 == 5) = false := by simpa using ‹¬a1 = 5›
  have e6 : (a1 == 6) = false := by simpa using ‹¬a1 = 6›
  have e8 : (a1 == 8) = false := by simpa using ‹¬a1 = 8›
  have e9 : (a1 == 9) = false := by simpa using ‹¬a1 = 9›
  have e11 : (a1 == 11) = false := by simpa using ‹¬a1 = 11›
  simp only [e1, e2, e3, e4, e5, e6, e8, e9, e11, Bool.or_false, cond_false] at hbare ⊢
  rw [q1]
  simp only [unfold_fold, e1, e2, e3, e4, e5, e6, e8, e9, e11, Bool.or_false, cond_false]
  cases h : (a1 == 0 || (a1 == 7 || a1 == 10)) with
  | true => rw [h] at hbare; exact congrArg (fun q : Cmd => (q, ([] : List Int), (0 : Int))) hbare
  | false => rw [h] at hbare; exact congrArg (fun q : Cmd => (q, ([] : List Int), (0 : Int))) hbare
theorem read_bytes (c : Cmd) (hr : rightC c = true) (hw : wfT cmdT c) : readC (bytesC c) = (c, 0) := by
  have hb : bytesC c = encC c := by unfold bytesC; rw [hr]; rfl
  unfold readC
  rw [hb, cand_enc c hr hw]
  unfold judgeC
  simp only [hr, hb, beq_self_eq_true, List.length_nil, Int.ofNat_zero, Bool.and_self, Bool.not_true, cond_false]
end Go.Sim
namespace Go.Sim
set_option linter.unusedSimpArgs false
set_option linter.unusedVariables false
set_option maxRecDepth 10000
theorem num10_ev (n : Int) : evFn (env []) H.cooperagelaw10_num (LPof []) F.cooperagelaw10_num [.int .i64 n] [] (finT [.int .i64]) = some (n, ()) := by kernel_rfl

def caseNum10 : PCase := ⟨[.ty (.int .i64)], [.int .i64], fun x => (fun (n : Int) => [(true, (n, ()))]) x.1⟩
theorem num10_val (n : Int) : evFn (env []) H.cooperagelaw10_num (LPof []) F.cooperagelaw10_num [.int .i64 n] [] (finT [.int .i64]) = some (n, ()) := by
  rw [num10_ev]
theorem num10_ok : caseNum10.ok P0 I.cooperagelaw10_num := case_ok2 (H := H.cooperagelaw10_num) (E := env []) (env_ok env_nil) glob0 mixed0 G.cooperagelaw10_num Bd.cooperagelaw10_num (by kernel_rfl) noLoops fun ⟨n, ()⟩ y h hw => by
  obtain ⟨hc, rfl⟩ := pick_pre h
  exact num10_val n
noncomputable abbrev consQ1 : List (FuncId × Con) := [(I.cooperagelaw10_num, .pure (pureOf [caseNum10])), (I.command_Bytes, .pure (pureOf [caseBytes])), (I.command_Read, .pure (pureOf [caseRead])), (I.command_Right, .pure (pureOf [caseCright])), (I.cooperageref10_Same, .pure (pureOf [caseSame10]))]
theorem consQ1_ok : ∀ x ∈ consQ1, HoldsC P0 x.1 x.2 := by
  intro x hx
  simp at hx
  rcases hx with rfl | rfl | rfl | rfl | rfl
  · exact ⟨pureOf_holds (by simp; exact num10_ok), C.cooperagelaw10_num⟩
  · exact ⟨pureOf_holds (by simp; exact cbytes_ok), C.command_Bytes⟩
  · exact ⟨pureOf_holds (by simp; exact cread_ok), C.command_Read⟩
  · exact ⟨pureOf_holds (by simp; exact cright_ok), C.command_Right⟩
  · exact ⟨pureOf_holds (by simp; exact same10_ok), C.cooperageref10_Same⟩
theorem alive10_ev : evFn (env consQ1) H.cooperagelaw10_alive (LPof []) F.cooperagelaw10_alive [] [] (finT [.bool]) = some (true, ()) := by kernel_rfl

def caseAlive10 : PCase := ⟨[], [.bool], fun x => [(true, (true, ()))]⟩
theorem alive10_val  : evFn (env consQ1) H.cooperagelaw10_alive (LPof []) F.cooperagelaw10_alive [] [] (finT [.bool]) = some (true, ()) := by
  rw [alive10_ev]
theorem alive10_ok : caseAlive10.ok P0 I.cooperagelaw10_alive := case_ok2 (H := H.cooperagelaw10_alive) (E := env consQ1) (env_ok consQ1_ok) glob0 mixed0 G.cooperagelaw10_alive Bd.cooperagelaw10_alive (by kernel_rfl) noLoops fun () y h hw => by
  obtain ⟨hc, rfl⟩ := pick_pre h
  exact alive10_val
noncomputable abbrev consQ2 : List (FuncId × Con) := [(I.cooperagelaw10_alive, .pure (pureOf [caseAlive10])), (I.cooperagelaw10_Big, .pure (pureOf [caseBig])), (I.cooperageref10_Right, .pure (pureOf [caseRright])), (I.command_Same, .pure (pureOf [caseCsame]))] ++ consQ1
theorem consQ2_ok : ∀ x ∈ consQ2, HoldsC P0 x.1 x.2 := by
  intro x hx
  rcases List.mem_append.1 hx with hx | hx
  · simp at hx
    rcases hx with rfl | rfl | rfl | rfl
    · exact ⟨pureOf_holds (by simp; exact alive10_ok), C.cooperagelaw10_alive⟩
    · exact ⟨pureOf_holds (by simp; exact big_ok), C.cooperagelaw10_Big⟩
    · exact ⟨pureOf_holds (by simp; exact rright_ok), C.cooperageref10_Right⟩
    · exact ⟨pureOf_holds (by simp; exact csame_ok), C.command_Same⟩
  · exact consQ1_ok x hx
theorem cbyteslaw_ev (c : Cmd) : evFn (env consQ2) H.cooperagelaw10_CommandBytes (LPof []) F.cooperagelaw10_CommandBytes [valOf cmdT c] [] (finT [.bool]) = bif bigC c then some (true, ()) else bif !rightC c == rightC c then some (false, ()) else bif !rightC c then some ((↑(bytesC c).length : Int) == (0 : Int), ()) else bif decide ((bytesC c).length ≤ 140737488355328) then Option.bind (bif (readC (bytesC c)).snd == (0 : Int) then some (decide (c = (readC (bytesC c)).fst)) else some false) fun v => some (v, ()) else none := by kernel_rfl

theorem creadslaw_ev (b : List Int) : evFn (env consQ2) H.cooperagelaw10_CommandReads (LPof []) F.cooperagelaw10_CommandReads [.vl u8T b] [] (finT [.bool]) = bif decide ((↑b.length : Int) > (500 : Int)) then some (true, ()) else bif decide (b.length ≤ 140737488355328) then bif (readC b).snd != (0 : Int) then Option.bind (bif (readC b).snd == (2 : Int) then some (decide ((readC b).fst = ((0 : Int), (0 : Int), (0 : Int), [], [], (0 : Int), (0 : Int), (0 : Int), (0 : Int), (0 : Int), (0 : Int), (0 : Int), (0 : Int)))) else some false) fun v => some (v, ()) else some (rightC (readC b).fst, ()) else none := by kernel_rfl

theorem csamelaw_ev (a b : Cmd) : evFn (env consQ2) H.cooperagelaw10_CommandSame (LPof []) F.cooperagelaw10_CommandSame [valOf cmdT a, valOf cmdT b] [] (finT [.bool]) = Option.bind (bif bigC a then some true else some (bigC b)) fun v => bif v then some (true, ()) else Option.bind (bif decide (a = b) == decide (a = b) then bif decide (a = a) then some (decide (b = b)) else some false else some false) fun v => some (v, ()) := by kernel_rfl

theorem putL_len : ∀ (l : List Rec) (b : List Int), (l.foldl putR b).length ≤ b.length + 2241 * l.length
  | [], b => by simp
  | r :: l, b => by
    have := putL_len l (putR b r)
    have hlen : (putR b r).length ≤ b.length + 2241 := by
      unfold putR
      cases h : recR r with
      | true => have := encR_len h; simp only [cond_true, List.length_append]; omega
      | false => simp only [cond_false]; omega
    simp only [List.foldl_cons, List.length_cons]
    omega
theorem bytesC_len (c : Cmd) (hw : wfT cmdT c) : (bytesC c).length ≤ 140000 := by
  unfold bytesC
  cases hr : rightC c with
  | false => simp
  | true =>
    obtain ⟨a1, a2, a3, a4, a5, a6, a7, a8, a9, a10, a11, a12, a13⟩ := c
    obtain ⟨w1, w2, w3, w4, w5, w6, w7, w8, w9, w10, w11, w12, w13⟩ := hw
    have h1 : (putN (foldV a1).toNat).length ≤ 10 := putI_len w1
    have h2 : (putN (foldV a2).toNat).length ≤ 10 := putI_len w2
    have h3 : (putN (foldV a3).toNat).length ≤ 10 := putI_len w3
    have h6 : (putN (foldV a6).toNat).length ≤ 10 := putI_len w6
    have h7 : (putN (foldV a7).toNat).length ≤ 10 := putI_len w7
    have h8 : (putN (foldV a8).toNat).length ≤ 10 := putI_len w8
    have h10 : (putN (foldV a10).toNat).length ≤ 10 := putI_len w10
    have h11 : (putN (foldV a11).toNat).length ≤ 10 := putI_len w11
    have h12 : (putN (foldV a12).toNat).length ≤ 10 := putI_len w12
    have h13 : (putN (foldV a13).toNat).length ≤ 10 := putI_len w13
    have v9 : In .u32 a9 := w9
    have k9 := In.u32.1 v9
    have h9 : (putN a9.toNat).length ≤ 10 := putN_len (by omega)
    clear w1 w2 w3 w4 w5 w6 w7 w8 w9 w10 w11 w12 w13
    have hb : (bytesOf a5).length = a5.length := by simp [bytesOf]
    unfold rightC at hr
    unfold encC
    simp only [Bool.not_true, cond_false, cond_true, putI, putC, putT, putL] at hr ⊢
    by_cases e : a1 = 1
    · subst e
      simp only [Int.reduceBEq, Bool.or_false, Bool.false_or, Bool.or_self, Bool.or_true, Bool.true_or, cond_true, cond_false, Bool.and_eq_true, recsB, withinB, decide_eq_true_eq, List.length_append, List.length_nil] at hr ⊢
      have hl : a4.length ≤ 50 := by omega
      have h9 := putN_len (n := a4.length) (by omega)
      refine Nat.le_trans (putL_len _ _) ?_
      simp only [List.length_append, List.length_nil]
      omega
    by_cases e : a1 = 2
    · subst e
      simp only [Int.reduceBEq, Bool.or_false, Bool.false_or, Bool.or_self, Bool.or_true, Bool.true_or, cond_true, cond_false, Bool.and_eq_true, recsB, withinB, decide_eq_true_eq, List.length_append, List.length_nil] at hr ⊢
      omega
    by_cases e : a1 = 3
    · subst e
      simp only [Int.reduceBEq, Bool.or_false, Bool.false_or, Bool.or_self, Bool.or_true, Bool.true_or, cond_true, cond_false, Bool.and_eq_true, recsB, withinB, decide_eq_true_eq, List.length_append, List.length_nil, hb] at hr ⊢
      have hl := valid_short hr.2.2
      have h5 := putN_len (n := a5.length) (by omega)
      omega
    by_cases e : a1 = 4
    · subst e
      simp only [Int.reduceBEq, Bool.or_false, Bool.false_or, Bool.or_self, Bool.or_true, Bool.true_or, cond_true, cond_false, Bool.and_eq_true, recsB, withinB, decide_eq_true_eq, List.length_append, List.length_nil, hb] at hr ⊢
      have hl := valid_short hr.2
      have h5 := putN_len (n := a5.length) (by omega)
      omega
    by_cases e : a1 = 5
    · subst e
      simp only [Int.reduceBEq, Bool.or_false, Bool.false_or, Bool.or_self, Bool.or_true, Bool.true_or, cond_true, cond_false, Bool.and_eq_true, recsB, withinB, decide_eq_true_eq, List.length_append, List.length_nil] at hr ⊢
      omega
    by_cases e : a1 = 9
    · subst e
      simp only [Int.reduceBEq, Bool.or_false, Bool.false_or, Bool.or_self, Bool.or_true, Bool.true_or, cond_true, cond_false, Bool.and_eq_true, recsB, withinB, decide_eq_true_eq, List.length_append, List.length_nil] at hr ⊢
      omega
    by_cases e : a1 = 6
    · subst e
      simp only [Int.reduceBEq, Bool.or_false, Bool.false_or, Bool.or_self, Bool.or_true, Bool.true_or, cond_true, cond_false, Bool.and_eq_true, recsB, withinB, decide_eq_true_eq, List.length_append, List.length_nil] at hr ⊢
      omega
    by_cases e : a1 = 8
    · subst e
      simp only [Int.reduceBEq, Bool.or_false, Bool.false_or, Bool.or_self, Bool.or_true, Bool.true_or, cond_true, cond_false, Bool.and_eq_true, recsB, withinB, decide_eq_true_eq, List.length_append, List.length_nil] at hr ⊢
      omega
    by_cases e : a1 = 11
    · subst e
      simp only [Int.reduceBEq, Bool.or_false, Bool.false_or, Bool.or_self, Bool.or_true, Bool.true_or, cond_true, cond_false, Bool.and_eq_true, recsB, withinB, decide_eq_true_eq, List.length_append, List.length_nil] at hr ⊢
      omega
    have e1 : (a1 == 1) = false := by simpa using ‹¬a1 = 1›
    have e2 : (a1 == 2) = false := by simpa using ‹¬a1 = 2›
    have e3 : (a1 == 3) = false := by simpa using ‹¬a1 = 3›
    have e4 : (a1 == 4) = false := by simpa using ‹¬a1 = 4›
    have e5 : (a1 == 5) = false := by simpa using ‹¬a1 = 5›
    have e6 : (a1 == 6) = false := by simpa using ‹¬a1 = 6›
    have e8 : (a1 == 8) = false := by simpa using ‹¬a1 = 8›
    have e9 : (a1 == 9) = false := by simpa using ‹¬a1 = 9›
    have e11 : (a1 == 11) = false := by simpa using ‹¬a1 = 11›
    simp only [e1, e2, e3, e4, e5, e6, e8, e9, e11, Bool.or_false, cond_false, List.length_append, List.length_nil]
    omega
theorem read_right (b : List Int) : (readC b).2 = 0 ∧ rightC (readC b).1 = true ∨ (readC b).2 = 2 ∧ (readC b).1 = zeroC := by
  unfold readC judgeC
  cases (candC b).2.2 == 0 && ((((candC b).2.1.length : Nat) : Int) == 0) with
  | false => exact .inr ⟨rfl, rfl⟩
  | true =>
    cases h : rightC (candC b).1 with
    | false => exact .inr ⟨rfl, rfl⟩
    | true =>
      cases ofBytes (bytesC (candC b).1) == ofBytes b with
      | false => exact .inr ⟨rfl, rfl⟩
      | true => exact .inl ⟨rfl, h⟩
def caseCbyteslaw : PCase := ⟨[.ty cmdT], [.bool], fun x => (fun (c : Cmd) => [(true, (true, ()))]) x.1⟩
theorem cbyteslaw_val (c : Cmd) (hw : wfT cmdT c) : evFn (env consQ2) H.cooperagelaw10_CommandBytes (LPof []) F.cooperagelaw10_CommandBytes [valOf cmdT c] [] (finT [.bool]) = some (true, ()) := by
  rw [cbyteslaw_ev]
  have hl := bytesC_len c hw
  cases bigC c with
  | true => rfl
  | false =>
    cases hr : rightC c with
    | false =>
      have : bytesC c = [] := by unfold bytesC; rw [hr]; rfl
      rw [this]; rfl
    | true =>
      rw [read_bytes c hr hw]
      simp only [Bool.not_true, Bool.false_beq, cond_false, beq_self_eq_true, cond_true, decide_true, Option.bind_some]
      rw [cond_pos (by omega)]
theorem cbyteslaw_ok : caseCbyteslaw.ok P0 I.cooperagelaw10_CommandBytes := case_ok2 (H := H.cooperagelaw10_CommandBytes) (E := env consQ2) (env_ok consQ2_ok) glob0 mixed0 G.cooperagelaw10_CommandBytes Bd.cooperagelaw10_CommandBytes (by kernel_rfl) noLoops fun ⟨c, ()⟩ y h hw => by
  obtain ⟨hc, rfl⟩ := pick_pre h
  exact cbyteslaw_val c hw.1
def caseCreadslaw : PCase := ⟨[.ty (.sl u8T)], [.bool], fun x => (fun (b : List Int) => [(true, (true, ()))]) x.1⟩
theorem creadslaw_val (b : List Int) : evFn (env consQ2) H.cooperagelaw10_CommandReads (LPof []) F.cooperagelaw10_CommandReads [.vl u8T b] [] (finT [.bool]) = some (true, ()) := by
  rw [creadslaw_ev]
  by_cases h : (b.length : Int) > 500
  · rw [cond_pos h]
  · rw [cond_neg h, cond_pos (by omega)]
    rcases read_right b with ⟨h1, h2⟩ | ⟨h1, h2⟩
    · rw [h1, h2]; rfl
    · rw [h1, h2]; rfl
theorem creadslaw_ok : caseCreadslaw.ok P0 I.cooperagelaw10_CommandReads := case_ok2 (H := H.cooperagelaw10_CommandReads) (E := env consQ2) (env_ok consQ2_ok) glob0 mixed0 G.cooperagelaw10_CommandReads Bd.cooperagelaw10_CommandReads (by kernel_rfl) noLoops fun ⟨b, ()⟩ y h hw => by
  obtain ⟨hc, rfl⟩ := pick_pre h
  exact creadslaw_val b
def caseCsamelaw : PCase := ⟨[.ty cmdT, .ty cmdT], [.bool], fun x => (fun (a b : Cmd) => [(true, (true, ()))]) x.1 x.2.1⟩
theorem csamelaw_val (a b : Cmd) : evFn (env consQ2) H.cooperagelaw10_CommandSame (LPof []) F.cooperagelaw10_CommandSame [valOf cmdT a, valOf cmdT b] [] (finT [.bool]) = some (true, ()) := by
  rw [csamelaw_ev]
  simp only [beq_self_eq_true, cond_true, decide_true, Option.bind_some]
  cases bigC a <;> cases bigC b <;> rfl
theorem csamelaw_ok : caseCsamelaw.ok P0 I.cooperagelaw10_CommandSame := case_ok2 (H := H.cooperagelaw10_CommandSame) (E := env consQ2) (env_ok consQ2_ok) glob0 mixed0 G.cooperagelaw10_CommandSame Bd.cooperagelaw10_CommandSame (by kernel_rfl) noLoops fun ⟨a, b, ()⟩ y h hw => by
  obtain ⟨hc, rfl⟩ := pick_pre h
  exact csamelaw_val a b
theorem cbyteslaw_good (x : tysDen [cmdT]) (hw : tysWf [cmdT] x) : ∃ o, EffGood P0 I.cooperagelaw10_CommandBytes (valsOf [cmdT] x) [] (.bool true) o := cbyteslaw_ok x (true, ()) rfl hw
theorem creadslaw_good (x : tysDen [.sl u8T]) (hw : tysWf [.sl u8T] x) : ∃ o, EffGood P0 I.cooperagelaw10_CommandReads (valsOf [.sl u8T] x) [] (.bool true) o := creadslaw_ok x (true, ()) rfl hw
theorem csamelaw_good (x : tysDen [cmdT, cmdT]) (hw : tysWf [cmdT, cmdT] x) : ∃ o, EffGood P0 I.cooperagelaw10_CommandSame (valsOf [cmdT, cmdT] x) [] (.bool true) o := csamelaw_ok x (true, ()) rfl hw
end Go.Sim
namespace Go.Sim
set_option linter.unusedSimpArgs false
set_option linter.unusedVariables false
def polyB : BitVec 32 := 3988292384#32
def bitB (v : BitVec 32) : BitVec 32 := bif v.getLsbD 0 then (v >>> 1) ^^^ polyB else v >>> 1
def itB : Nat → BitVec 32 → BitVec 32
  | 0, v => v
  | n + 1, v => itB n (bitB v)
def byteB (v : BitVec 32) (c : Int) : BitVec 32 := itB 8 (v ^^^ BitVec.ofInt 32 c)
def crcB (v : BitVec 32) (b : List Int) : BitVec 32 := b.foldl byteB v
def sumB (b : List Int) : BitVec 32 := ~~~ crcB (~~~ 0#32) b
theorem low_cases (v : BitVec 32) : (v &&& 1#32 = 1#32 ∧ v.getLsbD 0 = true) ∨ (v &&& 1#32 = 0#32 ∧ v.getLsbD 0 = false) := by
  have h : (v &&& 1#32).toNat = v.toNat % 2 := by
    rw [BitVec.toNat_and]
    exact Nat.and_one_is_mod v.toNat
  have g : v.getLsbD 0 = decide (v.toNat % 2 = 1) := by
    unfold BitVec.getLsbD
    exact Nat.testBit_zero v.toNat
  rcases Nat.mod_two_eq_zero_or_one v.toNat with e | e
  · exact .inr ⟨BitVec.eq_of_toNat_eq (by rw [h, e]; rfl), by rw [g, e]; rfl⟩
  · exact .inl ⟨BitVec.eq_of_toNat_eq (by rw [h, e]; rfl), by rw [g, e]; rfl⟩
theorem ofInt_bv (v : BitVec 32) : BitVec.ofInt 32 (v.toNat : Int) = v := by
  apply BitVec.eq_of_toNat_eq
  have := v.isLt
  rw [BitVec.toNat_ofInt]
  omega
theorem wrap_bv (v : BitVec 32) : IntKind.u32.wrap (v.toNat : Int) = (v.toNat : Int) := by
  have := v.isLt
  exact wrap_in (In.u32.2 ⟨by omega, by omega⟩)
theorem fdiv_bv (v : BitVec 32) : (v.toNat : Int).fdiv 2 = ((v >>> 1).toNat : Int) := by
  rw [BitVec.toNat_ushiftRight, Nat.shiftRight_eq_div_pow]
  rw [Int.fdiv_eq_ediv_of_nonneg _ (by omega)]
  rfl
theorem bit_prog (v : BitVec 32) : IntKind.u32.wrap (((BitVec.ofInt 32 ((v.toNat : Int).fdiv 2) ^^^ BitVec.ofInt 32 (IntKind.u32.wrap (((BitVec.ofInt 32 3988292384 &&& BitVec.ofInt 32
    (IntKind.u32.wrap (0 - IntKind.u32.wrap ((BitVec.ofInt 32 (v.toNat : Int) &&& BitVec.ofInt 32 1).toNat : Int)))).toNat : Nat) : Int))).toNat : Nat) : Int) = ((bitB v).toNat : Int) := by
  rw [ofInt_bv, fdiv_bv, ofInt_bv, show BitVec.ofInt 32 1 = 1#32 from rfl]
  unfold bitB
  rcases low_cases v with ⟨h, g⟩ | ⟨h, g⟩
  · rw [h, g, cond_true]
    rw [show BitVec.ofInt 32 (IntKind.u32.wrap (((BitVec.ofInt 32 3988292384 &&& BitVec.ofInt 32 (IntKind.u32.wrap (0 - IntKind.u32.wrap ((1#32).toNat : Int)))).toNat : Nat) : Int)) = polyB by decide, wrap_bv]
  · rw [h, g, cond_false]
    rw [show BitVec.ofInt 32 (IntKind.u32.wrap (((BitVec.ofInt 32 3988292384 &&& BitVec.ofInt 32 (IntKind.u32.wrap (0 - IntKind.u32.wrap ((0#32).toNat : Int)))).toNat : Nat) : Int)) = 0#32 by decide, BitVec.xor_zero, wrap_bv]
theorem bit_ref1 (v : BitVec 32) : (IntKind.u32.wrap ((BitVec.ofInt 32 (v.toNat : Int) &&& BitVec.ofInt 32 1).toNat : Int) == 1) = v.getLsbD 0 := by
  rw [ofInt_bv, show BitVec.ofInt 32 1 = 1#32 from rfl]
  rcases low_cases v with ⟨h, g⟩ | ⟨h, g⟩
  · rw [h, g]; decide
  · rw [h, g]; decide
theorem bit_ref2 (v : BitVec 32) : IntKind.u32.wrap (((BitVec.ofInt 32 ((v.toNat : Int).fdiv 2) ^^^ BitVec.ofInt 32 3988292384).toNat : Nat) : Int) = (((v >>> 1) ^^^ polyB).toNat : Int) := by
  rw [fdiv_bv, ofInt_bv, show BitVec.ofInt 32 3988292384 = polyB from rfl, wrap_bv]
/-! ### One turned byte gives another sum -/
theorem bitB_msb (v : BitVec 32) : (bitB v).getLsbD 31 = v.getLsbD 0 := by
  have hs : (v >>> 1).getLsbD 31 = false := by
    rw [BitVec.getLsbD_ushiftRight]
    exact BitVec.getLsbD_of_ge _ _ (by omega)
  unfold bitB
  cases v.getLsbD 0 with
  | true => rw [cond_true, BitVec.getLsbD_xor, hs]; decide
  | false => rw [cond_false, hs]
theorem shift_inj {u v : BitVec 32} (h0 : u.getLsbD 0 = v.getLsbD 0) (h : u >>> 1 = v >>> 1) : u = v := by
  apply BitVec.eq_of_getLsbD_eq
  intro i hi
  cases i with
  | zero => exact h0
  | succ j =>
    have := congrArg (fun w => w.getLsbD j) h
    simp only [BitVec.getLsbD_ushiftRight] at this
    rwa [Nat.add_comm 1 j] at this
theorem bitB_inj {u v : BitVec 32} (h : bitB u = bitB v) : u = v := by
  have h0 : u.getLsbD 0 = v.getLsbD 0 := by rw [← bitB_msb, ← bitB_msb, h]
  refine shift_inj h0 ?_
  unfold bitB at h
  rw [h0] at h
  cases hv : v.getLsbD 0 with
  | true =>
    rw [hv, cond_true, cond_true] at h
    have := congrArg (fun w => w ^^^ polyB) h
    simpa [BitVec.xor_assoc] using this
  | false => rwa [hv, cond_false, cond_false] at h
theorem itB_inj : ∀ (n : Nat) {u v : BitVec 32}, itB n u = itB n v → u = v
  | 0, _, _, h => h
  | n + 1, _, _, h => bitB_inj (itB_inj n h)
theorem byteB_inj {u v : BitVec 32} {c : Int} (h : byteB u c = byteB v c) : u = v := by
  have := itB_inj 8 h
  have := congrArg (fun w => w ^^^ BitVec.ofInt 32 c) this
  simpa [BitVec.xor_assoc] using this
theorem crcB_inj : ∀ (b : List Int) {u v : BitVec 32}, crcB u b = crcB v b → u = v
  | [], _, _, h => h
  | c :: b, _, _, h => byteB_inj (crcB_inj b h)
theorem byteB_byte {u : BitVec 32} {c d : Int} (hc : In .u8 c) (hd : In .u8 d) (h : byteB u c = byteB u d) : c = d := by
  have h1 := itB_inj 8 h
  have h2 : BitVec.ofInt 32 c = BitVec.ofInt 32 d := by
    have := congrArg (fun w => u ^^^ w) h1
    simpa [← BitVec.xor_assoc] using this
  have c1 := In.u8'.1 hc
  have d1 := In.u8'.1 hd
  have := congrArg BitVec.toNat h2
  rw [BitVec.toNat_ofInt, BitVec.toNat_ofInt] at this
  omega
theorem sumB_set {b : List Int} {i : Nat} {c : Int} (hi : i < b.length) (hb : ∀ x ∈ b, In .u8 x) (hc : In .u8 c) (h : sumB (b.set i c) = sumB b) : b[i] = c := by
  have h1 : crcB (~~~ 0#32) (b.set i c) = crcB (~~~ 0#32) b := by
    have := congrArg (fun w => ~~~ w) h
    simpa [sumB] using this
  have e1 : b.set i c = b.take i ++ c :: b.drop (i + 1) := List.set_eq_take_append_cons_drop .. |>.trans (by rw [if_pos hi])
  have e2 : b = b.take i ++ b[i] :: b.drop (i + 1) := by rw [List.getElem_cons_drop, List.take_append_drop]
  rw [e1] at h1
  conv at h1 => rhs; rw [e2]
  unfold crcB at h1
  rw [List.foldl_append, List.foldl_append, List.foldl_cons, List.foldl_cons] at h1
  exact (byteB_byte hc (hb _ (List.getElem_mem hi)) (crcB_inj _ h1)).symm
end Go.Sim
namespace Go.Sim
set_option linter.unusedSimpArgs false
set_option linter.unusedVariables false
set_option maxRecDepth 10000
theorem crcin_rd {R : Type} (x : Int) (b : List Int) (n i k : Int) (K : Ex → St → Option R) : roundK (env []) H.crc_More 0 (LPof []) V.crc_More_7 L.crc_More_7 ⟨[(5, .int .u32 x), (11, .vl u8T b), (12, .int .i64 n), (13, .int .i64 i), (21, .int .i64 k)], [], 0⟩ K = bif decide (k < (8 : Int)) then K Ex.normal { slots := [(5, AV.int IntKind.u32 (IntKind.u32.wrap (↑(BitVec.ofInt 32 (x.fdiv (2 : Int)) ^^^ BitVec.ofInt 32 (IntKind.u32.wrap (↑(BitVec.ofInt 32 (3988292384 : Int) &&& BitVec.ofInt 32 (IntKind.u32.wrap ((0 : Int) - IntKind.u32.wrap (↑(BitVec.ofInt 32 x &&& BitVec.ofInt 32 (1 : Int)).toNat : Int)))).toNat : Int))).toNat : Int))), (11, AV.vl (Ty.int IntKind.u8) b), (12, AV.int IntKind.i64 n), (13, AV.int IntKind.i64 i), (21, AV.int IntKind.i64 (IntKind.i64.wrap (k + (1 : Int))))], objs := [], nx := 0 } else K (Ex.exit 2) { slots := [(5, AV.int IntKind.u32 x), (11, AV.vl (Ty.int IntKind.u8) b), (12, AV.int IntKind.i64 n), (13, AV.int IntKind.i64 i), (21, AV.int IntKind.i64 k)], objs := [], nx := 0 } := by kernel_rfl

theorem rcrcin_rd {R : Type} (x : Int) (b : List Int) (i k : Int) (K : Ex → St → Option R) : roundK (env []) H.cooperageref1_More 0 (LPof []) V.cooperageref1_More_7 L.cooperageref1_More_7 ⟨[(1, .vl u8T b), (5, .int .u32 x), (6, .int .i64 i), (7, .int .i64 k)], [], 0⟩ K = bif decide (k < (8 : Int)) then bif IntKind.u32.wrap (↑(BitVec.ofInt 32 x &&& BitVec.ofInt 32 (1 : Int)).toNat : Int) == (1 : Int) then K Ex.normal { slots := [(1, AV.vl (Ty.int IntKind.u8) b), (5, AV.int IntKind.u32 (IntKind.u32.wrap (↑(BitVec.ofInt 32 (x.fdiv (2 : Int)) ^^^ BitVec.ofInt 32 (3988292384 : Int)).toNat : Int))), (6, AV.int IntKind.i64 i), (7, AV.int IntKind.i64 (IntKind.i64.wrap (k + (1 : Int))))], objs := [], nx := 0 } else K Ex.normal { slots := [(1, AV.vl (Ty.int IntKind.u8) b), (5, AV.int IntKind.u32 (x.fdiv (2 : Int))), (6, AV.int IntKind.i64 i), (7, AV.int IntKind.i64 (IntKind.i64.wrap (k + (1 : Int))))], objs := [], nx := 0 } else K (Ex.exit 2) { slots := [(1, AV.vl (Ty.int IntKind.u8) b), (5, AV.int IntKind.u32 x), (6, AV.int IntKind.i64 i), (7, AV.int IntKind.i64 k)], objs := [], nx := 0 } := by kernel_rfl

def crcinSt (v : BitVec 32) (b : List Int) (n i k : Int) : St := ⟨[(5, .int .u32 (v.toNat : Int)), (11, .vl u8T b), (12, .int .i64 n), (13, .int .i64 i), (21, .int .i64 k)], [], 0⟩
theorem crcin_loop {R : Type} (b : List Int) (n i : Int) (K : Ex → St → Option R) : ∀ (m k : Nat) (v : BitVec 32), k + m = 8 → rounds (env []) H.crc_More 0 (LPof []) V.crc_More_7 L.crc_More_7 (m + 1) (crcinSt v b n i k) K = K (.exit 2) (crcinSt (itB m v) b n i 8)
  | 0, k, v, h => by
    obtain rfl : k = 8 := by omega
    rw [rounds_succ']
    refine (crcin_rd _ _ _ _ _ _).trans ?_
    rw [cond_neg (by omega)]
    rfl
  | m + 1, k, v, h => by
    rw [rounds_succ']
    refine (crcin_rd _ _ _ _ _ _).trans ?_
    rw [cond_pos (by omega), bit_prog, wrap64 (by omega) (by omega)]
    exact crcin_loop b n i K m (k + 1) (bitB v) (by omega)
theorem u32_bv {x : Int} (h : In .u32 x) : ∃ v : BitVec 32, x = (v.toNat : Int) := by
  have := In.u32.1 h
  refine ⟨BitVec.ofNat 32 x.toNat, ?_⟩
  rw [BitVec.toNat_ofNat]
  omega
abbrev crcinLC : LoopC := LoopC.of ⟨[(5, .int .u32), (11, .vl u8T), (12, .int .i64), (13, .int .i64), (21, .int .i64)], []⟩ (fun x => decide (x.1.2.2.2.2.1 = (0 : Int)))
  fun x => [(true, .exit 2, crcinSt (itB 8 (BitVec.ofInt 32 x.1.1)) x.1.2.1 x.1.2.2.1 x.1.2.2.2.1 8)]
theorem crcin_go (x : Int) (hx : In .u32 x) (b : List Int) (n i : Int) : ∃ m, rounds (env []) H.crc_More 0 (LPof []) V.crc_More_7 L.crc_More_7 m ⟨[(5, .int .u32 x), (11, .vl u8T b), (12, .int .i64 n), (13, .int .i64 i), (21, .int .i64 0)], [], 0⟩ (fun e s => some (e, s)) =
    some (.exit 2, crcinSt (itB 8 (BitVec.ofInt 32 x)) b n i 8) := by
  obtain ⟨v, rfl⟩ := u32_bv hx
  rw [ofInt_bv]
  exact ⟨9, crcin_loop b n i _ 8 0 v (by omega)⟩
theorem crcin_lok : LoopOK P0 H.crc_More 0 L.crc_More_7 crcinLC :=
  loop_ok_of (env_ok env_nil) glob0 mixed0 noLoops V.crc_More_7 (by decide) fun ⟨⟨x, b, n, i, k, _⟩, _⟩ h hw => by
    obtain rfl := of_decide_eq_true h
    exact crcin_go x hw.1.1 b n i
theorem crc_rd {R : Type} (x : Int) (b : List Int) (n i : Int) (K : Ex → St → Option R) : roundK (env []) H.crc_More 0 (LPof [(7, crcinLC)]) V.crc_More_3 L.crc_More_3 ⟨[(5, .int .u32 x), (11, .vl u8T b), (12, .int .i64 n), (13, .int .i64 i)], [], 0⟩ K = bif decide (i < n) then bif decide ((0 : Int) ≤ i) && decide (i < (↑b.length : Int)) then K Ex.normal { slots := [(5, AV.int IntKind.u32 (↑(itB 8 (BitVec.ofInt 32 (IntKind.u32.wrap (↑(BitVec.ofInt 32 x ^^^ BitVec.ofInt 32 (IntKind.u32.wrap (b.getD i.toNat (0 : Int)))).toNat : Int)))).toNat : Int)), (11, AV.vl (Ty.int IntKind.u8) b), (12, AV.int IntKind.i64 n), (13, AV.int IntKind.i64 (IntKind.i64.wrap (i + (1 : Int))))], objs := [], nx := 0 } else none else K (Ex.exit 0) { slots := [(5, AV.int IntKind.u32 x), (11, AV.vl (Ty.int IntKind.u8) b), (12, AV.int IntKind.i64 n), (13, AV.int IntKind.i64 i)], objs := [], nx := 0 } := by kernel_rfl

def rcrcinSt (v : BitVec 32) (b : List Int) (i k : Int) : St := ⟨[(1, .vl u8T b), (5, .int .u32 (v.toNat : Int)), (6, .int .i64 i), (7, .int .i64 k)], [], 0⟩
theorem rcrcin_loop {R : Type} (b : List Int) (i : Int) (K : Ex → St → Option R) : ∀ (m k : Nat) (v : BitVec 32), k + m = 8 → rounds (env []) H.cooperageref1_More 0 (LPof []) V.cooperageref1_More_7 L.cooperageref1_More_7 (m + 1) (rcrcinSt v b i k) K = K (.exit 2) (rcrcinSt (itB m v) b i 8)
  | 0, k, v, h => by
    obtain rfl : k = 8 := by omega
    rw [rounds_succ']
    refine (rcrcin_rd _ _ _ _ _).trans ?_
    rw [cond_neg (by omega)]
    rfl
  | m + 1, k, v, h => by
    have ih := rcrcin_loop b i K m (k + 1) (bitB v) (by omega)
    rw [rounds_succ']
    refine (rcrcin_rd _ _ _ _ _).trans ?_
    rw [cond_pos (by omega), bit_ref1, bit_ref2, fdiv_bv, wrap64 (by omega) (by omega)]
    unfold bitB at ih
    rw [show itB (m + 1) v = itB m (bitB v) from rfl]
    unfold bitB
    cases hv : v.getLsbD 0 with
    | true => simp only [hv, cond_true] at ih; exact ih
    | false => simp only [hv, cond_false] at ih; exact ih
abbrev rcrcinLC : LoopC := LoopC.of ⟨[(1, .vl u8T), (5, .int .u32), (6, .int .i64), (7, .int .i64)], []⟩ (fun x => decide (x.1.2.2.2.1 = (0 : Int)))
  fun x => [(true, .exit 2, rcrcinSt (itB 8 (BitVec.ofInt 32 x.1.2.1)) x.1.1 x.1.2.2.1 8)]
theorem rcrcin_go (x : Int) (hx : In .u32 x) (b : List Int) (i : Int) : ∃ m, rounds (env []) H.cooperageref1_More 0 (LPof []) V.cooperageref1_More_7 L.cooperageref1_More_7 m ⟨[(1, .vl u8T b), (5, .int .u32 x), (6, .int .i64 i), (7, .int .i64 0)], [], 0⟩ (fun e s => some (e, s)) =
    some (.exit 2, rcrcinSt (itB 8 (BitVec.ofInt 32 x)) b i 8) := by
  obtain ⟨v, rfl⟩ := u32_bv hx
  rw [ofInt_bv]
  exact ⟨9, rcrcin_loop b i _ 8 0 v (by omega)⟩
theorem rcrcin_lok : LoopOK P0 H.cooperageref1_More 0 L.cooperageref1_More_7 rcrcinLC :=
  loop_ok_of (env_ok env_nil) glob0 mixed0 noLoops V.cooperageref1_More_7 (by decide) fun ⟨⟨b, x, i, k, _⟩, _⟩ h hw => by
    obtain rfl := of_decide_eq_true h
    exact rcrcin_go x hw.1.2.1 b i
theorem rcrc_rd {R : Type} (x : Int) (b : List Int) (i : Int) (K : Ex → St → Option R) : roundK (env []) H.cooperageref1_More 0 (LPof [(7, rcrcinLC)]) V.cooperageref1_More_3 L.cooperageref1_More_3 ⟨[(1, .vl u8T b), (5, .int .u32 x), (6, .int .i64 i)], [], 0⟩ K = bif decide (i < (↑b.length : Int)) then bif decide ((0 : Int) ≤ i) && decide (i < (↑b.length : Int)) then K Ex.normal { slots := [(1, AV.vl (Ty.int IntKind.u8) b), (5, AV.int IntKind.u32 (↑(itB 8 (BitVec.ofInt 32 (IntKind.u32.wrap (↑(BitVec.ofInt 32 x ^^^ BitVec.ofInt 32 (IntKind.u32.wrap (b.getD i.toNat (0 : Int)))).toNat : Int)))).toNat : Int)), (6, AV.int IntKind.i64 (IntKind.i64.wrap (i + (1 : Int))))], objs := [], nx := 0 } else none else K (Ex.exit 0) { slots := [(1, AV.vl (Ty.int IntKind.u8) b), (5, AV.int IntKind.u32 x), (6, AV.int IntKind.i64 i)], objs := [], nx := 0 } := by kernel_rfl

theorem u32_byte {c : Int} (h : In .u8 c) : IntKind.u32.wrap c = c := by have := In.u8'.1 h; exact wrap_in (In.u32.2 ⟨by omega, by omega⟩)
theorem drop_one {b r : List Int} {i : Nat} {c : Int} (hr : b.drop i = c :: r) : i < b.length ∧ b.getD i 0 = c ∧ b.drop (i + 1) = r := by
  refine ⟨?_, ?_, ?_⟩
  · have := congrArg List.length hr; simp at this; omega
  · have := congrArg (fun l => l.getD 0 (0 : Int)) hr
    simpa [List.getD_eq_getElem?_getD] using this
  · rw [show b.drop (i + 1) = (b.drop i).drop 1 by rw [List.drop_drop], hr]; rfl
def crcSt (v : BitVec 32) (b : List Int) (i : Nat) : St := ⟨[(5, .int .u32 (v.toNat : Int)), (11, .vl u8T b), (12, .int .i64 b.length), (13, .int .i64 i)], [], 0⟩
theorem crc_rounds {R : Type} (K : Ex → St → Option R) (b : List Int) (hm : b.length ≤ 9223372036854775807) : ∀ (r : List Int) (i : Nat) (v : BitVec 32), b.drop i = r → i ≤ b.length → (∀ c ∈ r, In .u8 c) →
    ∃ m, rounds (env []) H.crc_More 0 (LPof [(7, crcinLC)]) V.crc_More_3 L.crc_More_3 m (crcSt v b i) K = K (.exit 0) (crcSt (crcB v r) b b.length)
  | [], i, v, hr, hl, hb => by
    have : i = b.length := by have := congrArg List.length hr; simp at this; omega
    refine ⟨1, ?_⟩
    rw [rounds_succ']
    refine (crc_rd _ _ _ _ _).trans ?_
    rw [cond_neg (by omega), this]
    rfl
  | c :: r, i, v, hr, hl, hb => by
    obtain ⟨h1, h2, h3⟩ := drop_one hr
    obtain ⟨m, hm'⟩ := crc_rounds K b hm r (i + 1) (byteB v c) h3 (by omega) (fun x hx => hb x (List.mem_cons_of_mem _ hx))
    refine ⟨m + 1, ?_⟩
    rw [rounds_succ']
    refine (crc_rd _ _ _ _ _).trans ?_
    rw [cond_pos (by omega), cond_pos2 (by omega) (by omega), Int.toNat_natCast, h2, u32_byte (hb c (by simp)), ofInt_bv, wrap_bv, ofInt_bv, wrap64 (by omega) (by omega)]
    exact hm'
abbrev crcLC : LoopC := LoopC.of ⟨[(5, .int .u32), (11, .vl u8T), (12, .int .i64), (13, .int .i64)], []⟩ (fun x => decide (x.1.2.2.1 = (List.length x.1.2.1 : Int)) && decide (x.1.2.2.2.1 = (0 : Int)))
  fun x => [(true, .exit 0, crcSt (crcB (BitVec.ofInt 32 x.1.1) x.1.2.1) x.1.2.1 (List.length x.1.2.1))]
theorem crc_go (x : Int) (hx : In .u32 x) (b : List Int) (hm : b.length ≤ maxL) (hb : ∀ c ∈ b, In .u8 c) : ∃ m, rounds (env []) H.crc_More 0 (LPof [(7, crcinLC)]) V.crc_More_3 L.crc_More_3 m ⟨[(5, .int .u32 x), (11, .vl u8T b), (12, .int .i64 b.length), (13, .int .i64 0)], [], 0⟩ (fun e s => some (e, s)) =
    some (.exit 0, crcSt (crcB (BitVec.ofInt 32 x) b) b b.length) := by
  obtain ⟨v, rfl⟩ := u32_bv hx
  rw [ofInt_bv]
  exact crc_rounds _ b hm b 0 v rfl (by omega) hb
theorem crcin_lg {R : Type} : LoopsGood P0 H.crc_More 0 (LPof (R := R) [(7, crcinLC)]) L.crc_More_3 := loops_good (tab := [(7, crcinLC)]) (by kernel_rfl) (fun x hx => by simp at hx; subst hx; exact crcin_lok)
theorem crc_lok : LoopOK P0 H.crc_More 0 L.crc_More_3 crcLC :=
  loop_ok_of (env_ok env_nil) glob0 mixed0 crcin_lg V.crc_More_3 (by decide) fun ⟨⟨x, b, n, i, _⟩, _⟩ h hw => by
    simp only [Bool.and_eq_true, decide_eq_true_eq] at h
    obtain ⟨rfl, rfl⟩ := h
    exact crc_go x hw.1.1 b hw.1.2.1.1 hw.1.2.1.2
def rcrcSt (v : BitVec 32) (b : List Int) (i : Nat) : St := ⟨[(1, .vl u8T b), (5, .int .u32 (v.toNat : Int)), (6, .int .i64 i)], [], 0⟩
theorem rcrc_rounds {R : Type} (K : Ex → St → Option R) (b : List Int) (hm : b.length ≤ 9223372036854775807) : ∀ (r : List Int) (i : Nat) (v : BitVec 32), b.drop i = r → i ≤ b.length → (∀ c ∈ r, In .u8 c) →
    ∃ m, rounds (env []) H.cooperageref1_More 0 (LPof [(7, rcrcinLC)]) V.cooperageref1_More_3 L.cooperageref1_More_3 m (rcrcSt v b i) K = K (.exit 0) (rcrcSt (crcB v r) b b.length)
  | [], i, v, hr, hl, hb => by
    have : i = b.length := by have := congrArg List.length hr; simp at this; omega
    refine ⟨1, ?_⟩
    rw [rounds_succ']
    refine (rcrc_rd _ _ _ _).trans ?_
    rw [cond_neg (by omega), this]
    rfl
  | c :: r, i, v, hr, hl, hb => by
    obtain ⟨h1, h2, h3⟩ := drop_one hr
    obtain ⟨m, hm'⟩ := rcrc_rounds K b hm r (i + 1) (byteB v c) h3 (by omega) (fun x hx => hb x (List.mem_cons_of_mem _ hx))
    refine ⟨m + 1, ?_⟩
    rw [rounds_succ']
    refine (rcrc_rd _ _ _ _).trans ?_
    rw [cond_pos (by omega), cond_pos2 (by omega) (by omega), Int.toNat_natCast, h2, u32_byte (hb c (by simp)), ofInt_bv, wrap_bv, ofInt_bv, wrap64 (by omega) (by omega)]
    exact hm'
abbrev rcrcLC : LoopC := LoopC.of ⟨[(1, .vl u8T), (5, .int .u32), (6, .int .i64)], []⟩ (fun x => decide (x.1.2.2.1 = (0 : Int)))
  fun x => [(true, .exit 0, rcrcSt (crcB (BitVec.ofInt 32 x.1.2.1) x.1.1) x.1.1 (List.length x.1.1))]
theorem rcrc_go (x : Int) (hx : In .u32 x) (b : List Int) (hm : b.length ≤ maxL) (hb : ∀ c ∈ b, In .u8 c) : ∃ m, rounds (env []) H.cooperageref1_More 0 (LPof [(7, rcrcinLC)]) V.cooperageref1_More_3 L.cooperageref1_More_3 m ⟨[(1, .vl u8T b), (5, .int .u32 x), (6, .int .i64 0)], [], 0⟩ (fun e s => some (e, s)) =
    some (.exit 0, rcrcSt (crcB (BitVec.ofInt 32 x) b) b b.length) := by
  obtain ⟨v, rfl⟩ := u32_bv hx
  rw [ofInt_bv]
  exact rcrc_rounds _ b hm b 0 v rfl (by omega) hb
theorem rcrcin_lg {R : Type} : LoopsGood P0 H.cooperageref1_More 0 (LPof (R := R) [(7, rcrcinLC)]) L.cooperageref1_More_3 := loops_good (tab := [(7, rcrcinLC)]) (by kernel_rfl) (fun x hx => by simp at hx; subst hx; exact rcrcin_lok)
theorem rcrc_lok : LoopOK P0 H.cooperageref1_More 0 L.cooperageref1_More_3 rcrcLC :=
  loop_ok_of (env_ok env_nil) glob0 mixed0 rcrcin_lg V.cooperageref1_More_3 (by decide) fun ⟨⟨b, x, i, _⟩, _⟩ h hw => by
    obtain rfl := of_decide_eq_true h
    exact rcrc_go x hw.1.2.1 b hw.1.1.1 hw.1.1.2
theorem crcm_ev (x : Int) (b : List Int) : evFn (env []) H.crc_More (LPof [(3, crcLC)]) F.crc_More [.int .u32 x, .vl u8T b] [] (finT [.int .u32]) = bif decide ((↑b.length : Int) = (↑b.length : Int)) && true && true then some (IntKind.u32.wrap (↑(BitVec.ofInt 32 (4294967295 : Int) ^^^ BitVec.ofInt 32 (↑(crcB (BitVec.ofInt 32 (IntKind.u32.wrap (↑(BitVec.ofInt 32 (4294967295 : Int) ^^^ BitVec.ofInt 32 x).toNat : Int))) b).toNat : Int)).toNat : Int), ()) else none := by kernel_rfl

theorem rcrcm_ev (x : Int) (b : List Int) : evFn (env []) H.cooperageref1_More (LPof [(3, rcrcLC)]) F.cooperageref1_More [.int .u32 x, .vl u8T b] [] (finT [.int .u32]) = some (IntKind.u32.wrap (↑(BitVec.ofInt 32 (4294967295 : Int) ^^^ BitVec.ofInt 32 (↑(crcB (BitVec.ofInt 32 (IntKind.u32.wrap (↑(BitVec.ofInt 32 (4294967295 : Int) ^^^ BitVec.ofInt 32 x).toNat : Int))) b).toNat : Int)).toNat : Int), ()) := by kernel_rfl

theorem ones_xor (v : BitVec 32) : BitVec.ofInt 32 4294967295 ^^^ v = ~~~ v := by
  rw [show BitVec.ofInt 32 4294967295 = BitVec.allOnes 32 from rfl, BitVec.allOnes_xor]
def caseCrcM : PCase := ⟨[.ty (.int .u32), .ty (.sl u8T)], [.int .u32], fun x => (fun (x : Int) (b : List Int) => [(true, (((~~~ crcB (~~~ BitVec.ofInt 32 x) b).toNat : Int), ()))]) x.1 x.2.1⟩
theorem crcm_val (x : Int) (b : List Int) : evFn (env []) H.crc_More (LPof [(3, crcLC)]) F.crc_More [.int .u32 x, .vl u8T b] [] (finT [.int .u32]) = some (((~~~ crcB (~~~ BitVec.ofInt 32 x) b).toNat : Int), ()) := by
  rw [crcm_ev]
  simp only [decide_true, Bool.and_true, cond_true, ones_xor, wrap_bv, ofInt_bv]
theorem crcm_ok : caseCrcM.ok P0 I.crc_More := case_ok2 (H := H.crc_More) (E := env []) (env_ok env_nil) glob0 mixed0 G.crc_More Bd.crc_More (by kernel_rfl) (loops_good (tab := [(3, crcLC)]) (by kernel_rfl) (fun x hx => by simp at hx; subst hx; exact crc_lok)) fun ⟨x, b, ()⟩ y h hw => by
  obtain ⟨hc, rfl⟩ := pick_pre h
  exact crcm_val x b
def caseRcrcM : PCase := ⟨[.ty (.int .u32), .ty (.sl u8T)], [.int .u32], fun x => (fun (x : Int) (b : List Int) => [(true, (((~~~ crcB (~~~ BitVec.ofInt 32 x) b).toNat : Int), ()))]) x.1 x.2.1⟩
theorem rcrcm_val (x : Int) (b : List Int) : evFn (env []) H.cooperageref1_More (LPof [(3, rcrcLC)]) F.cooperageref1_More [.int .u32 x, .vl u8T b] [] (finT [.int .u32]) = some (((~~~ crcB (~~~ BitVec.ofInt 32 x) b).toNat : Int), ()) := by
  rw [rcrcm_ev]
  simp only [ones_xor, wrap_bv, ofInt_bv]
theorem rcrcm_ok : caseRcrcM.ok P0 I.cooperageref1_More := case_ok2 (H := H.cooperageref1_More) (E := env []) (env_ok env_nil) glob0 mixed0 G.cooperageref1_More Bd.cooperageref1_More (by kernel_rfl) (loops_good (tab := [(3, rcrcLC)]) (by kernel_rfl) (fun x hx => by simp at hx; subst hx; exact rcrc_lok)) fun ⟨x, b, ()⟩ y h hw => by
  obtain ⟨hc, rfl⟩ := pick_pre h
  exact rcrcm_val x b
noncomputable abbrev consF1 : List (FuncId × Con) := [(I.crc_More, .pure (pureOf [caseCrcM])), (I.cooperageref1_More, .pure (pureOf [caseRcrcM]))]
theorem consF1_ok : ∀ x ∈ consF1, HoldsC P0 x.1 x.2 := by
  intro x hx
  simp at hx
  rcases hx with rfl | rfl
  · exact ⟨pureOf_holds (by simp; exact crcm_ok), C.crc_More⟩
  · exact ⟨pureOf_holds (by simp; exact rcrcm_ok), C.cooperageref1_More⟩
theorem crcs_ev (b : List Int) : evFn (env consF1) H.crc_Sum (LPof []) F.crc_Sum [.vl u8T b] [] (finT [.int .u32]) = some ((↑(~~~crcB (~~~BitVec.ofInt 32 (0 : Int)) b).toNat : Int), ()) := by kernel_rfl

theorem rcrcs_ev (b : List Int) : evFn (env consF1) H.cooperageref1_Sum (LPof []) F.cooperageref1_Sum [.vl u8T b] [] (finT [.int .u32]) = some ((↑(~~~crcB (~~~BitVec.ofInt 32 (0 : Int)) b).toNat : Int), ()) := by kernel_rfl

def sumI (b : List Int) : Int := (sumB b).toNat
theorem sum0 (b : List Int) : ((~~~ crcB (~~~ BitVec.ofInt 32 0) b).toNat : Int) = sumI b := rfl
def caseCrcS : PCase := ⟨[.ty (.sl u8T)], [.int .u32], fun x => (fun (b : List Int) => [(true, (sumI b, ()))]) x.1⟩
theorem crcs_val (b : List Int) : evFn (env consF1) H.crc_Sum (LPof []) F.crc_Sum [.vl u8T b] [] (finT [.int .u32]) = some (sumI b, ()) := by
  rw [crcs_ev, sum0]
theorem crcs_ok : caseCrcS.ok P0 I.crc_Sum := case_ok2 (H := H.crc_Sum) (E := env consF1) (env_ok consF1_ok) glob0 mixed0 G.crc_Sum Bd.crc_Sum (by kernel_rfl) noLoops fun ⟨b, ()⟩ y h hw => by
  obtain ⟨hc, rfl⟩ := pick_pre h
  exact crcs_val b
def caseRcrcS : PCase := ⟨[.ty (.sl u8T)], [.int .u32], fun x => (fun (b : List Int) => [(true, (sumI b, ()))]) x.1⟩
theorem rcrcs_val (b : List Int) : evFn (env consF1) H.cooperageref1_Sum (LPof []) F.cooperageref1_Sum [.vl u8T b] [] (finT [.int .u32]) = some (sumI b, ()) := by
  rw [rcrcs_ev, sum0]
theorem rcrcs_ok : caseRcrcS.ok P0 I.cooperageref1_Sum := case_ok2 (H := H.cooperageref1_Sum) (E := env consF1) (env_ok consF1_ok) glob0 mixed0 G.cooperageref1_Sum Bd.cooperageref1_Sum (by kernel_rfl) noLoops fun ⟨b, ()⟩ y h hw => by
  obtain ⟨hc, rfl⟩ := pick_pre h
  exact rcrcs_val b
theorem writ_ev (x : Int) : evFn (env []) H.frame_written (LPof []) F.frame_written [.int .u32 x] [] (finT [.sl u8T]) = some ([IntKind.u8.wrap (x.fdiv (16777216 : Int)), IntKind.u8.wrap (x.fdiv (65536 : Int)), IntKind.u8.wrap (x.fdiv (256 : Int)), IntKind.u8.wrap x], ()) := by kernel_rfl

def writI (x : Int) : List Int := [IntKind.u8.wrap (x.fdiv 16777216), IntKind.u8.wrap (x.fdiv 65536), IntKind.u8.wrap (x.fdiv 256), IntKind.u8.wrap x]
def caseWrit : PCase := ⟨[.ty (.int .u32)], [.sl u8T], fun x => (fun (x : Int) => [(true, (writI x, ()))]) x.1⟩
theorem writ_val (x : Int) : evFn (env []) H.frame_written (LPof []) F.frame_written [.int .u32 x] [] (finT [.sl u8T]) = some (writI x, ()) := by
  exact writ_ev x
theorem writ_ok : caseWrit.ok P0 I.frame_written := case_ok2 (H := H.frame_written) (E := env []) (env_ok env_nil) glob0 mixed0 G.frame_written Bd.frame_written (by kernel_rfl) noLoops fun ⟨x, ()⟩ y h hw => by
  obtain ⟨hc, rfl⟩ := pick_pre h
  exact writ_val x
end Go.Sim
namespace Go.Sim
set_option linter.unusedSimpArgs false
set_option linter.unusedVariables false
set_option maxRecDepth 10000
theorem rget_rd {R : Type} (x : Int) (b : List Int) (i : Int) (K : Ex → St → Option R) : roundK (env []) H.cooperageref1_Get 0 (LPof []) V.cooperageref1_Get_3 L.cooperageref1_Get_3 ⟨[(0, .vl u8T b), (2, .int .u64 0), (3, .int .i64 0), (4, .int .i64 0), (5, .int .u64 x), (6, .int .i64 i)], [], 0⟩ K = bif decide (i < (↑b.length : Int)) then bif decide ((0 : Int) ≤ i) && decide (i < (↑b.length : Int)) then Option.bind (bif i == (9 : Int) then some (decide (b.getD i.toNat (0 : Int) > (1 : Int))) else some false) fun v => bif v then K Ex.ret { slots := [(0, AV.vl (Ty.int IntKind.u8) b), (2, AV.int IntKind.u64 (0 : Int)), (3, AV.int IntKind.i64 (0 : Int)), (4, AV.int IntKind.i64 (3 : Int)), (5, AV.int IntKind.u64 x), (6, AV.int IntKind.i64 i)], objs := [], nx := 0 } else bif decide (IntKind.u64.wrap (IntKind.i64.wrap ((7 : Int) * i)) < (0 : Int)) then none else bif decide (b.getD i.toNat (0 : Int) < (128 : Int)) then Option.bind (bif b.getD i.toNat (0 : Int) == (0 : Int) then some (decide (i > (0 : Int))) else some false) fun v => bif v then K Ex.ret { slots := [(0, AV.vl (Ty.int IntKind.u8) b), (2, AV.int IntKind.u64 (0 : Int)), (3, AV.int IntKind.i64 (0 : Int)), (4, AV.int IntKind.i64 (2 : Int)), (5, AV.int IntKind.u64 (IntKind.u64.wrap (↑(BitVec.ofInt 64 x ||| BitVec.ofInt 64 (IntKind.u64.wrap (IntKind.u64.wrap (IntKind.u8.wrap (↑(BitVec.ofInt 8 (b.getD i.toNat (0 : Int)) &&& BitVec.ofInt 8 (127 : Int)).toNat : Int)) * (2 : Int) ^ min (IntKind.u64.wrap (IntKind.i64.wrap ((7 : Int) * i))).toNat 64))).toNat : Int))), (6, AV.int IntKind.i64 i)], objs := [], nx := 0 } else K Ex.ret { slots := [(0, AV.vl (Ty.int IntKind.u8) b), (2, AV.int IntKind.u64 (IntKind.u64.wrap (↑(BitVec.ofInt 64 x ||| BitVec.ofInt 64 (IntKind.u64.wrap (IntKind.u64.wrap (IntKind.u8.wrap (↑(BitVec.ofInt 8 (b.getD i.toNat (0 : Int)) &&& BitVec.ofInt 8 (127 : Int)).toNat : Int)) * (2 : Int) ^ min (IntKind.u64.wrap (IntKind.i64.wrap ((7 : Int) * i))).toNat 64))).toNat : Int))), (3, AV.int IntKind.i64 (IntKind.i64.wrap (i + (1 : Int)))), (4, AV.int IntKind.i64 (0 : Int)), (5, AV.int IntKind.u64 (IntKind.u64.wrap (↑(BitVec.ofInt 64 x ||| BitVec.ofInt 64 (IntKind.u64.wrap (IntKind.u64.wrap (IntKind.u8.wrap (↑(BitVec.ofInt 8 (b.getD i.toNat (0 : Int)) &&& BitVec.ofInt 8 (127 : Int)).toNat : Int)) * (2 : Int) ^ min (IntKind.u64.wrap (IntKind.i64.wrap ((7 : Int) * i))).toNat 64))).toNat : Int))), (6, AV.int IntKind.i64 i)], objs := [], nx := 0 } else K Ex.normal { slots := [(0, AV.vl (Ty.int IntKind.u8) b), (2, AV.int IntKind.u64 (0 : Int)), (3, AV.int IntKind.i64 (0 : Int)), (4, AV.int IntKind.i64 (0 : Int)), (5, AV.int IntKind.u64 (IntKind.u64.wrap (↑(BitVec.ofInt 64 x ||| BitVec.ofInt 64 (IntKind.u64.wrap (IntKind.u64.wrap (IntKind.u8.wrap (↑(BitVec.ofInt 8 (b.getD i.toNat (0 : Int)) &&& BitVec.ofInt 8 (127 : Int)).toNat : Int)) * (2 : Int) ^ min (IntKind.u64.wrap (IntKind.i64.wrap ((7 : Int) * i))).toNat 64))).toNat : Int))), (6, AV.int IntKind.i64 (IntKind.i64.wrap (i + (1 : Int))))], objs := [], nx := 0 } else none else K (Ex.exit 0) { slots := [(0, AV.vl (Ty.int IntKind.u8) b), (2, AV.int IntKind.u64 (0 : Int)), (3, AV.int IntKind.i64 (0 : Int)), (4, AV.int IntKind.i64 (0 : Int)), (5, AV.int IntKind.u64 x), (6, AV.int IntKind.i64 i)], objs := [], nx := 0 } := by kernel_rfl

theorem rput_rd {R : Type} (x : Int) (o : List Int) (K : Ex → St → Option R) : roundK (env []) H.cooperageref1_Put 0 (LPof []) V.cooperageref1_Put_2 L.cooperageref1_Put_2 ⟨[(0, .hw 0), (1, .int .u64 x)], [(0, .arr 1 (.int .u8) o [])], 1⟩ K = bif decide (x > (127 : Int)) then bif decide ((o ++ [IntKind.u8.wrap (↑(BitVec.ofInt 8 (IntKind.u8.wrap (IntKind.u64.wrap (↑(BitVec.ofInt 64 x &&& BitVec.ofInt 64 (127 : Int)).toNat : Int))) ||| BitVec.ofInt 8 (128 : Int)).toNat : Int)]).length * 1 ≤ 140737488355328) then K Ex.normal { slots := [(0, AV.hw 0), (1, AV.int IntKind.u64 (x.fdiv (128 : Int)))], objs := [(0, AObj.arr 1 (Ty.int IntKind.u8) (o ++ [IntKind.u8.wrap (↑(BitVec.ofInt 8 (IntKind.u8.wrap (IntKind.u64.wrap (↑(BitVec.ofInt 64 x &&& BitVec.ofInt 64 (127 : Int)).toNat : Int))) ||| BitVec.ofInt 8 (128 : Int)).toNat : Int)]) [])], nx := 1 } else none else K (Ex.exit 0) { slots := [(0, AV.hw 0), (1, AV.int IntKind.u64 x)], objs := [(0, AObj.arr 1 (Ty.int IntKind.u8) o [])], nx := 1 } := by kernel_rfl

/-- Where the reader stands behind its last byte. -/
def getW : Nat → Nat → List Int → Nat × Nat
  | i, x, [] => (i, x)
  | i, x, c :: r => bif decide (i = 9) && decide (c > 1) then (i, x) else bif decide (c ≥ 128) then getW (i + 1) (x + (c - 128).toNat * 2 ^ (7 * i)) r else (i, x + c.toNat * 2 ^ (7 * i))
theorem and127 {c : Int} (h : In .u8 c) : IntKind.u64.wrap (IntKind.u8.wrap (((BitVec.ofInt 8 c &&& BitVec.ofInt 8 127).toNat : Nat) : Int)) = ((c.toNat % 128 : Nat) : Int) := by
  have hc := In.u8'.1 h
  have e : (BitVec.ofInt 8 c &&& BitVec.ofInt 8 127).toNat = c.toNat % 128 := by
    rw [BitVec.toNat_and, show (BitVec.ofInt 8 127).toNat = 2 ^ 7 - 1 by rfl, Nat.and_two_pow_sub_one_eq_mod, BitVec.toNat_ofInt]
    omega
  rw [e, wrapu8_mod, wrapu64_mod]
  omega
def rgetSt (r : Int × Int × Int) (z : Nat × Nat) (b : List Int) : St := ⟨[(0, .vl u8T b), (2, .int .u64 r.1), (3, .int .i64 r.2.1), (4, .int .i64 r.2.2), (5, .int .u64 z.2), (6, .int .i64 z.1)], [], 0⟩
theorem rget_rounds {R : Type} (K : Ex → St → Option R) (b : List Int) (hm : b.length ≤ 9223372036854775807) (hb : ∀ c ∈ b, In .u8 c) : ∀ (r : List Int) (i x : Nat), b.drop i = r → i ≤ 9 → i ≤ b.length → x < 2 ^ (7 * i) →
    ∃ m, rounds (env []) H.cooperageref1_Get 0 (LPof []) V.cooperageref1_Get_3 L.cooperageref1_Get_3 m (rgetSt (0, 0, 0) (i, x) b) K =
      bif decide ((getG i x r).2.2 = 4) then K (.exit 0) (rgetSt (0, 0, 0) (getW i x r) b) else K .ret (rgetSt (getG i x r) (getW i x r) b)
  | [], i, x, hr, hi, hl, hx => by
    have : i = b.length := by have := congrArg List.length hr; simp at this; omega
    refine ⟨1, ?_⟩
    rw [rounds_succ']
    refine (rget_rd _ _ _ _).trans ?_
    rw [cond_neg (by simp only; omega)]
    rfl
  | c :: r, i, x, hr, hi, hl, hx => by
    obtain ⟨hlt, hc, hr'⟩ := drop_one hr
    have hcm : In .u8 c := hb c (by rw [← hc, List.getD_eq_getElem?_getD, List.getElem?_eq_getElem hlt]; exact List.getElem_mem hlt)
    have hcb := In.u8'.1 hcm
    have e64 : IntKind.i64.wrap (7 * (i : Int)) = 7 * (i : Int) := wrap64 (by omega) (by omega)
    have e64' : IntKind.u64.wrap (7 * (i : Int)) = IntKind.i64.wrap (7 * (i : Int)) := by rw [e64, wrapu64 (by omega) (by omega)]
    have e65 : IntKind.i64.wrap ((i : Int) + 1) = ((i + 1 : Nat) : Int) := by rw [wrap64 (by omega) (by omega)]; rfl
    have hi9 : ((i : Int) == 9) = decide (i = 9) := by rw [Bool.eq_iff_iff]; simp; omega
    have step : ∀ (m : Nat), rounds (env []) H.cooperageref1_Get 0 (LPof []) V.cooperageref1_Get_3 L.cooperageref1_Get_3 (m + 1) (rgetSt (0, 0, 0) (i, x) b) K =
        bif decide (i = 9) && decide (c > 1) then K .ret (rgetSt (0, 0, 3) (i, x) b) else
        bif decide (c ≥ 128) then rounds (env []) H.cooperageref1_Get 0 (LPof []) V.cooperageref1_Get_3 L.cooperageref1_Get_3 m (rgetSt (0, 0, 0) (i + 1, x + (c - 128).toNat * 2 ^ (7 * i)) b) K else
        bif decide (c = 0) && decide (0 < i) then K .ret (rgetSt (0, 0, 2) (i, x + c.toNat * 2 ^ (7 * i)) b) else K .ret (rgetSt (((x + c.toNat * 2 ^ (7 * i) : Nat) : Int), ((i + 1 : Nat) : Int), 0) (i, x + c.toNat * 2 ^ (7 * i)) b) := by
      intro m
      rw [rounds_succ']
      refine (rget_rd _ _ _ _).trans ?_
      simp only
      rw [cond_pos (by omega), cond_pos2 (by omega) (by omega), Int.toNat_natCast, hc, hi9, and_bif, Option.bind_some]
      cases h1 : decide (i = 9) && decide (c > 1) with
      | true => rfl
      | false =>
        rw [cond_false, cond_false]
        have hno : ¬ IntKind.i64.wrap (7 * (i : Int)) < 0 := by rw [e64]; omega
        have hno' : ¬ IntKind.u64.wrap (IntKind.i64.wrap (7 * (i : Int))) < 0 := by rw [e64, e64']; exact hno
        have h9 : i = 9 → c.toNat % 128 ≤ 1 := fun e => by simp [e] at h1; omega
        have g := get_group (x := x) (d := c.toNat % 128) hi hx (by omega) h9 (j := (i : Int)) rfl
        have e6 : IntKind.u64.wrap (IntKind.i64.wrap (7 * (i : Int))) = IntKind.i64.wrap (7 * (i : Int)) := by rw [e64, e64', e64]
        rw [cond_neg hno', and127 hcm, e6, g]
        by_cases h2 : c ≥ 128
        · rw [cond_neg (show ¬ c < 128 by omega), cond_pos h2, e65, show (c - 128).toNat = c.toNat % 128 by have : i ≠ 9 := fun e => (by simp [e] at h1; omega); omega]
          rfl
        · rw [cond_pos (show c < 128 by omega), cond_neg h2]
          have e4 : (bif c == 0 then some (decide ((i : Int) > 0)) else some false) = some (decide (c = 0) && decide (0 < i)) := by
            rw [and_bif]
            congr 1
            have : decide ((i : Int) > 0) = decide (0 < i) := by simp
            rw [this]
            congr 1
          rw [e4, Option.bind_some, show c.toNat % 128 = c.toNat by omega]
          cases h3 : decide (c = 0) && decide (0 < i) with
          | true => rfl
          | false =>
            rw [cond_false, cond_false, e65]
            rfl
    cases h1 : decide (i = 9) && decide (c > 1) with
    | true =>
      have g : getG i x (c :: r) = (0, 0, 3) := by simp only [getG, h1, cond_true]
      have z : getW i x (c :: r) = (i, x) := by simp only [getW, h1, cond_true]
      rw [g, z]
      exact ⟨1, by rw [step, h1]; rfl⟩
    | false =>
      by_cases h2 : c ≥ 128
      · have h9 : i ≠ 9 := fun e => by simp [e] at h1; omega
        have g : getG i x (c :: r) = getG (i + 1) (x + (c - 128).toNat * 2 ^ (7 * i)) r := by simp only [getG, h1, cond_false, h2, decide_true, cond_true]
        have z : getW i x (c :: r) = getW (i + 1) (x + (c - 128).toNat * 2 ^ (7 * i)) r := by simp only [getW, h1, cond_false, h2, decide_true, cond_true]
        obtain ⟨m, hm⟩ := rget_rounds K b hm hb r (i + 1) (x + (c - 128).toNat * 2 ^ (7 * i)) hr' (by omega) (by omega) (group_lt hx (by omega))
        refine ⟨m + 1, ?_⟩
        rw [g, z, step, h1, cond_false, cond_pos h2, hm]
      · have z : getW i x (c :: r) = (i, x + c.toNat * 2 ^ (7 * i)) := by simp only [getW, h1, cond_false, h2, decide_false]
        refine ⟨1, ?_⟩
        rw [z, step, h1, cond_false, cond_neg h2]
        cases h3 : decide (c = 0) && decide (0 < i) with
        | true =>
          have g : getG i x (c :: r) = (0, 0, 2) := by simp only [getG, h1, cond_false, h2, decide_false, h3, cond_true]
          rw [g]; rfl
        | false =>
          have g : getG i x (c :: r) = (((x + c.toNat * 2 ^ (7 * i) : Nat) : Int), ((i + 1 : Nat) : Int), 0) := by simp only [getG, h1, cond_false, h2, decide_false, h3]
          rw [g]; rfl
abbrev rgetLC : LoopC := LoopC.of ⟨[(0, .vl u8T), (2, .int .u64), (3, .int .i64), (4, .int .i64), (5, .int .u64), (6, .int .i64)], []⟩
    (fun x => decide (x.1.2.1 = 0) && decide (x.1.2.2.1 = 0) && decide (x.1.2.2.2.1 = 0) && decide (x.1.2.2.2.2.1 = 0) && decide (x.1.2.2.2.2.2.1 = 0))
    fun x => [(decide ((getB x.1.1).2.2 = 4), .exit 0, rgetSt (0, 0, 0) (getW 0 0 x.1.1) x.1.1), (true, .ret, rgetSt (getB x.1.1) (getW 0 0 x.1.1) x.1.1)]
theorem rget_go (b : List Int) (hm : b.length ≤ 9223372036854775807) (hb : ∀ c ∈ b, In .u8 c) : ∃ n, rounds (env []) H.cooperageref1_Get 0 (LPof []) V.cooperageref1_Get_3 L.cooperageref1_Get_3 n (rgetSt (0, 0, 0) (0, 0) b) (fun e s => some (e, s)) =
    pick [(decide ((getB b).2.2 = 4), Ex.exit 0, rgetSt (0, 0, 0) (getW 0 0 b) b), (true, .ret, rgetSt (getB b) (getW 0 0 b) b)] := by
  obtain ⟨m, hm⟩ := rget_rounds (fun e s => some (e, s)) b hm hb b 0 0 rfl (by omega) (by omega) (by simp)
  refine ⟨m, hm.trans ?_⟩
  unfold getB
  simp only [pick]
  cases decide ((getG 0 0 b).2.2 = 4) <;> rfl
theorem rget_lok : LoopOK P0 H.cooperageref1_Get 0 L.cooperageref1_Get_3 rgetLC :=
  loop_ok_of (env_ok env_nil) glob0 mixed0 noLoops V.cooperageref1_Get_3 (by decide) fun ⟨⟨b, a1, a2, a3, a4, i, _⟩, _⟩ h hw => by
    simp only [Bool.and_eq_true, decide_eq_true_eq] at h
    obtain ⟨⟨⟨⟨rfl, rfl⟩, rfl⟩, rfl⟩, rfl⟩ := h
    exact rget_go b hw.1.1.1 hw.1.1.2
theorem rget_ev (b : List Int) : evFn (env []) H.cooperageref1_Get (LPof [(3, rgetLC)]) F.cooperageref1_Get [.vl u8T b] [] (finT [.int .u64, .int .i64, .int .i64]) = bif decide ((getB b).snd.snd = (4 : Int)) then some ((0 : Int), (0 : Int), (4 : Int), ()) else some ((getB b).fst, (getB b).snd.fst, (getB b).snd.snd, ()) := by kernel_rfl

def caseRget : PCase := ⟨[.ty (.sl u8T)], [.int .u64, .int .i64, .int .i64], fun x => (fun (b : List Int) => [(true, ((getB b).1, (getB b).2.1, (getB b).2.2, ()))]) x.1⟩
theorem rget_val (b : List Int) : evFn (env []) H.cooperageref1_Get (LPof [(3, rgetLC)]) F.cooperageref1_Get [.vl u8T b] [] (finT [.int .u64, .int .i64, .int .i64]) = some ((getB b).1, (getB b).2.1, (getB b).2.2, ()) := by
  rw [rget_ev]
  rcases getG_err b 0 0 with h | ⟨h1, h2, h3⟩
  · have e : decide ((getB b).2.2 = 4) = false := by unfold getB; rw [h]; rfl
    simp only [e, Bool.and_false, cond_false, decide_true, Bool.and_true, cond_true]
  · cases e : decide ((getB b).2.2 = 4) with
    | false => simp only [Bool.and_false, cond_false, decide_true, Bool.and_true, cond_true]
    | true =>
      have e := of_decide_eq_true e
      have g1 : (getB b).1 = 0 := h1
      have g2 : (getB b).2.1 = 0 := h2
      simp only [decide_true, Bool.and_true, cond_true, g1, g2, e]
theorem rget_ok : caseRget.ok P0 I.cooperageref1_Get := case_ok2 (H := H.cooperageref1_Get) (E := env []) (env_ok env_nil) glob0 mixed0 G.cooperageref1_Get Bd.cooperageref1_Get (by kernel_rfl) (loops_good (tab := [(3, rgetLC)]) (by kernel_rfl) (fun x hx => by simp at hx; subst hx; exact rget_lok)) fun ⟨b, ()⟩ y h hw => by
  obtain ⟨hc, rfl⟩ := pick_pre h
  exact rget_val b
theorem put_byte7 {x : Int} (h : 0 ≤ x) : IntKind.u8.wrap (((BitVec.ofInt 8 (IntKind.u8.wrap (IntKind.u64.wrap (((BitVec.ofInt 64 x &&& BitVec.ofInt 64 127).toNat : Nat) : Int))) ||| BitVec.ofInt 8 128).toNat : Nat) : Int) = ((x.toNat % 128 + 128 : Nat) : Int) := by
  have e : (BitVec.ofInt 64 x &&& BitVec.ofInt 64 127).toNat = x.toNat % 128 := by
    rw [BitVec.toNat_and, show (BitVec.ofInt 64 127).toNat = 2 ^ 7 - 1 by rfl, Nat.and_two_pow_sub_one_eq_mod, BitVec.toNat_ofInt]
    omega
  have e2 : IntKind.u64.wrap ((x.toNat % 128 : Nat) : Int) = ((x.toNat % 128 : Nat) : Int) := by rw [wrapu64_mod]; omega
  rw [e, e2, put_byte (by omega), Int.toNat_natCast]
  omega
def rputSt (x : Int) (o : List Int) : St := ⟨[(0, .hw 0), (1, .int .u64 x)], [(0, .arr 1 (.int .u8) o [])], 1⟩
theorem rput_rounds {R : Type} (K : Ex → St → Option R) : ∀ (n : Nat) (o : List Int), o.length + (preN n).length < 140737488355328 →
    ∃ m, rounds (env []) H.cooperageref1_Put 0 (LPof []) V.cooperageref1_Put_2 L.cooperageref1_Put_2 m (rputSt n o) K = K (.exit 0) (rputSt (lastN n) (o ++ preN n)) := by
  intro n
  induction n using Nat.strongRecOn with
  | ind n ih =>
    intro o ho
    by_cases h : n < 128
    · refine ⟨1, ?_⟩
      rw [rounds_succ']
      refine (rput_rd _ _ _).trans ?_
      rw [cond_neg (by omega), lastN_lt h, preN_lt h, List.append_nil]
      rfl
    · rw [preN_ge h, List.length_cons] at ho
      obtain ⟨m, hm⟩ := ih (n / 128) (by omega) (o ++ [((n % 128 + 128 : Nat) : Int)]) (by simp only [List.length_append, List.length_cons, List.length_nil]; omega)
      refine ⟨m + 1, ?_⟩
      rw [rounds_succ']
      refine (rput_rd _ _ _).trans ?_
      have e1 := put_byte7 (x := (n : Int)) (by omega)
      have e2 := fdiv128 (x := (n : Int)) (by omega)
      rw [Int.toNat_natCast] at e1 e2
      rw [cond_pos (by omega), e1, e2, cond_pos (by simp only [List.length_append, List.length_cons, List.length_nil]; omega), lastN_ge h, preN_ge h]
      refine Eq.trans hm ?_
      rw [List.append_assoc]
      rfl
abbrev rputLC : LoopC := LoopC.of ⟨[(0, .lit (.hw 0)), (1, .int .u64)], [.arr 1 (.int .u8) []]⟩ (fun x => decide (x.2.1.1.length ≤ 140737488355000))
    fun x => [(true, .exit 0, rputSt (lastN x.1.2.1.toNat) (x.2.1.1 ++ preN x.1.2.1.toNat))]
theorem rput_go (x : Int) (o : List Int) (h : o.length ≤ 140737488355000) (hx : In .u64 x) : ∃ n, rounds (env []) H.cooperageref1_Put 0 (LPof []) V.cooperageref1_Put_2 L.cooperageref1_Put_2 n (rputSt x o) (fun e s => some (e, s)) = some (.exit 0, rputSt (lastN x.toNat) (o ++ preN x.toNat)) := by
  have hx := In.u64.1 hx
  have h9 := preN_len9 (n := x.toNat) (by omega)
  obtain ⟨m, hm⟩ := rput_rounds (fun e s => some (e, s)) x.toNat o (by omega)
  have e : ((x.toNat : Nat) : Int) = x := by omega
  rw [e] at hm
  exact ⟨m, hm⟩
theorem rput_lok : LoopOK P0 H.cooperageref1_Put 0 L.cooperageref1_Put_2 rputLC :=
  loop_ok_of (env_ok env_nil) glob0 mixed0 noLoops V.cooperageref1_Put_2 (by decide) fun ⟨⟨_, x, _⟩, ⟨⟨o, _⟩, _⟩⟩ h hw => rput_go x o (of_decide_eq_true h) hw.1.2.1
theorem rput_ev (b : List Int) (x : Int) : evFn (env []) H.cooperageref1_Put (LPof [(2, rputLC)]) F.cooperageref1_Put [.vl u8T b, .int .u64 x] [] (finV (.lit (.hw 0)) [.arr 1 u8T []] 0) = bif decide (b.length * 1 ≤ 140737488355328) then bif decide (b.length ≤ 140737488355000) && true then bif decide ((b ++ preN x.toNat ++ [IntKind.u8.wrap (↑(lastN x.toNat) : Int)]).length * 1 ≤ 140737488355328) then some ((), (b ++ preN x.toNat ++ [IntKind.u8.wrap (↑(lastN x.toNat) : Int)], ()), ()) else none else none else none := by kernel_rfl

def caseRput : VCase := ⟨[.vl u8T, .int .u64], [], .lit (.hw 0), [.arr 1 u8T []], fun ⟨b, x, ()⟩ () => [(decide (b.length ≤ 140737488355000), ((), ((b ++ putN x.toNat, ()), ())))]⟩
theorem rput_val (b : List Int) (x : Int) (hc : (decide (b.length ≤ 140737488355000)) = true) (hx : In .u64 x) : evFn (env []) H.cooperageref1_Put (LPof [(2, rputLC)]) F.cooperageref1_Put [.vl u8T b, .int .u64 x] [] (finV (.lit (.hw 0)) [.arr 1 u8T []] 0) = some ((), ((b ++ putN x.toNat, ()), ())) := by
  have hb := of_decide_eq_true hc
  have h9 := preN_len9 (n := x.toNat) (by have := (In.u64.1 hx).2; have := (In.u64.1 hx).1; omega)
  rw [rput_ev, cond_pos (by omega), hc, Bool.true_and, cond_true, cond_pos (by simp only [List.length_append, List.length_cons, List.length_nil]; omega), lastN_byte, List.append_assoc]
  rfl
theorem rput_ok : caseRput.e.ok P0 I.cooperageref1_Put := vcase_ok (c := caseRput) (H := H.cooperageref1_Put) (E := env []) (env_ok env_nil) glob0 mixed0 G.cooperageref1_Put Bd.cooperageref1_Put (by kernel_rfl) (loops_good (tab := [(2, rputLC)]) (by kernel_rfl) (fun x hx => by simp at hx; subst hx; exact rput_lok)) fun ⟨b, x, ()⟩ () r h hw1 hw2 => by
  obtain ⟨hc, rfl⟩ := pick_pre h
  exact rput_val b x hc hw1.2.1
noncomputable abbrev consF2 : List (FuncId × Con) := [(I.crc_Sum, .pure (pureOf [caseCrcS])), (I.cooperageref1_Sum, .pure (pureOf [caseRcrcS])), (I.frame_written, .pure (pureOf [caseWrit])), (I.cooperageref1_Put, .eff (effOf [caseRput.e])), (I.cooperageref1_Get, .pure (pureOf [caseRget])), (I.varint_Get, .pure (pureOf [caseVget])), (I.varint_Put, .eff (effOf [caseVput.e])), (I.bytes_Equal, .pure (pureOf [caseBeq]))]
theorem consF2_ok : ∀ x ∈ consF2, HoldsC P0 x.1 x.2 := by
  intro x hx
  simp at hx
  rcases hx with rfl | rfl | rfl | rfl | rfl | rfl | rfl | rfl
  · exact ⟨pureOf_holds (by simp; exact crcs_ok), C.crc_Sum⟩
  · exact ⟨pureOf_holds (by simp; exact rcrcs_ok), C.cooperageref1_Sum⟩
  · exact ⟨pureOf_holds (by simp; exact writ_ok), C.frame_written⟩
  · exact ⟨fun args objs r objs2 h _ => effOf_holds (by simp; exact rput_ok) args objs r objs2 h, C.cooperageref1_Put⟩
  · exact ⟨pureOf_holds (by simp; exact rget_ok), C.cooperageref1_Get⟩
  · exact ⟨pureOf_holds (by simp; exact vget_ok), C.varint_Get⟩
  · exact ⟨fun args objs r objs2 h _ => effOf_holds (by simp; exact vput_ok) args objs r objs2 h, C.varint_Put⟩
  · exact ⟨pureOf_holds (by simp; exact beq_ok), C.bytes_Equal⟩
theorem fput_ev (b p : List Int) : evFn (env consF2) H.frame_Put (LPof []) F.frame_Put [.vl u8T b, .vl u8T p] [] (finT [.sl u8T]) = bif decide (b.length ≤ 140737488355000) then bif decide ((b ++ putN (IntKind.u64.wrap (↑p.length : Int)).toNat ++ writI (sumI p)).length * 1 ≤ 140737488355328) then bif decide ((b ++ putN (IntKind.u64.wrap (↑p.length : Int)).toNat ++ writI (sumI p) ++ p).length * 1 ≤ 140737488355328) then some (b ++ putN (IntKind.u64.wrap (↑p.length : Int)).toNat ++ writI (sumI p) ++ p, ()) else none else none else none := by kernel_rfl

theorem fget_ev (b : List Int) : evFn (env consF2) H.frame_Get (LPof []) F.frame_Get [.vl u8T b] [] (finT [.sl u8T, .int .i64, .int .i64]) = bif (getB b).snd.snd != (0 : Int) then some ([], (0 : Int), (getB b).snd.snd, ()) else bif decide ((getB b).fst > (16777216 : Int)) then some ([], (0 : Int), (3 : Int), ()) else bif decide (IntKind.i64.wrap ((↑b.length : Int) - (getB b).snd.fst) < IntKind.i64.wrap ((4 : Int) + IntKind.i64.wrap (getB b).fst)) then some ([], (0 : Int), (4 : Int), ()) else bif decide ((0 : Int) ≤ IntKind.i64.wrap (IntKind.i64.wrap ((getB b).snd.fst + (4 : Int)) + IntKind.i64.wrap (getB b).fst)) && decide (IntKind.i64.wrap (IntKind.i64.wrap ((getB b).snd.fst + (4 : Int)) + IntKind.i64.wrap (getB b).fst) ≤ (↑b.length : Int)) then bif decide ((0 : Int) ≤ IntKind.i64.wrap ((getB b).snd.fst + (4 : Int))) && decide (IntKind.i64.wrap ((getB b).snd.fst + (4 : Int)) ≤ IntKind.i64.wrap (IntKind.i64.wrap ((getB b).snd.fst + (4 : Int)) + IntKind.i64.wrap (getB b).fst)) then bif decide ((List.drop (IntKind.i64.wrap ((getB b).snd.fst + (4 : Int))).toNat (List.take (IntKind.i64.wrap (IntKind.i64.wrap ((getB b).snd.fst + (4 : Int)) + IntKind.i64.wrap (getB b).fst)).toNat b)).length * 1 ≤ 140737488355328) then bif decide ((0 : Int) ≤ IntKind.i64.wrap ((getB b).snd.fst + (4 : Int))) && decide (IntKind.i64.wrap ((getB b).snd.fst + (4 : Int)) ≤ (↑b.length : Int)) then bif decide ((0 : Int) ≤ (getB b).snd.fst) && decide ((getB b).snd.fst ≤ IntKind.i64.wrap ((getB b).snd.fst + (4 : Int))) then bif !ofBytes (List.drop (getB b).snd.fst.toNat (List.take (IntKind.i64.wrap ((getB b).snd.fst + (4 : Int))).toNat b)) == ofBytes (writI (sumI (List.drop (IntKind.i64.wrap ((getB b).snd.fst + (4 : Int))).toNat (List.take (IntKind.i64.wrap (IntKind.i64.wrap ((getB b).snd.fst + (4 : Int)) + IntKind.i64.wrap (getB b).fst)).toNat b)))) then some ([], (0 : Int), (5 : Int), ()) else some (List.drop (IntKind.i64.wrap ((getB b).snd.fst + (4 : Int))).toNat (List.take (IntKind.i64.wrap (IntKind.i64.wrap ((getB b).snd.fst + (4 : Int)) + IntKind.i64.wrap (getB b).fst)).toNat b), IntKind.i64.wrap (IntKind.i64.wrap ((getB b).snd.fst + (4 : Int)) + IntKind.i64.wrap (getB b).fst), (0 : Int), ()) else none else none else none else none else none := by kernel_rfl

theorem rfput_ev (b p : List Int) : evFn (env consF2) H.cooperageref1_PutFrame (LPof []) F.cooperageref1_PutFrame [.vl u8T b, .vl u8T p] [] (finT [.sl u8T]) = bif decide (b.length ≤ 140737488355000) then bif decide ((b ++ putN (IntKind.u64.wrap (↑p.length : Int)).toNat ++ [IntKind.u8.wrap ((sumI p).fdiv (16777216 : Int)), IntKind.u8.wrap ((sumI p).fdiv (65536 : Int)), IntKind.u8.wrap ((sumI p).fdiv (256 : Int)), IntKind.u8.wrap (sumI p)]).length * 1 ≤ 140737488355328) then bif decide ((b ++ putN (IntKind.u64.wrap (↑p.length : Int)).toNat ++ [IntKind.u8.wrap ((sumI p).fdiv (16777216 : Int)), IntKind.u8.wrap ((sumI p).fdiv (65536 : Int)), IntKind.u8.wrap ((sumI p).fdiv (256 : Int)), IntKind.u8.wrap (sumI p)] ++ p).length * 1 ≤ 140737488355328) then some (b ++ putN (IntKind.u64.wrap (↑p.length : Int)).toNat ++ [IntKind.u8.wrap ((sumI p).fdiv (16777216 : Int)), IntKind.u8.wrap ((sumI p).fdiv (65536 : Int)), IntKind.u8.wrap ((sumI p).fdiv (256 : Int)), IntKind.u8.wrap (sumI p)] ++ p, ()) else none else none else none := by kernel_rfl

theorem rfget_ev (b : List Int) : evFn (env consF2) H.cooperageref1_GetFrame (LPof []) F.cooperageref1_GetFrame [.vl u8T b] [] (finT [.sl u8T, .int .i64, .int .i64]) = bif (getB b).snd.snd != (0 : Int) then some ([], (0 : Int), (getB b).snd.snd, ()) else bif decide ((getB b).fst > (16777216 : Int)) then some ([], (0 : Int), (3 : Int), ()) else bif decide (IntKind.i64.wrap (IntKind.i64.wrap ((↑b.length : Int) - (getB b).snd.fst) - (4 : Int)) < IntKind.i64.wrap (getB b).fst) then some ([], (0 : Int), (4 : Int), ()) else bif decide ((0 : Int) ≤ (getB b).snd.fst) && decide ((getB b).snd.fst < (↑b.length : Int)) then bif decide ((0 : Int) ≤ IntKind.i64.wrap ((getB b).snd.fst + (1 : Int))) && decide (IntKind.i64.wrap ((getB b).snd.fst + (1 : Int)) < (↑b.length : Int)) then bif decide ((0 : Int) ≤ IntKind.i64.wrap ((getB b).snd.fst + (2 : Int))) && decide (IntKind.i64.wrap ((getB b).snd.fst + (2 : Int)) < (↑b.length : Int)) then bif decide ((0 : Int) ≤ IntKind.i64.wrap ((getB b).snd.fst + (3 : Int))) && decide (IntKind.i64.wrap ((getB b).snd.fst + (3 : Int)) < (↑b.length : Int)) then bif decide ((0 : Int) ≤ IntKind.i64.wrap (IntKind.i64.wrap ((getB b).snd.fst + (4 : Int)) + IntKind.i64.wrap (getB b).fst)) && decide (IntKind.i64.wrap (IntKind.i64.wrap ((getB b).snd.fst + (4 : Int)) + IntKind.i64.wrap (getB b).fst) ≤ (↑b.length : Int)) then bif decide ((0 : Int) ≤ IntKind.i64.wrap ((getB b).snd.fst + (4 : Int))) && decide (IntKind.i64.wrap ((getB b).snd.fst + (4 : Int)) ≤ IntKind.i64.wrap (IntKind.i64.wrap ((getB b).snd.fst + (4 : Int)) + IntKind.i64.wrap (getB b).fst)) then bif sumI (List.drop (IntKind.i64.wrap ((getB b).snd.fst + (4 : Int))).toNat (List.take (IntKind.i64.wrap (IntKind.i64.wrap ((getB b).snd.fst + (4 : Int)) + IntKind.i64.wrap (getB b).fst)).toNat b)) != IntKind.u32.wrap (↑(BitVec.ofInt 32 (IntKind.u32.wrap (↑(BitVec.ofInt 32 (IntKind.u32.wrap (↑(BitVec.ofInt 32 (IntKind.u32.wrap (IntKind.u32.wrap (b.getD (getB b).snd.fst.toNat (0 : Int)) * (16777216 : Int))) ||| BitVec.ofInt 32 (IntKind.u32.wrap (IntKind.u32.wrap (b.getD (IntKind.i64.wrap ((getB b).snd.fst + (1 : Int))).toNat (0 : Int)) * (65536 : Int)))).toNat : Int)) ||| BitVec.ofInt 32 (IntKind.u32.wrap (IntKind.u32.wrap (b.getD (IntKind.i64.wrap ((getB b).snd.fst + (2 : Int))).toNat (0 : Int)) * (256 : Int)))).toNat : Int)) ||| BitVec.ofInt 32 (IntKind.u32.wrap (b.getD (IntKind.i64.wrap ((getB b).snd.fst + (3 : Int))).toNat (0 : Int)))).toNat : Int) then some ([], (0 : Int), (5 : Int), ()) else bif decide ((List.drop (IntKind.i64.wrap ((getB b).snd.fst + (4 : Int))).toNat (List.take (IntKind.i64.wrap (IntKind.i64.wrap ((getB b).snd.fst + (4 : Int)) + IntKind.i64.wrap (getB b).fst)).toNat b)).length * 1 ≤ 140737488355328) then some (List.drop (IntKind.i64.wrap ((getB b).snd.fst + (4 : Int))).toNat (List.take (IntKind.i64.wrap (IntKind.i64.wrap ((getB b).snd.fst + (4 : Int)) + IntKind.i64.wrap (getB b).fst)).toNat b), IntKind.i64.wrap (IntKind.i64.wrap ((getB b).snd.fst + (4 : Int)) + IntKind.i64.wrap (getB b).fst), (0 : Int), ()) else none else none else none else none else none else none else none := by kernel_rfl

/-- A frame. -/
def frameE (p : List Int) : List Int := putN p.length ++ writI (sumI p) ++ p
/-- What a frame's reader answers. -/
def getF (b : List Int) : List Int × Int × Int :=
  let g := getB b
  bif g.2.2 != 0 then ([], 0, g.2.2) else bif decide (g.1 > 16777216) then ([], 0, 3) else bif decide ((b.length : Int) - g.2.1 < 4 + g.1) then ([], 0, 4) else
  let p := (b.take (g.2.1 + 4 + g.1).toNat).drop (g.2.1 + 4).toNat
  bif ofBytes ((b.take (g.2.1 + 4).toNat).drop g.2.1.toNat) == ofBytes (writI (sumI p)) then (p, g.2.1 + 4 + g.1, 0) else ([], 0, 5)
theorem sumI_in (p : List Int) : 0 ≤ sumI p ∧ sumI p ≤ 4294967295 := by
  have := (sumB p).isLt
  unfold sumI
  omega
theorem writI_len (x : Int) : (writI x).length = 4 := rfl
theorem writI_in (x : Int) : ∀ c ∈ writI x, In .u8 c := by
  intro c hc
  unfold writI at hc
  simp only [List.mem_cons, List.not_mem_nil, or_false, wrapu8_mod] at hc
  apply In.u8'.2
  omega
theorem or_add {a b j : Nat} (hb : b < 2 ^ j) (h : a * 2 ^ j + b < 4294967296) {x y : Int} (hx : x = ((a * 2 ^ j : Nat) : Int)) (hy : y = (b : Int)) : IntKind.u32.wrap (((BitVec.ofInt 32 x ||| BitVec.ofInt 32 y).toNat : Nat) : Int) = ((a * 2 ^ j + b : Nat) : Int) := by
  subst hx; subst hy
  have e1 : (BitVec.ofInt 32 ((a * 2 ^ j : Nat) : Int)).toNat = a * 2 ^ j := by rw [BitVec.toNat_ofInt]; omega
  have e2 : (BitVec.ofInt 32 (b : Int)).toNat = b := by rw [BitVec.toNat_ofInt]; omega
  have e3 : a * 2 ^ j ||| b = a * 2 ^ j + b := by
    have := Nat.shiftLeft_add_eq_or_of_lt hb a
    rw [Nat.shiftLeft_eq] at this
    exact this.symm
  rw [BitVec.toNat_or, e1, e2, e3]
  exact wrap_in (In.u32.2 ⟨by omega, by omega⟩)
theorem or_four {b0 b1 b2 b3 : Int} (h0 : In .u8 b0) (h1 : In .u8 b1) (h2 : In .u8 b2) (h3 : In .u8 b3) :
    IntKind.u32.wrap (((BitVec.ofInt 32 (IntKind.u32.wrap (((BitVec.ofInt 32 (IntKind.u32.wrap (((BitVec.ofInt 32 (IntKind.u32.wrap (IntKind.u32.wrap b0 * 16777216)) ||| BitVec.ofInt 32 (IntKind.u32.wrap (IntKind.u32.wrap b1 * 65536))).toNat : Nat) : Int)) |||
      BitVec.ofInt 32 (IntKind.u32.wrap (IntKind.u32.wrap b2 * 256))).toNat : Nat) : Int)) ||| BitVec.ofInt 32 (IntKind.u32.wrap b3)).toNat : Nat) : Int) = b0 * 16777216 + b1 * 65536 + b2 * 256 + b3 := by
  have c0 := In.u8'.1 h0
  have c1 := In.u8'.1 h1
  have c2 := In.u8'.1 h2
  have c3 := In.u8'.1 h3
  have w0 : IntKind.u32.wrap (b0 * 16777216) = b0 * 16777216 := wrap_in (In.u32.2 ⟨by omega, by omega⟩)
  have w1 : IntKind.u32.wrap (b1 * 65536) = b1 * 65536 := wrap_in (In.u32.2 ⟨by omega, by omega⟩)
  have w2 : IntKind.u32.wrap (b2 * 256) = b2 * 256 := wrap_in (In.u32.2 ⟨by omega, by omega⟩)
  rw [u32_byte h0, u32_byte h1, u32_byte h2, u32_byte h3, w0, w1, w2]
  have s1 := or_add (a := b0.toNat) (b := b1.toNat * 65536) (j := 24) (by omega) (by omega) (x := b0 * 16777216) (y := b1 * 65536) (by omega) (by omega)
  have s2 := or_add (a := b0.toNat * 256 + b1.toNat) (b := b2.toNat * 256) (j := 16) (by omega) (by omega) (x := ((b0.toNat * 2 ^ 24 + b1.toNat * 65536 : Nat) : Int)) (y := b2 * 256) (by omega) (by omega)
  have s3 := or_add (a := b0.toNat * 65536 + b1.toNat * 256 + b2.toNat) (b := b3.toNat) (j := 8) (by omega) (by omega) (x := (((b0.toNat * 256 + b1.toNat) * 2 ^ 16 + b2.toNat * 256 : Nat) : Int)) (y := b3) (by omega) (by omega)
  rw [s1, s2, s3]
  omega
theorem bytes_of {l : List Int} (h : ∀ x ∈ l, In .u8 x) : bytesOf (ofBytes l) = l := by
  induction l with
  | nil => rfl
  | cons c l ih =>
    have hc := In.u8'.1 (h c (by simp))
    have ih := ih (fun x hx => h x (List.mem_cons_of_mem _ hx))
    unfold bytesOf ofBytes at ih ⊢
    simp only [List.map_cons, List.cons.injEq]
    refine ⟨?_, ih⟩
    have : (UInt8.ofNat c.toNat).toNat = c.toNat := by rw [UInt8.toNat_ofNat']; omega
    omega
theorem writ_eq {b0 b1 b2 b3 s : Int} (h0 : In .u8 b0) (h1 : In .u8 b1) (h2 : In .u8 b2) (h3 : In .u8 b3) (hs : 0 ≤ s ∧ s ≤ 4294967295) : (s != b0 * 16777216 + b1 * 65536 + b2 * 256 + b3) = !(ofBytes [b0, b1, b2, b3] == ofBytes (writI s)) := by
  have c0 := In.u8'.1 h0
  have c1 := In.u8'.1 h1
  have c2 := In.u8'.1 h2
  have c3 := In.u8'.1 h3
  have key : s = b0 * 16777216 + b1 * 65536 + b2 * 256 + b3 ↔ [b0, b1, b2, b3] = writI s := by
    unfold writI
    simp only [wrapu8_mod, List.cons.injEq, and_true]
    rw [Int.fdiv_eq_ediv_of_nonneg _ (by omega), Int.fdiv_eq_ediv_of_nonneg _ (by omega), Int.fdiv_eq_ediv_of_nonneg _ (by omega)]
    omega
  have inj : ofBytes [b0, b1, b2, b3] = ofBytes (writI s) → [b0, b1, b2, b3] = writI s := fun h => by
    have := congrArg bytesOf h
    rwa [bytes_of (by intro x hx; simp only [List.mem_cons, List.not_mem_nil, or_false] at hx; rcases hx with rfl | rfl | rfl | rfl <;> assumption), bytes_of (writI_in s)] at this
  by_cases h : s = b0 * 16777216 + b1 * 65536 + b2 * 256 + b3
  · have e : ofBytes [b0, b1, b2, b3] = ofBytes (writI s) := by rw [key.1 h]
    have e1 : (s != b0 * 16777216 + b1 * 65536 + b2 * 256 + b3) = false := by simpa using h
    rw [e, e1]; simp
  · have e : ¬ ofBytes [b0, b1, b2, b3] = ofBytes (writI s) := fun hh => h (key.2 (inj hh))
    have e1 : (s != b0 * 16777216 + b1 * 65536 + b2 * 256 + b3) = true := by simpa using h
    have e2 : (ofBytes [b0, b1, b2, b3] == ofBytes (writI s)) = false := by simpa using e
    rw [e1, e2]; rfl
theorem four_at {b : List Int} {n : Nat} (h : n + 4 ≤ b.length) : (b.take (n + 4)).drop n = [b.getD n 0, b.getD (n + 1) 0, b.getD (n + 2) 0, b.getD (n + 3) 0] := by
  apply List.ext_getElem
  · simp; omega
  · intro i h1 h2
    simp only [List.length_cons, List.length_nil] at h2
    simp only [List.getElem_drop, List.getElem_take]
    rcases (show i = 0 ∨ i = 1 ∨ i = 2 ∨ i = 3 by omega) with rfl | rfl | rfl | rfl <;> simp only [List.getElem_cons_zero, List.getElem_cons_succ, List.getD_eq_getElem?_getD] <;> rw [List.getElem?_eq_getElem (by omega)] <;> rfl
theorem getD_in {b : List Int} (hb : ∀ c ∈ b, In .u8 c) {n : Nat} (h : n < b.length) : In .u8 (b.getD n 0) := by
  rw [List.getD_eq_getElem?_getD, List.getElem?_eq_getElem h]
  exact hb _ (List.getElem_mem h)
def caseFput : PCase := ⟨[.ty (.sl u8T), .ty (.sl u8T)], [.sl u8T], fun x => (fun (b p : List Int) => [(decide (b.length + p.length ≤ 140737488350000), (b ++ frameE p, ()))]) x.1 x.2.1⟩
theorem fput_val (b p : List Int) (hc : (decide (b.length + p.length ≤ 140737488350000)) = true) : evFn (env consF2) H.frame_Put (LPof []) F.frame_Put [.vl u8T b, .vl u8T p] [] (finT [.sl u8T]) = some (b ++ frameE p, ()) := by
  have h := of_decide_eq_true hc
  have h9 := putN_len (n := p.length) (by omega)
  rw [fput_ev, wrapu64 (by omega) (by omega), Int.toNat_natCast, cond_pos (by omega), cond_pos (by simp only [List.length_append, writI_len]; omega), cond_pos (by simp only [List.length_append, writI_len]; omega)]
  unfold frameE
  simp only [List.append_assoc]
theorem fput_ok : caseFput.ok P0 I.frame_Put := case_ok2 (H := H.frame_Put) (E := env consF2) (env_ok consF2_ok) glob0 mixed0 G.frame_Put Bd.frame_Put (by kernel_rfl) noLoops fun ⟨b, p, ()⟩ y h hw => by
  obtain ⟨hc, rfl⟩ := pick_pre h
  exact fput_val b p hc
def caseRfput : PCase := ⟨[.ty (.sl u8T), .ty (.sl u8T)], [.sl u8T], fun x => (fun (b p : List Int) => [(decide (b.length + p.length ≤ 140737488350000), (b ++ frameE p, ()))]) x.1 x.2.1⟩
theorem rfput_val (b p : List Int) (hc : (decide (b.length + p.length ≤ 140737488350000)) = true) : evFn (env consF2) H.cooperageref1_PutFrame (LPof []) F.cooperageref1_PutFrame [.vl u8T b, .vl u8T p] [] (finT [.sl u8T]) = some (b ++ frameE p, ()) := by
  have h := of_decide_eq_true hc
  have h9 := putN_len (n := p.length) (by omega)
  rw [rfput_ev, wrapu64 (by omega) (by omega), Int.toNat_natCast]
  have e : [IntKind.u8.wrap ((sumI p).fdiv 16777216), IntKind.u8.wrap ((sumI p).fdiv 65536), IntKind.u8.wrap ((sumI p).fdiv 256), IntKind.u8.wrap (sumI p)] = writI (sumI p) := rfl
  rw [e, cond_pos (by omega), cond_pos (by simp only [List.length_append, writI_len]; omega), cond_pos (by simp only [List.length_append, writI_len]; omega)]
  unfold frameE
  simp only [List.append_assoc]
theorem rfput_ok : caseRfput.ok P0 I.cooperageref1_PutFrame := case_ok2 (H := H.cooperageref1_PutFrame) (E := env consF2) (env_ok consF2_ok) glob0 mixed0 G.cooperageref1_PutFrame Bd.cooperageref1_PutFrame (by kernel_rfl) noLoops fun ⟨b, p, ()⟩ y h hw => by
  obtain ⟨hc, rfl⟩ := pick_pre h
  exact rfput_val b p hc
def caseFget : PCase := ⟨[.ty (.sl u8T)], [.sl u8T, .int .i64, .int .i64], fun x => (fun (b : List Int) => [(true, ((getF b).1, (getF b).2.1, (getF b).2.2, ()))]) x.1⟩
theorem fget_val (b : List Int) (hw : wfT (.sl u8T) b) : evFn (env consF2) H.frame_Get (LPof []) F.frame_Get [.vl u8T b] [] (finT [.sl u8T, .int .i64, .int .i64]) = some ((getF b).1, (getF b).2.1, (getF b).2.2, ()) := by
  rw [fget_ev]
  have hm : b.length ≤ maxL := hw.1
  unfold maxL at hm
  have g1 := getG_nonneg b 0 0
  have g2 := getB_len b
  unfold getF
  simp only
  have g1 : 0 ≤ (getB b).1 := g1
  generalize getB b = g at g1 g2 ⊢
  obtain ⟨x, n, e⟩ := g
  simp only at g1 g2 ⊢
  cases he : e != 0 with
  | true => rfl
  | false =>
    simp only [cond_false]
    by_cases hx : x > 16777216
    · simp only [hx, decide_true, cond_true]
    · have w1 : IntKind.i64.wrap x = x := wrap64 (by omega) (by omega)
      have w2 : IntKind.i64.wrap ((b.length : Int) - n) = (b.length : Int) - n := wrap64 (by omega) (by omega)
      have w3 : IntKind.i64.wrap (4 + x) = 4 + x := wrap64 (by omega) (by omega)
      simp only [hx, decide_false, cond_false, w1, w2, w3]
      by_cases hl : (b.length : Int) - n < 4 + x
      · simp only [hl, decide_true, cond_true]
      · have w4 : IntKind.i64.wrap (n + 4) = n + 4 := wrap64 (by omega) (by omega)
        have w5 : IntKind.i64.wrap (n + 4 + x) = n + 4 + x := wrap64 (by omega) (by omega)
        simp only [hl, decide_false, cond_false, w4, w5]
        rw [cond_pos2 (by omega) (by omega), cond_pos2 (by omega) (by omega), cond_pos (by simp only [List.length_drop, List.length_take]; omega), cond_pos2 (by omega) (by omega), cond_pos2 (by omega) (by omega)]
        cases ofBytes (List.drop n.toNat (List.take (n + 4).toNat b)) == ofBytes (writI (sumI (List.drop (n + 4).toNat (List.take (n + 4 + x).toNat b)))) <;> rfl
theorem fget_ok : caseFget.ok P0 I.frame_Get := case_ok2 (H := H.frame_Get) (E := env consF2) (env_ok consF2_ok) glob0 mixed0 G.frame_Get Bd.frame_Get (by kernel_rfl) noLoops fun ⟨b, ()⟩ y h hw => by
  obtain ⟨hc, rfl⟩ := pick_pre h
  exact fget_val b hw.1
def caseRfget : PCase := ⟨[.ty (.sl u8T)], [.sl u8T, .int .i64, .int .i64], fun x => (fun (b : List Int) => [(true, ((getF b).1, (getF b).2.1, (getF b).2.2, ()))]) x.1⟩
theorem rfget_val (b : List Int) (hw : wfT (.sl u8T) b) : evFn (env consF2) H.cooperageref1_GetFrame (LPof []) F.cooperageref1_GetFrame [.vl u8T b] [] (finT [.sl u8T, .int .i64, .int .i64]) = some ((getF b).1, (getF b).2.1, (getF b).2.2, ()) := by
  rw [rfget_ev]
  have hm : b.length ≤ maxL := hw.1
  have hb : ∀ c ∈ b, In .u8 c := hw.2
  unfold maxL at hm
  have g1 := getG_nonneg b 0 0
  have g2 := getB_len b
  unfold getF
  simp only
  have g1 : 0 ≤ (getB b).1 := g1
  generalize getB b = g at g1 g2 ⊢
  obtain ⟨x, n, e⟩ := g
  simp only at g1 g2 ⊢
  cases he : e != 0 with
  | true => rfl
  | false =>
    simp only [cond_false]
    by_cases hx : x > 16777216
    · simp only [hx, decide_true, cond_true]
    · have w1 : IntKind.i64.wrap x = x := wrap64 (by omega) (by omega)
      have w2 : IntKind.i64.wrap ((b.length : Int) - n) = (b.length : Int) - n := wrap64 (by omega) (by omega)
      have w3 : IntKind.i64.wrap ((b.length : Int) - n - 4) = (b.length : Int) - n - 4 := wrap64 (by omega) (by omega)
      simp only [hx, decide_false, cond_false, w1, w2, w3]
      by_cases hl : (b.length : Int) - n < 4 + x
      · have hl2 : (b.length : Int) - n - 4 < x := by omega
        simp only [hl, hl2, decide_true, cond_true]
      · have hl2 : ¬ (b.length : Int) - n - 4 < x := by omega
        have w4 : IntKind.i64.wrap (n + 4) = n + 4 := wrap64 (by omega) (by omega)
        have w5 : IntKind.i64.wrap (n + 4 + x) = n + 4 + x := wrap64 (by omega) (by omega)
        have v1 : IntKind.i64.wrap (n + 1) = n + 1 := wrap64 (by omega) (by omega)
        have v2 : IntKind.i64.wrap (n + 2) = n + 2 := wrap64 (by omega) (by omega)
        have v3 : IntKind.i64.wrap (n + 3) = n + 3 := wrap64 (by omega) (by omega)
        simp only [hl, hl2, decide_false, cond_false, w4, w5, v1, v2, v3]
        rw [cond_pos2 (by omega) (by omega), cond_pos2 (by omega) (by omega), cond_pos2 (by omega) (by omega), cond_pos2 (by omega) (by omega), cond_pos2 (by omega) (by omega), cond_pos2 (by omega) (by omega)]
        have a1 : (n + 1).toNat = n.toNat + 1 := by omega
        have a2 : (n + 2).toNat = n.toNat + 2 := by omega
        have a3 : (n + 3).toNat = n.toNat + 3 := by omega
        have a4 : (n + 4).toNat = n.toNat + 4 := by omega
        rw [a1, a2, a3, or_four (getD_in hb (by omega)) (getD_in hb (by omega)) (getD_in hb (by omega)) (getD_in hb (by omega)), writ_eq (getD_in hb (by omega)) (getD_in hb (by omega)) (getD_in hb (by omega)) (getD_in hb (by omega)) (sumI_in _), a4, four_at (by omega)]
        rw [cond_pos (by simp only [List.length_drop, List.length_take]; omega)]
        cases ofBytes [b.getD n.toNat 0, b.getD (n.toNat + 1) 0, b.getD (n.toNat + 2) 0, b.getD (n.toNat + 3) 0] == ofBytes (writI (sumI (List.drop (n.toNat + 4) (List.take (n + 4 + x).toNat b)))) <;> rfl
theorem rfget_ok : caseRfget.ok P0 I.cooperageref1_GetFrame := case_ok2 (H := H.cooperageref1_GetFrame) (E := env consF2) (env_ok consF2_ok) glob0 mixed0 G.cooperageref1_GetFrame Bd.cooperageref1_GetFrame (by kernel_rfl) noLoops fun ⟨b, ()⟩ y h hw => by
  obtain ⟨hc, rfl⟩ := pick_pre h
  exact rfget_val b hw.1
end Go.Sim
