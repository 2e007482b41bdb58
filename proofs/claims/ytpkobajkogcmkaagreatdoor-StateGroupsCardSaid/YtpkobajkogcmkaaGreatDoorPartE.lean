/-
  WkU3: walks of records' bytes. · WkU4: walks of a log of segments: New, Seal, Append. · WkU5: walks of a log of segments: Append, all. · WkU6: walks of a log of segments: Clone, all, Segments; segments alike. · WkU7: the law SegsSeals. · SimCut: code in parts. · WkY1: walks of a log: Find; records from an offset on. · WkVal: the walks of names.Valid and of what it calls. · PlSgn: one rune's bytes, in plain Lean. · PlRn: the document's own rune reader, in plain Lean. · WkRvl: the walks of the document's own reader of names. · WkS1: walks of leaves of service and command. · WkS2: walks of loops over records. · WkS3: walks of command.Right, of the document's Right and of service.Check.
-/
import Derived.Test.YtpkobajkogcmkaaGreatDoorPartD
namespace Go.Sim.XU
set_option linter.unusedSimpArgs false
set_option linter.unusedVariables false
set_option maxRecDepth 10000
noncomputable abbrev consR1 : List (FuncId × Con) := [(I.record_Right, .pure (pureOf [caseRecright])), (I.varint_Put, .eff (effOf [caseVput.e])), (I.varint_Fold, .pure (pureOf [caseFold]))]
theorem consR1_ok : ∀ x ∈ consR1, HoldsC P0 x.1 x.2 := by
  intro x hx
  simp at hx
  rcases hx with rfl | rfl | rfl
  · exact ⟨pureOf_holds (by simp; exact recright_ok), C.record_Right⟩
  · exact ⟨fun args objs r objs2 h _ => effOf_holds (by simp; exact vput_ok) args objs r objs2 h, C.varint_Put⟩
  · exact ⟨pureOf_holds (by simp; exact vfold_ok), C.varint_Fold⟩
theorem recput_ev (b : List Int) (r : Rec) : evFn (env consR1) H.record_Put (LPof []) F.record_Put [.vl u8T b, valOf recT r] [] (finV (.lit (.hw 0)) [.arr 1 u8T []] 0) = bif decide (b.length * 1 ≤ 140737488355328) then bif !recR r then some ((), (b, ()), ()) else bif decide (b.length ≤ 140737488355000) then bif decide (List.length (b ++ putN (IntKind.u64.wrap r.fst).toNat) ≤ 140737488355000) then bif r.snd.snd.snd.snd then bif decide ((b ++ putN (IntKind.u64.wrap r.fst).toNat ++ putN (foldV r.snd.fst).toNat ++ [(1 : Int)]).length * 1 ≤ 140737488355328) then bif decide ((b ++ putN (IntKind.u64.wrap r.fst).toNat ++ putN (foldV r.snd.fst).toNat ++ [(1 : Int)]).length ≤ 140737488355000) then bif decide ((b ++ putN (IntKind.u64.wrap r.fst).toNat ++ putN (foldV r.snd.fst).toNat ++ [(1 : Int)] ++ putN (IntKind.u64.wrap (↑(List.length r.snd.snd.fst) : Int)).toNat ++ bytesOf r.snd.snd.fst).length * 1 ≤ 140737488355328) then bif decide ((b ++ putN (IntKind.u64.wrap r.fst).toNat ++ putN (foldV r.snd.fst).toNat ++ [(1 : Int)] ++ putN (IntKind.u64.wrap (↑(List.length r.snd.snd.fst) : Int)).toNat ++ bytesOf r.snd.snd.fst).length ≤ 140737488355000) then bif decide ((b ++ putN (IntKind.u64.wrap r.fst).toNat ++ putN (foldV r.snd.fst).toNat ++ [(1 : Int)] ++ putN (IntKind.u64.wrap (↑(List.length r.snd.snd.fst) : Int)).toNat ++ bytesOf r.snd.snd.fst ++ putN (IntKind.u64.wrap (↑(List.length r.snd.snd.snd.fst) : Int)).toNat ++ bytesOf r.snd.snd.snd.fst).length * 1 ≤ 140737488355328) then some ((), (b ++ putN (IntKind.u64.wrap r.fst).toNat ++ putN (foldV r.snd.fst).toNat ++ [(1 : Int)] ++ putN (IntKind.u64.wrap (↑(List.length r.snd.snd.fst) : Int)).toNat ++ bytesOf r.snd.snd.fst ++ putN (IntKind.u64.wrap (↑(List.length r.snd.snd.snd.fst) : Int)).toNat ++ bytesOf r.snd.snd.snd.fst, ()), ()) else none else none else none else none else none else bif decide ((b ++ putN (IntKind.u64.wrap r.fst).toNat ++ putN (foldV r.snd.fst).toNat ++ [(0 : Int)]).length * 1 ≤ 140737488355328) then bif decide ((b ++ putN (IntKind.u64.wrap r.fst).toNat ++ putN (foldV r.snd.fst).toNat ++ [(0 : Int)]).length ≤ 140737488355000) then bif decide ((b ++ putN (IntKind.u64.wrap r.fst).toNat ++ putN (foldV r.snd.fst).toNat ++ [(0 : Int)] ++ putN (IntKind.u64.wrap (↑(List.length r.snd.snd.fst) : Int)).toNat ++ bytesOf r.snd.snd.fst).length * 1 ≤ 140737488355328) then bif decide ((b ++ putN (IntKind.u64.wrap r.fst).toNat ++ putN (foldV r.snd.fst).toNat ++ [(0 : Int)] ++ putN (IntKind.u64.wrap (↑(List.length r.snd.snd.fst) : Int)).toNat ++ bytesOf r.snd.snd.fst).length ≤ 140737488355000) then bif decide ((b ++ putN (IntKind.u64.wrap r.fst).toNat ++ putN (foldV r.snd.fst).toNat ++ [(0 : Int)] ++ putN (IntKind.u64.wrap (↑(List.length r.snd.snd.fst) : Int)).toNat ++ bytesOf r.snd.snd.fst ++ putN (IntKind.u64.wrap (↑(List.length r.snd.snd.snd.fst) : Int)).toNat ++ bytesOf r.snd.snd.snd.fst).length * 1 ≤ 140737488355328) then some ((), (b ++ putN (IntKind.u64.wrap r.fst).toNat ++ putN (foldV r.snd.fst).toNat ++ [(0 : Int)] ++ putN (IntKind.u64.wrap (↑(List.length r.snd.snd.fst) : Int)).toNat ++ bytesOf r.snd.snd.fst ++ putN (IntKind.u64.wrap (↑(List.length r.snd.snd.snd.fst) : Int)).toNat ++ bytesOf r.snd.snd.snd.fst, ()), ()) else none else none else none else none else none else none else none else none := by kernel_rfl

theorem recput_go (b : List Int) (r : Rec) (hb : b.length ≤ 140737488350000) : evFn (env consR1) H.record_Put (LPof []) F.record_Put [.vl u8T b, valOf recT r] [] (finV (.lit (.hw 0)) [.arr 1 u8T []] 0) = some ((), ((putR b r, ()), ())) := by
  rw [recput_ev, cond_pos (by omega)]
  unfold putR
  cases hr : recR r with
  | false => rfl
  | true =>
    have hl := encR_len hr
    obtain ⟨o, t, k, v, d⟩ := r
    simp only [recR, Bool.and_eq_true, decide_eq_true_eq] at hr
    obtain ⟨h1, h2, h3, h4, h5, h6, h7, h8⟩ := hr
    have hk : (bytesOf k).length = k.length := by simp [bytesOf]
    have hv : (bytesOf v).length = v.length := by simp [bytesOf]
    have w1 : IntKind.u64.wrap o = o := wrapu64 (by omega) (by omega)
    have w2 : (IntKind.u64.wrap ((List.length k : Nat) : Int)).toNat = List.length k := by rw [wrapu64 (by omega) (by omega)]; omega
    have w3 : (IntKind.u64.wrap ((List.length v : Nat) : Int)).toNat = List.length v := by rw [wrapu64 (by omega) (by omega)]; omega
    simp only [encR, List.length_append, List.length_cons, List.length_nil, hk, hv] at hl
    simp only [w1, w2, w3, Bool.not_true, cond_false, cond_true, encR]
    cases d <;> simp only [cond_true, cond_false, List.append_assoc] <;>
      (repeat rw [cond_pos (by first | omega | (simp only [List.length_append, List.length_cons, List.length_nil, hk, hv]; omega))])
def caseRecput : VCase := ⟨[.vl u8T, .agg [.int .i64, .int .i64, .str, .str, .bool]], [], .lit (.hw 0), [.arr 1 u8T []], fun ⟨b, ⟨o, t, k, v, d, ()⟩, ()⟩ () => [(decide (b.length ≤ 140737488350000), ((), ((putR b (o, t, k, v, d), ()), ())))]⟩
theorem recput_val (b : List Int) (o : Int) (t : Int) (k : List UInt8) (v : List UInt8) (d : Bool) (hc : (decide (b.length ≤ 140737488350000)) = true) : evFn (env consR1) H.record_Put (LPof []) F.record_Put [.vl u8T b, .agg [.int .i64 o, .int .i64 t, .str k, .str v, .bool d]] [] (finV (.lit (.hw 0)) [.arr 1 u8T []] 0) = some ((), ((putR b (o, t, k, v, d), ()), ())) := by
  exact recput_go b (o, t, k, v, d) (of_decide_eq_true hc)
theorem recput_ok : caseRecput.e.ok P0 I.record_Put := vcase_ok (c := caseRecput) (H := H.record_Put) (E := env consR1) (env_ok consR1_ok) glob0 mixed0 G.record_Put Bd.record_Put (by kernel_rfl) noLoops fun ⟨b, ⟨o, t, k, v, d, ()⟩, ()⟩ () r h hw1 hw2 => by
  obtain ⟨hc, rfl⟩ := pick_pre h
  exact recput_val b o t k v d hc
def caseRfold : PCase := ⟨[.ty (.int .i64)], [.int .u64], fun x => (fun (n : Int) => [(true, (foldV n, ()))]) x.1⟩
theorem rfold_val (n : Int) (hn : In .i64 n) : evFn (env []) H.cooperageref1_Fold (LPof []) F.cooperageref1_Fold [.int .i64 n] [] (finT [.int .u64]) = some (foldV n, ()) := by
  have h := In.i64.1 hn
  rw [rfold_ev]
  unfold foldV
  by_cases h0 : n < 0
  · rw [cond_pos h0, wrap64 (n := n + 1) (by omega) (by omega), wrap64 (by omega) (by omega), wrapu64 (n := 0 - (n + 1)) (by omega) (by omega), wrapu64 (n := (0 - (n + 1)) * 2) (by omega) (by omega), wrapu64 (by omega) (by omega)]
    simp only [h0]
    simp
    omega
  · rw [cond_neg h0, wrapu64 (n := n) (by omega) (by omega), wrapu64 (by omega) (by omega)]
    simp only [h0]
    simp
    omega
theorem rfold_ok : caseRfold.ok P0 I.cooperageref1_Fold := case_ok2 (H := H.cooperageref1_Fold) (E := env []) (env_ok env_nil) glob0 mixed0 G.cooperageref1_Fold Bd.cooperageref1_Fold (by kernel_rfl) noLoops fun ⟨n, ()⟩ y h hw => by
  obtain ⟨hc, rfl⟩ := pick_pre h
  exact rfold_val n hw.1
noncomputable abbrev consR2 : List (FuncId × Con) := [(I.cooperageref1_Right, .pure (pureOf [caseRight1])), (I.cooperageref1_Put, .eff (effOf [caseRput.e])), (I.cooperageref1_Fold, .pure (pureOf [caseRfold]))]
theorem consR2_ok : ∀ x ∈ consR2, HoldsC P0 x.1 x.2 := by
  intro x hx
  simp at hx
  rcases hx with rfl | rfl | rfl
  · exact ⟨pureOf_holds (by simp; exact right1_ok), C.cooperageref1_Right⟩
  · exact ⟨fun args objs r objs2 h _ => effOf_holds (by simp; exact rput_ok) args objs r objs2 h, C.cooperageref1_Put⟩
  · exact ⟨pureOf_holds (by simp; exact rfold_ok), C.cooperageref1_Fold⟩
def H.rrec2 : Hint := { H.cooperageref1_PutRecord with vs := [11, 16, 29, 38, 4] }
theorem rrecput_ev (b : List Int) (r : Rec) : evFn (env consR2) H.rrec2 (LPof []) F.cooperageref1_PutRecord [.vl u8T b, valOf recT r] [] (finT [.sl u8T]) = bif decide (b.length * 1 ≤ 140737488355328) then bif !recR r then some (b, ()) else bif decide (b.length ≤ 140737488355000) then bif decide (List.length (b ++ putN (IntKind.u64.wrap r.fst).toNat) ≤ 140737488355000) then bif r.snd.snd.snd.snd then bif decide ((b ++ putN (IntKind.u64.wrap r.fst).toNat ++ putN (foldV r.snd.fst).toNat ++ [(1 : Int)]).length * 1 ≤ 140737488355328) then bif decide ((b ++ putN (IntKind.u64.wrap r.fst).toNat ++ putN (foldV r.snd.fst).toNat ++ [(1 : Int)]).length ≤ 140737488355000) then bif decide ((b ++ putN (IntKind.u64.wrap r.fst).toNat ++ putN (foldV r.snd.fst).toNat ++ [(1 : Int)] ++ putN (IntKind.u64.wrap (↑(List.length r.snd.snd.fst) : Int)).toNat ++ bytesOf r.snd.snd.fst).length * 1 ≤ 140737488355328) then bif decide ((b ++ putN (IntKind.u64.wrap r.fst).toNat ++ putN (foldV r.snd.fst).toNat ++ [(1 : Int)] ++ putN (IntKind.u64.wrap (↑(List.length r.snd.snd.fst) : Int)).toNat ++ bytesOf r.snd.snd.fst).length ≤ 140737488355000) then bif decide ((b ++ putN (IntKind.u64.wrap r.fst).toNat ++ putN (foldV r.snd.fst).toNat ++ [(1 : Int)] ++ putN (IntKind.u64.wrap (↑(List.length r.snd.snd.fst) : Int)).toNat ++ bytesOf r.snd.snd.fst ++ putN (IntKind.u64.wrap (↑(List.length r.snd.snd.snd.fst) : Int)).toNat ++ bytesOf r.snd.snd.snd.fst).length * 1 ≤ 140737488355328) then some (b ++ putN (IntKind.u64.wrap r.fst).toNat ++ putN (foldV r.snd.fst).toNat ++ [(1 : Int)] ++ putN (IntKind.u64.wrap (↑(List.length r.snd.snd.fst) : Int)).toNat ++ bytesOf r.snd.snd.fst ++ putN (IntKind.u64.wrap (↑(List.length r.snd.snd.snd.fst) : Int)).toNat ++ bytesOf r.snd.snd.snd.fst, ()) else none else none else none else none else none else bif decide ((b ++ putN (IntKind.u64.wrap r.fst).toNat ++ putN (foldV r.snd.fst).toNat ++ [(0 : Int)]).length * 1 ≤ 140737488355328) then bif decide ((b ++ putN (IntKind.u64.wrap r.fst).toNat ++ putN (foldV r.snd.fst).toNat ++ [(0 : Int)]).length ≤ 140737488355000) then bif decide ((b ++ putN (IntKind.u64.wrap r.fst).toNat ++ putN (foldV r.snd.fst).toNat ++ [(0 : Int)] ++ putN (IntKind.u64.wrap (↑(List.length r.snd.snd.fst) : Int)).toNat ++ bytesOf r.snd.snd.fst).length * 1 ≤ 140737488355328) then bif decide ((b ++ putN (IntKind.u64.wrap r.fst).toNat ++ putN (foldV r.snd.fst).toNat ++ [(0 : Int)] ++ putN (IntKind.u64.wrap (↑(List.length r.snd.snd.fst) : Int)).toNat ++ bytesOf r.snd.snd.fst).length ≤ 140737488355000) then bif decide ((b ++ putN (IntKind.u64.wrap r.fst).toNat ++ putN (foldV r.snd.fst).toNat ++ [(0 : Int)] ++ putN (IntKind.u64.wrap (↑(List.length r.snd.snd.fst) : Int)).toNat ++ bytesOf r.snd.snd.fst ++ putN (IntKind.u64.wrap (↑(List.length r.snd.snd.snd.fst) : Int)).toNat ++ bytesOf r.snd.snd.snd.fst).length * 1 ≤ 140737488355328) then some (b ++ putN (IntKind.u64.wrap r.fst).toNat ++ putN (foldV r.snd.fst).toNat ++ [(0 : Int)] ++ putN (IntKind.u64.wrap (↑(List.length r.snd.snd.fst) : Int)).toNat ++ bytesOf r.snd.snd.fst ++ putN (IntKind.u64.wrap (↑(List.length r.snd.snd.snd.fst) : Int)).toNat ++ bytesOf r.snd.snd.snd.fst, ()) else none else none else none else none else none else none else none else none := by kernel_rfl

theorem rrecput_go (b : List Int) (r : Rec) (hb : b.length ≤ 140737488350000) : evFn (env consR2) H.rrec2 (LPof []) F.cooperageref1_PutRecord [.vl u8T b, valOf recT r] [] (finT [.sl u8T]) = some (putR b r, ()) := by
  rw [rrecput_ev, cond_pos (by omega)]
  unfold putR
  cases hr : recR r with
  | false => rfl
  | true =>
    have hl := encR_len hr
    obtain ⟨o, t, k, v, d⟩ := r
    simp only [recR, Bool.and_eq_true, decide_eq_true_eq] at hr
    obtain ⟨h1, h2, h3, h4, h5, h6, h7, h8⟩ := hr
    have hk : (bytesOf k).length = k.length := by simp [bytesOf]
    have hv : (bytesOf v).length = v.length := by simp [bytesOf]
    have w1 : IntKind.u64.wrap o = o := wrapu64 (by omega) (by omega)
    have w2 : (IntKind.u64.wrap ((List.length k : Nat) : Int)).toNat = List.length k := by rw [wrapu64 (by omega) (by omega)]; omega
    have w3 : (IntKind.u64.wrap ((List.length v : Nat) : Int)).toNat = List.length v := by rw [wrapu64 (by omega) (by omega)]; omega
    simp only [encR, List.length_append, List.length_cons, List.length_nil, hk, hv] at hl
    simp only [w1, w2, w3, Bool.not_true, cond_false, cond_true, encR]
    cases d <;> simp only [cond_true, cond_false, List.append_assoc] <;>
      (repeat rw [cond_pos (by first | omega | (simp only [List.length_append, List.length_cons, List.length_nil, hk, hv]; omega))])
def caseRrecput : PCase := ⟨[.ty (.sl u8T), .ty recT], [.sl u8T], fun x => [(decide (List.length x.1 ≤ 140737488350000), (putR x.1 x.2.1, ()))]⟩
theorem rrecput_ok : caseRrecput.ok P0 I.cooperageref1_PutRecord := case_ok2 (H := H.rrec2) (E := env consR2) (env_ok consR2_ok) glob0 mixed0 G.cooperageref1_PutRecord Bd.cooperageref1_PutRecord (by kernel_rfl) noLoops fun ⟨b, r, ()⟩ y h hw => by
  obtain ⟨hc, rfl⟩ := pick_pre h
  exact rrecput_go b r (of_decide_eq_true hc)
noncomputable abbrev consB1 : List (FuncId × Con) := [(I.record_Right, .pure (pureOf [caseRecright])), (I.record_Put, .eff (effOf [caseRecput.e])), (I.frame_Put, .pure (pureOf [caseFput]))]
theorem consB1_ok : ∀ x ∈ consB1, HoldsC P0 x.1 x.2 := by
  intro x hx
  simp at hx
  rcases hx with rfl | rfl | rfl
  · exact ⟨pureOf_holds (by simp; exact recright_ok), C.record_Right⟩
  · exact ⟨fun args objs r objs2 h _ => effOf_holds (by simp; exact recput_ok) args objs r objs2 h, C.record_Put⟩
  · exact ⟨pureOf_holds (by simp; exact fput_ok), C.frame_Put⟩
def H.bytes2 : Hint := { H.segment_Bytes with vs := [16, 2] }
theorem sbytes_rd {R : Type} (l : List Rec) (o : List Int) (n i : Int) (K : Ex → St → Option R) : roundK (env consB1) H.bytes2 0 (LPof []) V.segment_Bytes_3 L.segment_Bytes_3 ⟨[(3, .hw 0), (6, .vl recT l), (7, .int .i64 n), (8, .int .i64 i)], [(0, .arr 1 u8T o [])], 1⟩ K = bif decide (i < n) then bif decide ((0 : Int) ≤ i) && decide (i < (↑l.length : Int)) then bif recR (l.getD i.toNat recTy.zero) then bif decide (0 + (putR [] (l.getD i.toNat recTy.zero)).length ≤ 140737488350000) then bif decide ((o ++ ([] ++ frameE (putR [] (l.getD i.toNat recTy.zero)))).length * 1 ≤ 140737488355328) then K Ex.normal { slots := [(3, AV.hw 0), (6, AV.vl recTy l), (7, AV.int IntKind.i64 n), (8, AV.int IntKind.i64 (IntKind.i64.wrap (i + (1 : Int))))], objs := [(0, AObj.arr 1 (Ty.int IntKind.u8) (o ++ ([] ++ frameE (putR [] (l.getD i.toNat recTy.zero)))) [])], nx := 1 } else none else none else K Ex.normal { slots := [(3, AV.hw 0), (6, AV.vl recTy l), (7, AV.int IntKind.i64 n), (8, AV.int IntKind.i64 (IntKind.i64.wrap (i + (1 : Int))))], objs := [(0, AObj.arr 1 (Ty.int IntKind.u8) o [])], nx := 1 } else none else K (Ex.exit 0) { slots := [(3, AV.hw 0), (6, AV.vl recTy l), (7, AV.int IntKind.i64 n), (8, AV.int IntKind.i64 i)], objs := [(0, AObj.arr 1 (Ty.int IntKind.u8) o [])], nx := 1 } := by kernel_rfl

noncomputable abbrev consB2 : List (FuncId × Con) := [(I.cooperageref1_Right, .pure (pureOf [caseRight1])), (I.cooperageref1_PutRecord, .pure (pureOf [caseRrecput])), (I.cooperageref1_PutFrame, .pure (pureOf [caseRfput]))]
theorem consB2_ok : ∀ x ∈ consB2, HoldsC P0 x.1 x.2 := by
  intro x hx
  simp at hx
  rcases hx with rfl | rfl | rfl
  · exact ⟨pureOf_holds (by simp; exact right1_ok), C.cooperageref1_Right⟩
  · exact ⟨pureOf_holds (by simp; exact rrecput_ok), C.cooperageref1_PutRecord⟩
  · exact ⟨pureOf_holds (by simp; exact rfput_ok), C.cooperageref1_PutFrame⟩
def frm (r : Rec) : List Int := bif recR r then frameE (encR r) else []
def bytS (l : List Rec) : List Int := (l.map frm).flatten
theorem frm_len (r : Rec) : (frm r).length ≤ 2260 := by
  unfold frm
  cases h : recR r with
  | false => simp
  | true =>
    have h1 := encR_len h
    have h2 := putN_len (n := (encR r).length) (by omega)
    simp only [cond_true, frameE, List.length_append, writI_len]
    omega
theorem bytS_snoc (l : List Rec) (r : Rec) : bytS (l ++ [r]) = bytS l ++ frm r := by unfold bytS; simp
theorem bytS_len (l : List Rec) : (bytS l).length ≤ 2260 * l.length := by
  induction l with
  | nil => simp [bytS]
  | cons r l ih =>
    have h := frm_len r
    have e : bytS (r :: l) = frm r ++ bytS l := by unfold bytS; simp
    rw [e, List.length_append, List.length_cons]
    omega
theorem take_snoc {l : List Rec} {i : Nat} (h : i < l.length) : l.take (i + 1) = l.take i ++ [l.getD i recTy.zero] := by
  rw [List.getD_eq_getElem?_getD, List.getElem?_eq_getElem h, List.take_add_one, List.getElem?_eq_getElem h]
  rfl
theorem bytS_take {l : List Rec} {i : Nat} (h : i < l.length) : bytS (l.take (i + 1)) = bytS (l.take i) ++ frm (l.getD i recTy.zero) := by
  rw [take_snoc h, bytS_snoc]
def sbSt (l : List Rec) (i : Nat) : St := ⟨[(3, .hw 0), (6, .vl recT l), (7, .int .i64 l.length), (8, .int .i64 i)], [(0, .arr 1 u8T (bytS (l.take i)) [])], 1⟩
theorem sb_rounds {R : Type} (l : List Rec) (hl : l.length ≤ 1000000000) (K : Ex → St → Option R) : ∀ (m i : Nat), i + m = l.length → rounds (env consB1) H.bytes2 0 (LPof []) V.segment_Bytes_3 L.segment_Bytes_3 (m + 1) (sbSt l i) K = K (.exit 0) (sbSt l l.length)
  | 0, i, h => by
    obtain rfl : i = l.length := by omega
    rw [rounds_succ']
    refine (sbytes_rd _ _ _ _ _).trans ?_
    rw [cond_neg (by omega)]
    rfl
  | m + 1, i, h => by
    have ih := sb_rounds l hl K m (i + 1) (by omega)
    have e1 := bytS_take (l := l) (i := i) (by omega)
    have h1 := frm_len (l.getD i recTy.zero)
    have h2 := bytS_len (l.take (i + 1))
    have h3 : (l.take (i + 1)).length = i + 1 := by simp; omega
    have e3 : IntKind.i64.wrap ((i : Int) + 1) = ((i + 1 : Nat) : Int) := by rw [wrap64 (by omega) (by omega)]; omega
    rw [rounds_succ']
    refine (sbytes_rd _ _ _ _ _).trans ?_
    rw [cond_pos (by omega), cond_pos2 (by omega) (by omega), Int.toNat_natCast, e3]
    unfold frm at e1
    cases hr : recR (l.getD i recTy.zero) with
    | false =>
      rw [hr, cond_false, List.append_nil] at e1
      rw [cond_false]
      have e4 : sbSt l (i + 1) = ⟨[(3, .hw 0), (6, .vl recT l), (7, .int .i64 l.length), (8, .int .i64 (i + 1 : Nat))], [(0, .arr 1 u8T (bytS (l.take i)) [])], 1⟩ := by unfold sbSt; rw [e1]
      rw [e4] at ih
      exact ih
    | true =>
      rw [hr, cond_true] at e1
      have h4 := encR_len hr
      have hp : putR [] (l.getD i recTy.zero) = encR (l.getD i recTy.zero) := by unfold putR; rw [hr]; rfl
      rw [cond_true, hp, List.nil_append, ← e1, cond_pos (by omega), cond_pos (by omega)]
      exact ih
abbrev sbLC : LoopC := LoopC.of ⟨[(3, .lit (.hw 0)), (6, .vl recT), (7, .int .i64), (8, .int .i64)], [.arr 1 u8T []]⟩ (fun x => decide (x.1.2.2.2.1 = (0 : Int)) && decide (x.1.2.2.1 = (List.length x.1.2.1 : Int)) && decide (List.length x.1.2.1 ≤ 1000000000) && List.isEmpty x.2.1.1)
  fun x => [(true, .exit 0, sbSt x.1.2.1 (List.length x.1.2.1))]
theorem sb_lok : LoopOK P0 H.bytes2 0 L.segment_Bytes_3 sbLC :=
  loop_ok_of (env_ok consB1_ok) glob0 mixed0 noLoops V.segment_Bytes_3 (by decide) fun ⟨⟨_, l, n, i, _⟩, ⟨⟨o, _⟩, _⟩⟩ h hw => by
    simp only [Bool.and_eq_true, decide_eq_true_eq] at h
    obtain ⟨⟨⟨rfl, rfl⟩, h3⟩, h4⟩ := h
    obtain rfl : o = [] := List.isEmpty_iff.1 h4
    exact ⟨_, sb_rounds l h3 _ l.length 0 (Nat.zero_add _)⟩
theorem sbytes_ev (l : List Rec) : evFn (env consB1) H.bytes2 (LPof [(3, sbLC)]) F.segment_Bytes [.vl recT l] [] (finT [.sl u8T]) = bif decide ((↑l.length : Int) = (↑l.length : Int)) && decide (l.length ≤ 1000000000) && true && true then some (bytS (List.take l.length l), ()) else none := by kernel_rfl

def caseSbytes : PCase := ⟨[.ty (.sl recT)], [.sl u8T], fun x => [(decide (List.length x.1 ≤ 1000000000), (bytS x.1, ()))]⟩
theorem sbytes_ok : caseSbytes.ok P0 I.segment_Bytes := case_ok2 (H := H.bytes2) (E := env consB1) (env_ok consB1_ok) glob0 mixed0 G.segment_Bytes Bd.segment_Bytes (by kernel_rfl) (loops_good (tab := [(3, sbLC)]) (by kernel_rfl) (fun x hx => by simp at hx; subst hx; exact sb_lok)) fun ⟨l, ()⟩ y h hw => by
  obtain ⟨hc, rfl⟩ := pick_pre h
  refine (sbytes_ev l).trans ?_
  simp only [hc, decide_true, Bool.and_self, cond_true, List.take_length]
  rfl
noncomputable abbrev consB3 : List (FuncId × Con) := [(I.segment_Bytes, .pure (pureOf [caseSbytes]))]
theorem consB3_ok : ∀ x ∈ consB3, HoldsC P0 x.1 x.2 := by
  intro x hx
  simp at hx
  subst hx
  exact ⟨pureOf_holds (by simp; exact sbytes_ok), C.segment_Bytes⟩
theorem size_ev (l : List Rec) : evFn (env consB3) H.segs_size (LPof []) F.segs_size [.vl recT l] [] (finT [.int .i64]) = bif decide (l.length ≤ 1000000000) then some ((↑(bytS l).length : Int), ()) else none := by kernel_rfl

def caseSize : PCase := ⟨[.ty (.sl recT)], [.int .i64], fun x => (fun (l : List Rec) => [(decide (List.length l ≤ 1000000000), (((bytS l).length : Int), ()))]) x.1⟩
theorem size_val (l : List Rec) (hc : (decide (List.length l ≤ 1000000000)) = true) : evFn (env consB3) H.segs_size (LPof []) F.segs_size [.vl recT l] [] (finT [.int .i64]) = some (((bytS l).length : Int), ()) := by
  rw [size_ev, hc]; rfl
theorem size_ok : caseSize.ok P0 I.segs_size := case_ok2 (H := H.segs_size) (E := env consB3) (env_ok consB3_ok) glob0 mixed0 G.segs_size Bd.segs_size (by kernel_rfl) noLoops fun ⟨l, ()⟩ y h hw => by
  obtain ⟨hc, rfl⟩ := pick_pre h
  exact size_val l hc
theorem latest_rd {R : Type} (l : List Rec) (t n i : Int) (K : Ex → St → Option R) : roundK (env []) H.segs_latest 0 (LPof []) V.segs_latest_3 L.segs_latest_3 ⟨[(3, .int .i64 t), (6, .vl recT l), (7, .int .i64 n), (8, .int .i64 i)], [], 0⟩ K = bif decide (i < n) then bif decide ((0 : Int) ≤ i) && decide (i < (↑l.length : Int)) then Option.bind (bif i == (0 : Int) then some true else some (decide ((l.getD i.toNat recTy.zero).snd.fst > t))) fun v => bif v then K Ex.normal { slots := [(3, AV.int IntKind.i64 (l.getD i.toNat recTy.zero).snd.fst), (6, AV.vl recTy l), (7, AV.int IntKind.i64 n), (8, AV.int IntKind.i64 (IntKind.i64.wrap (i + (1 : Int))))], objs := [], nx := 0 } else K Ex.normal { slots := [(3, AV.int IntKind.i64 t), (6, AV.vl recTy l), (7, AV.int IntKind.i64 n), (8, AV.int IntKind.i64 (IntKind.i64.wrap (i + (1 : Int))))], objs := [], nx := 0 } else none else K (Ex.exit 0) { slots := [(3, AV.int IntKind.i64 t), (6, AV.vl recTy l), (7, AV.int IntKind.i64 n), (8, AV.int IntKind.i64 i)], objs := [], nx := 0 } := by kernel_rfl

end Go.Sim.XU
namespace Go.Sim.XU
set_option linter.unusedSimpArgs false
set_option linter.unusedVariables false
set_option maxRecDepth 10000
abbrev segT : Ty := .pair (.int .i64) (.pair (.int .i64) (.pair (.int .i64) (.pair (.int .i64) (.pair (.sl recT) (.pair .bool (.pair .bool (.pair .bool (.pair (.int .i64) (.int .u32)))))))))
/-- The greatest time of the first i records. -/
def latI (l : List Rec) : Nat → Int
  | 0 => 0
  | i + 1 => bif decide (i = 0) || decide ((l.getD i recTy.zero).2.1 > latI l i) then (l.getD i recTy.zero).2.1 else latI l i
def latS (l : List Rec) : Int := latI l l.length
def laSt (l : List Rec) (i : Nat) : St := ⟨[(3, .int .i64 (latI l i)), (6, .vl recT l), (7, .int .i64 l.length), (8, .int .i64 i)], [], 0⟩
theorem i0_dec (i : Nat) : ((i : Int) == 0) = decide (i = 0) := by
  by_cases h : i = 0
  · subst h; rfl
  · rw [decide_eq_false h]
    simp
    exact h
theorem la_rounds {R : Type} (l : List Rec) (hl : l.length ≤ maxL) (K : Ex → St → Option R) : ∀ (m i : Nat), i + m = l.length → rounds (env []) H.segs_latest 0 (LPof []) V.segs_latest_3 L.segs_latest_3 (m + 1) (laSt l i) K = K (.exit 0) (laSt l l.length)
  | 0, i, h => by
    obtain rfl : i = l.length := by omega
    rw [rounds_succ']
    refine (latest_rd _ _ _ _ _).trans ?_
    rw [cond_neg (by omega)]
    rfl
  | m + 1, i, h => by
    have ih := la_rounds l hl K m (i + 1) (by omega)
    unfold maxL at hl
    have e3 : IntKind.i64.wrap ((i : Int) + 1) = ((i + 1 : Nat) : Int) := by rw [wrap64 (by omega) (by omega)]; omega
    rw [rounds_succ']
    refine (latest_rd _ _ _ _ _).trans ?_
    rw [cond_pos (by omega), cond_pos2 (by omega) (by omega), Int.toNat_natCast, e3, i0_dec, or_bif, Option.bind_some]
    have e4 : latI l (i + 1) = bif decide (i = 0) || decide ((l.getD i recTy.zero).2.1 > latI l i) then (l.getD i recTy.zero).2.1 else latI l i := rfl
    unfold laSt at ih
    rw [e4] at ih
    cases hb : decide (i = 0) || decide ((l.getD i recTy.zero).2.1 > latI l i) with
    | true => rw [hb] at ih; exact ih
    | false => rw [hb] at ih; exact ih
abbrev laLC : LoopC := LoopC.of ⟨[(3, .int .i64), (6, .vl recT), (7, .int .i64), (8, .int .i64)], []⟩ (fun x => decide (x.1.1 = (0 : Int)) && decide (x.1.2.2.2.1 = (0 : Int)) && decide (x.1.2.2.1 = (List.length x.1.2.1 : Int)))
  fun x => [(true, .exit 0, laSt x.1.2.1 (List.length x.1.2.1))]
theorem la_lok : LoopOK P0 H.segs_latest 0 L.segs_latest_3 laLC :=
  loop_ok_of (env_ok env_nil) glob0 mixed0 noLoops V.segs_latest_3 (by decide) fun ⟨⟨t, l, n, i, _⟩, _⟩ h hw => by
    simp only [Bool.and_eq_true, decide_eq_true_eq] at h
    obtain ⟨⟨rfl, rfl⟩, rfl⟩ := h
    exact ⟨_, la_rounds l hw.1.2.1.1 _ l.length 0 (Nat.zero_add _)⟩
theorem latest_ev (l : List Rec) : evFn (env []) H.segs_latest (LPof [(3, laLC)]) F.segs_latest [.vl recT l] [] (finT [.int .i64]) = bif decide ((↑l.length : Int) = (↑l.length : Int)) && true then some (latI l l.length, ()) else none := by kernel_rfl

def caseLatest : PCase := ⟨[.ty (.sl recT)], [.int .i64], fun x => (fun (l : List Rec) => [(true, (latS l, ()))]) x.1⟩
theorem latest_val (l : List Rec) : evFn (env []) H.segs_latest (LPof [(3, laLC)]) F.segs_latest [.vl recT l] [] (finT [.int .i64]) = some (latS l, ()) := by
  rw [latest_ev]
  simp only [decide_true, Bool.and_self, cond_true]
  rfl
theorem latest_ok : caseLatest.ok P0 I.segs_latest := case_ok2 (H := H.segs_latest) (E := env []) (env_ok env_nil) glob0 mixed0 G.segs_latest Bd.segs_latest (by kernel_rfl) (loops_good (tab := [(3, laLC)]) (by kernel_rfl) (fun x hx => by simp at hx; subst hx; exact la_lok)) fun ⟨l, ()⟩ y h hw => by
  obtain ⟨hc, rfl⟩ := pick_pre h
  exact latest_val l
abbrev actP : List Pat := [.int .i64, .int .i64, .lit (.int .i64 0), .lit (.int .i64 0), .lit (.hw 2), .lit (.bool false), .lit (.bool false), .lit (.bool false), .int .i64, .lit (.int .u32 0)]
def H.active2 : Hint := { H.segs_Log_active with tp := [13] }
theorem active_ev (f : List Seg) (b n z : Int) (rs : List Rec) : evFn (env []) H.active2 (LPof []) F.segs_Log_active [.ptr 0 (.tl 0) 0] [.arr 1 .bool [] [[.hw 1]], .arr 10 segT f [[.int .i64 b, .int .i64 n, .int .i64 0, .int .i64 0, .hw 2, .bool false, .bool false, .bool false, .int .i64 z, .int .u32 0]], .log recT rs] (finV (.lit (.ptr 1 (.tl 0) 0)) [.box 1 [[.lit (.hw 1)]], .arr 10 segT [actP], .log recT] 3) = bif decide ((0 : Int) ≤ IntKind.i64.wrap ((↑(f.length + 1) : Int) - (1 : Int))) && decide (IntKind.i64.wrap ((↑(f.length + 1) : Int) - (1 : Int)) < (↑(f.length + 1) : Int)) then bif decide ((IntKind.i64.wrap ((↑(f.length + 1) : Int) - (1 : Int))).toNat < f.length) then none else bif decide ((IntKind.i64.wrap ((↑(f.length + 1) : Int) - (1 : Int))).toNat - f.length = 0) then some ((), (((), ()), ()), (f, (b, n, (), (), (), (), (), (), z, (), ()), ()), rs, ()) else none else none := by kernel_rfl

def H.new2 : Hint := { H.segs_New with lg := [(1, 40)] }
theorem new_ev : evFn (env []) H.new2 (LPof []) F.segs_New [] [] (finV (.lit (.ptr 0 (.tl 0) 0)) [.box 1 [[.lit (.hw 1)]], .arr 10 segT [actP], .log recT] 0) = some ((), (((), ()), ()), ([], ((0 : Int), (0 : Int), (), (), (), (), (), (), (0 : Int), (), ()), ()), [], ()) := by kernel_rfl

abbrev logP : List OPat := [.box 1 [[.lit (.hw 1)]], .arr 10 segT [actP], .log recT]
abbrev actC (b n z : Int) : List AV := [.int .i64 b, .int .i64 n, .int .i64 0, .int .i64 0, .hw 2, .bool false, .bool false, .bool false, .int .i64 z, .int .u32 0]
def caseActive : VCase := ⟨[.lit (.ptr 0 (.tl 0) 0)], logP, .lit (.ptr 1 (.tl 0) 0), logP, fun _ ⟨a, ⟨f, y⟩, rs, _⟩ => [(decide (List.length f ≤ 1000000000), ((), (a, (f, y), rs, ())))]⟩
theorem act_ok : caseActive.e.ok P0 I.segs_Log_active := vcase_ok (c := caseActive) (H := H.active2) (E := env []) (env_ok env_nil) glob0 mixed0 G.segs_Log_active Bd.segs_Log_active (by kernel_rfl) noLoops fun _ ⟨_, ⟨f, ⟨b, n, _, _, _, _, _, _, z, _, _⟩, _⟩, rs, _⟩ r h hw1 hw2 => by
  obtain ⟨hc, rfl⟩ := pick_pre h
  have hc := of_decide_eq_true hc
  have e : IntKind.i64.wrap (((f.length + 1 : Nat) : Int) - 1) = (f.length : Int) := by rw [wrap64 (by omega) (by omega)]; omega
  refine (active_ev f b n z rs).trans ?_
  rw [e, cond_pos2 (by omega) (by omega), Int.toNat_natCast, cond_neg (by omega), cond_pos (by omega)]
  rfl
noncomputable abbrev consS1 : List (FuncId × Con) := [(I.segs_Log_active, .eff (effOf [caseActive.e])), (I.segs_latest, .pure (pureOf [caseLatest])), (I.segs_size, .pure (pureOf [caseSize])), (I.record_Right, .pure (pureOf [caseRecright]))]
theorem consS1_ok : ∀ x ∈ consS1, HoldsC P0 x.1 x.2 := by
  intro x hx
  simp at hx
  rcases hx with rfl | rfl | rfl | rfl
  · exact ⟨fun args objs r objs2 h _ => effOf_holds (by simp; exact act_ok) args objs r objs2 h, C.segs_Log_active⟩
  · exact ⟨pureOf_holds (by simp; exact latest_ok), C.segs_latest⟩
  · exact ⟨pureOf_holds (by simp; exact size_ok), C.segs_size⟩
  · exact ⟨pureOf_holds (by simp; exact recright_ok), C.record_Right⟩
/-- A log: the segments ahead of the active one; the active one's base, next, size, records. -/
abbrev LogS := List Seg × Int × Int × Int × List Rec
def actS (L : LogS) : Seg := (L.2.1, L.2.2.1, 0, 0, L.2.2.2.2, false, false, false, L.2.2.2.1, 0)
def segsL (L : LogS) : List Seg := L.1 ++ [actS L]
abbrev actQ : List Pat := [.int .i64, .int .i64, .lit (.int .i64 0), .lit (.int .i64 0), .lit (.hw 4), .lit (.bool false), .lit (.bool false), .lit (.bool false), .int .i64, .lit (.int .u32 0)]
abbrev logQ : List OPat := [.box 1 [[.lit (.hw 3)]], .dead, .dead, .arr 10 segT [actQ], .log recT]
def sealP (L : LogS) : LogS := bif L.2.1 == L.2.2.1 then L else (L.1 ++ [(L.2.1, L.2.2.1, latS L.2.2.2.2, 0, L.2.2.2.2, true, false, false, L.2.2.2.1, 0)], L.2.2.1, L.2.2.1, 0, [])
def lowP (L : LogS) : Int := bif decide (0 < L.1.length) then (L.1.getD 0 segTy.zero).1 else L.2.1
def smallS (g : Seg) : Bool := decide (g.2.2.2.2.1.length ≤ 1000000000)
/-- Nothing is too great. -/
def okB (c : Nat) (L : LogS) : Bool := decide (0 ≤ L.2.1) && decide (L.2.1 ≤ L.2.2.1) && decide (L.2.2.1 ≤ c) && decide (0 ≤ L.2.2.2.1) && decide (L.2.2.2.1 ≤ 2260 * c) && decide (L.1.length ≤ c) && decide (L.2.2.2.2.length ≤ c) && L.1.all smallS
theorem okB_iff {c : Nat} {L : LogS} : okB c L = true ↔ 0 ≤ L.2.1 ∧ L.2.1 ≤ L.2.2.1 ∧ L.2.2.1 ≤ c ∧ 0 ≤ L.2.2.2.1 ∧ L.2.2.2.1 ≤ 2260 * c ∧ L.1.length ≤ c ∧ L.2.2.2.2.length ≤ c ∧ L.1.all smallS = true := by
  unfold okB
  simp only [Bool.and_eq_true, decide_eq_true_eq]
  exact ⟨fun ⟨⟨⟨⟨⟨⟨⟨a, b⟩, c⟩, d⟩, e⟩, f⟩, g⟩, h⟩ => ⟨a, b, c, d, e, f, g, h⟩, fun ⟨a, b, c, d, e, f, g, h⟩ => ⟨⟨⟨⟨⟨⟨⟨a, b⟩, c⟩, d⟩, e⟩, f⟩, g⟩, h⟩⟩
theorem okB_mono {c d : Nat} {L : LogS} (h : okB c L = true) (hd : c ≤ d) : okB d L = true := by
  obtain ⟨h1, h2, h3, h4, h5, h6, h7, h9⟩ := okB_iff.1 h
  exact okB_iff.2 ⟨h1, h2, by omega, h4, by omega, by omega, by omega, h9⟩
theorem sealP_ok {c : Nat} {L : LogS} (h : okB c L = true) (hc : c ≤ 1000000000) : okB (c + 1) (sealP L) = true := by
  obtain ⟨h1, h2, h3, h4, h5, h6, h7, h9⟩ := okB_iff.1 h
  unfold sealP
  cases hb : L.2.1 == L.2.2.1 with
  | true => exact okB_mono h (by omega)
  | false => exact okB_iff.2 ⟨by simp; omega, by simp, by simp; omega, by simp, by simp; omega, by simp; omega, by simp, by simp only [cond_false, List.all_append, h9, Bool.true_and, List.all_cons, List.all_nil, Bool.and_true]; exact decide_eq_true (show L.2.2.2.2.length ≤ 1000000000 by omega)⟩
theorem high_ev (f : List Seg) (b n z : Int) (rs : List Rec) : evFn (env consS1) H.segs_Log_High (LPof []) F.segs_Log_High [.ptr 0 (.tl 0) 0] [.arr 1 .bool [] [[.hw 1]], .arr 10 segT f [actC b n z], .log recT rs] (finV (.int .i64) logP 3) = bif decide (f.length ≤ 1000000000) then some (n, (((), ()), ()), (f, (b, n, (), (), (), (), (), (), z, (), ()), ()), rs, ()) else none := by kernel_rfl

theorem low_ev (f : List Seg) (b n z : Int) (rs : List Rec) : evFn (env consS1) H.segs_Log_Low (LPof []) F.segs_Log_Low [.ptr 0 (.tl 0) 0] [.arr 1 .bool [] [[.hw 1]], .arr 10 segT f [actC b n z], .log recT rs] (finV (.int .i64) logP 3) = bif decide ((0 : Int) < (↑(f.length + 1) : Int)) then bif decide (0 < f.length) then some ((f.getD 0 segTy.zero).fst, (((), ()), ()), (f, (b, n, (), (), (), (), (), (), z, (), ()), ()), rs, ()) else bif decide (0 - f.length = 0) then some (b, (((), ()), ()), (f, (b, n, (), (), (), (), (), (), z, (), ()), ()), rs, ()) else none else none := by kernel_rfl

def H.seal2 : Hint := { H.segs_Log_Seal with lg := [(38, 40)] }
theorem seal_ev (f : List Seg) (b n z : Int) (rs : List Rec) : evFnM 1 (env consS1) H.seal2 (LPof []) F.segs_Log_Seal [.ptr 0 (.tl 0) 0] [.arr 1 .bool [] [[.hw 1]], .arr 10 segT f [actC b n z], .log recT rs] (finVM (.lit (.tup [])) logQ 1 3) = bif decide (f.length ≤ 1000000000) then bif b == n then some ((), (((), ()), ()), (), (), (f, (b, n, (), (), (), (), (), (), z, (), ()), ()), rs, ()) else bif decide ((f.length + 2) * 80 ≤ 140737488355328) then some ((), (((), ()), ()), (), (), (f ++ [(b, n, latS rs, (0 : Int), rs, true, false, false, z, (0 : Int))], (n, n, (), (), (), (), (), (), (0 : Int), (), ()), ()), [], ()) else none else none := by kernel_rfl

def caseHigh : VCase := ⟨[.lit (.ptr 0 (.tl 0) 0)], logP, .int .i64, logP, fun _ ⟨_, ⟨f, ⟨b, n, _, _, _, _, _, _, z, _, _⟩, _⟩, rs, _⟩ => [(decide (List.length f ≤ 1000000000), (n, ((((), ()), ()), (f, (b, n, (), (), (), (), (), (), z, (), ()), ()), rs, ())))]⟩
theorem high_ok : caseHigh.e.ok P0 I.segs_Log_High := vcase_ok (c := caseHigh) (H := H.segs_Log_High) (E := env consS1) (env_ok consS1_ok) glob0 mixed0 G.segs_Log_High Bd.segs_Log_High (by kernel_rfl) noLoops fun _ ⟨_, ⟨f, ⟨b, n, _, _, _, _, _, _, z, _, _⟩, _⟩, rs, _⟩ r h hw1 hw2 => by
  obtain ⟨hc, rfl⟩ := pick_pre h
  refine (high_ev f b n z rs).trans ?_
  have hc : decide (List.length f ≤ 1000000000) = true := hc
  rw [hc]
  rfl
def caseLow : VCase := ⟨[.lit (.ptr 0 (.tl 0) 0)], logP, .int .i64, logP, fun _ ⟨_, ⟨f, ⟨b, n, _, _, _, _, _, _, z, _, _⟩, _⟩, rs, _⟩ => [(true, (lowP (f, b, n, z, rs), ((((), ()), ()), (f, (b, n, (), (), (), (), (), (), z, (), ()), ()), rs, ())))]⟩
theorem low_ok : caseLow.e.ok P0 I.segs_Log_Low := vcase_ok (c := caseLow) (H := H.segs_Log_Low) (E := env consS1) (env_ok consS1_ok) glob0 mixed0 G.segs_Log_Low Bd.segs_Log_Low (by kernel_rfl) noLoops fun _ ⟨_, ⟨f, ⟨b, n, _, _, _, _, _, _, z, _, _⟩, _⟩, rs, _⟩ r h hw1 hw2 => by
  obtain ⟨hc, rfl⟩ := pick_pre h
  refine (low_ev f b n z rs).trans ?_
  rw [cond_pos (by omega)]
  unfold lowP
  simp only
  by_cases h0 : 0 < List.length f
  · rw [cond_pos h0, cond_pos h0]
    rfl
  · rw [cond_neg h0, cond_neg h0, cond_pos (by omega)]
    rfl
def caseSeal : VCase := ⟨[.lit (.ptr 0 (.tl 0) 0)], logP, .lit (.tup []), logQ, fun _ ⟨_, ⟨f, ⟨b, n, _, _, _, _, _, _, z, _, _⟩, _⟩, rs, _⟩ => [(decide (List.length f ≤ 1000000000), ((), ((((), ()), ()), (), (), ((sealP (f, b, n, z, rs)).1, ((sealP (f, b, n, z, rs)).2.1, (sealP (f, b, n, z, rs)).2.2.1, (), (), (), (), (), (), (sealP (f, b, n, z, rs)).2.2.2.1, (), ()), ()), (sealP (f, b, n, z, rs)).2.2.2.2, ())))]⟩
theorem seal_ok : caseSeal.e.ok P0 I.segs_Log_Seal := vcase_okM (c := caseSeal) (H := H.seal2) (E := env consS1) (env_ok consS1_ok) glob0 mixed0 G.segs_Log_Seal Bd.segs_Log_Seal 1 rfl (by kernel_rfl) noLoops fun _ ⟨_, ⟨f, ⟨b, n, _, _, _, _, _, _, z, _, _⟩, _⟩, rs, _⟩ r h hw1 hw2 => by
  obtain ⟨hc, rfl⟩ := pick_pre h
  refine (seal_ev f b n z rs).trans ?_
  have hc : List.length f ≤ 1000000000 := of_decide_eq_true hc
  rw [cond_pos hc]
  unfold sealP
  simp only
  cases hb : b == n with
  | true => rfl
  | false =>
    rw [cond_false, cond_pos (by omega)]
    rfl
def caseNew : VCase := ⟨[], [], .lit (.ptr 0 (.tl 0) 0), logP, fun _ _ => [(true, ((), ((((), ()), ()), ([], (0, 0, (), (), (), (), (), (), 0, (), ()), ()), [], ())))]⟩
theorem new_ok : caseNew.e.ok P0 I.segs_New := vcase_ok (c := caseNew) (H := H.new2) (E := env []) (env_ok env_nil) glob0 mixed0 G.segs_New Bd.segs_New (by kernel_rfl) noLoops fun _ _ r h hw1 hw2 => by
  obtain ⟨hc, rfl⟩ := pick_pre h
  exact new_ev
noncomputable abbrev consS2 : List (FuncId × Con) := [(I.segs_Log_Seal, .eff (effOf [caseSeal.e])), (I.segs_Log_High, .eff (effOf [caseHigh.e])), (I.segs_Log_Low, .eff (effOf [caseLow.e])), (I.segs_New, .eff (effOf [caseNew.e]))] ++ consS1
theorem consS2_ok : ∀ x ∈ consS2, HoldsC P0 x.1 x.2 := by
  intro x hx
  rcases List.mem_append.1 hx with hx | hx
  · simp at hx
    rcases hx with rfl | rfl | rfl | rfl
    · exact ⟨fun args objs r objs2 h _ => effOf_holds (by simp; exact seal_ok) args objs r objs2 h, C.segs_Log_Seal⟩
    · exact ⟨fun args objs r objs2 h _ => effOf_holds (by simp; exact high_ok) args objs r objs2 h, C.segs_Log_High⟩
    · exact ⟨fun args objs r objs2 h _ => effOf_holds (by simp; exact low_ok) args objs r objs2 h, C.segs_Log_Low⟩
    · exact ⟨fun args objs r objs2 h _ => effOf_holds (by simp; exact new_ok) args objs r objs2 h, C.segs_New⟩
  · exact consS1_ok x hx
theorem append_rd {R : Type} (most fi : Int) (so : Bool) (l : List Rec) (m i : Int) (f : List Seg) (b n z : Int) (rs : List Rec) (K : Ex → St → Option R) : roundK (env consS2) H.segs_Log_Append 1 (LPof []) V.segs_Log_Append_3 L.segs_Log_Append_3 ⟨[(0, .ptr 0 (.tl 0) 0), (2, .int .i64 most), (7, .int .i64 fi), (8, .bool so), (14, .vl recT l), (15, .int .i64 m), (16, .int .i64 i)], [(0, .arr 1 .bool [] [[.hw 1]]), (1, .arr 10 segT f [actC b n z]), (2, .log recT rs)], 3⟩ K = bif decide (i < m) then bif decide ((0 : Int) ≤ i) && decide (i < (↑l.length : Int)) then bif !recR ((0 : Int), (l.getD i.toNat recTy.zero).snd) then K Ex.normal { slots := [(0, AV.ptr 0 (Elt.tl 0) 0), (2, AV.int IntKind.i64 most), (7, AV.int IntKind.i64 fi), (8, AV.bool so), (14, AV.vl recTy l), (15, AV.int IntKind.i64 m), (16, AV.int IntKind.i64 (IntKind.i64.wrap (i + (1 : Int))))], objs := [(0, AObj.arr 1 Ty.bool [] [[AV.hw 1]]), (1, AObj.arr 10 segTy f [[AV.int IntKind.i64 b, AV.int IntKind.i64 n, AV.int IntKind.i64 (0 : Int), AV.int IntKind.i64 (0 : Int), AV.hw 2, AV.bool false, AV.bool false, AV.bool false, AV.int IntKind.i64 z, AV.int IntKind.u32 (0 : Int)]]), (2, AObj.log recTy rs)], nx := 3 } else bif decide (f.length ≤ 1000000000) then bif !so then bif decide ((rs ++ [(n, (l.getD i.toNat recTy.zero).snd)]).length * 56 ≤ 140737488355328) then bif decide (IntKind.i64.wrap (IntKind.i64.wrap (n + (1 : Int)) - b) ≥ bif decide (most > (1 : Int)) then most else (1 : Int)) then bif decide (f.length ≤ 1000000000) then K Ex.normal { slots := [(0, AV.ptr 0 (Elt.tl 0) 0), (2, AV.int IntKind.i64 most), (7, AV.int IntKind.i64 n), (8, AV.bool true), (14, AV.vl recTy l), (15, AV.int IntKind.i64 m), (16, AV.int IntKind.i64 (IntKind.i64.wrap (i + (1 : Int))))], objs := [(0, AObj.arr 1 Ty.bool [] [[AV.hw 1]]), (1, AObj.arr 10 segTy (sealP (f, b, IntKind.i64.wrap (n + (1 : Int)), IntKind.i64.wrap (z + (↑(bytS [(n, (l.getD i.toNat recTy.zero).snd)]).length : Int)), rs ++ [(n, (l.getD i.toNat recTy.zero).snd)])).fst [[AV.int IntKind.i64 (sealP (f, b, IntKind.i64.wrap (n + (1 : Int)), IntKind.i64.wrap (z + (↑(bytS [(n, (l.getD i.toNat recTy.zero).snd)]).length : Int)), rs ++ [(n, (l.getD i.toNat recTy.zero).snd)])).snd.fst, AV.int IntKind.i64 (sealP (f, b, IntKind.i64.wrap (n + (1 : Int)), IntKind.i64.wrap (z + (↑(bytS [(n, (l.getD i.toNat recTy.zero).snd)]).length : Int)), rs ++ [(n, (l.getD i.toNat recTy.zero).snd)])).snd.snd.fst, AV.int IntKind.i64 (0 : Int), AV.int IntKind.i64 (0 : Int), AV.hw 2, AV.bool false, AV.bool false, AV.bool false, AV.int IntKind.i64 (sealP (f, b, IntKind.i64.wrap (n + (1 : Int)), IntKind.i64.wrap (z + (↑(bytS [(n, (l.getD i.toNat recTy.zero).snd)]).length : Int)), rs ++ [(n, (l.getD i.toNat recTy.zero).snd)])).snd.snd.snd.fst, AV.int IntKind.u32 (0 : Int)]]), (2, AObj.log recTy (sealP (f, b, IntKind.i64.wrap (n + (1 : Int)), IntKind.i64.wrap (z + (↑(bytS [(n, (l.getD i.toNat recTy.zero).snd)]).length : Int)), rs ++ [(n, (l.getD i.toNat recTy.zero).snd)])).snd.snd.snd.snd)], nx := 3 } else none else K Ex.normal { slots := [(0, AV.ptr 0 (Elt.tl 0) 0), (2, AV.int IntKind.i64 most), (7, AV.int IntKind.i64 n), (8, AV.bool true), (14, AV.vl recTy l), (15, AV.int IntKind.i64 m), (16, AV.int IntKind.i64 (IntKind.i64.wrap (i + (1 : Int))))], objs := [(0, AObj.arr 1 Ty.bool [] [[AV.hw 1]]), (1, AObj.arr 10 segTy f [[AV.int IntKind.i64 b, AV.int IntKind.i64 (IntKind.i64.wrap (n + (1 : Int))), AV.int IntKind.i64 (0 : Int), AV.int IntKind.i64 (0 : Int), AV.hw 2, AV.bool false, AV.bool false, AV.bool false, AV.int IntKind.i64 (IntKind.i64.wrap (z + (↑(bytS [(n, (l.getD i.toNat recTy.zero).snd)]).length : Int))), AV.int IntKind.u32 (0 : Int)]]), (2, AObj.log recTy (rs ++ [(n, (l.getD i.toNat recTy.zero).snd)]))], nx := 3 } else none else bif decide ((rs ++ [(n, (l.getD i.toNat recTy.zero).snd)]).length * 56 ≤ 140737488355328) then bif decide (IntKind.i64.wrap (IntKind.i64.wrap (n + (1 : Int)) - b) ≥ bif decide (most > (1 : Int)) then most else (1 : Int)) then bif decide (f.length ≤ 1000000000) then K Ex.normal { slots := [(0, AV.ptr 0 (Elt.tl 0) 0), (2, AV.int IntKind.i64 most), (7, AV.int IntKind.i64 fi), (8, AV.bool so), (14, AV.vl recTy l), (15, AV.int IntKind.i64 m), (16, AV.int IntKind.i64 (IntKind.i64.wrap (i + (1 : Int))))], objs := [(0, AObj.arr 1 Ty.bool [] [[AV.hw 1]]), (1, AObj.arr 10 segTy (sealP (f, b, IntKind.i64.wrap (n + (1 : Int)), IntKind.i64.wrap (z + (↑(bytS [(n, (l.getD i.toNat recTy.zero).snd)]).length : Int)), rs ++ [(n, (l.getD i.toNat recTy.zero).snd)])).fst [[AV.int IntKind.i64 (sealP (f, b, IntKind.i64.wrap (n + (1 : Int)), IntKind.i64.wrap (z + (↑(bytS [(n, (l.getD i.toNat recTy.zero).snd)]).length : Int)), rs ++ [(n, (l.getD i.toNat recTy.zero).snd)])).snd.fst, AV.int IntKind.i64 (sealP (f, b, IntKind.i64.wrap (n + (1 : Int)), IntKind.i64.wrap (z + (↑(bytS [(n, (l.getD i.toNat recTy.zero).snd)]).length : Int)), rs ++ [(n, (l.getD i.toNat recTy.zero).snd)])).snd.snd.fst, AV.int IntKind.i64 (0 : Int), AV.int IntKind.i64 (0 : Int), AV.hw 2, AV.bool false, AV.bool false, AV.bool false, AV.int IntKind.i64 (sealP (f, b, IntKind.i64.wrap (n + (1 : Int)), IntKind.i64.wrap (z + (↑(bytS [(n, (l.getD i.toNat recTy.zero).snd)]).length : Int)), rs ++ [(n, (l.getD i.toNat recTy.zero).snd)])).snd.snd.snd.fst, AV.int IntKind.u32 (0 : Int)]]), (2, AObj.log recTy (sealP (f, b, IntKind.i64.wrap (n + (1 : Int)), IntKind.i64.wrap (z + (↑(bytS [(n, (l.getD i.toNat recTy.zero).snd)]).length : Int)), rs ++ [(n, (l.getD i.toNat recTy.zero).snd)])).snd.snd.snd.snd)], nx := 3 } else none else K Ex.normal { slots := [(0, AV.ptr 0 (Elt.tl 0) 0), (2, AV.int IntKind.i64 most), (7, AV.int IntKind.i64 fi), (8, AV.bool so), (14, AV.vl recTy l), (15, AV.int IntKind.i64 m), (16, AV.int IntKind.i64 (IntKind.i64.wrap (i + (1 : Int))))], objs := [(0, AObj.arr 1 Ty.bool [] [[AV.hw 1]]), (1, AObj.arr 10 segTy f [[AV.int IntKind.i64 b, AV.int IntKind.i64 (IntKind.i64.wrap (n + (1 : Int))), AV.int IntKind.i64 (0 : Int), AV.int IntKind.i64 (0 : Int), AV.hw 2, AV.bool false, AV.bool false, AV.bool false, AV.int IntKind.i64 (IntKind.i64.wrap (z + (↑(bytS [(n, (l.getD i.toNat recTy.zero).snd)]).length : Int))), AV.int IntKind.u32 (0 : Int)]]), (2, AObj.log recTy (rs ++ [(n, (l.getD i.toNat recTy.zero).snd)]))], nx := 3 } else none else none else none else K (Ex.exit 0) { slots := [(0, AV.ptr 0 (Elt.tl 0) 0), (2, AV.int IntKind.i64 most), (7, AV.int IntKind.i64 fi), (8, AV.bool so), (14, AV.vl recTy l), (15, AV.int IntKind.i64 m), (16, AV.int IntKind.i64 i)], objs := [(0, AObj.arr 1 Ty.bool [] [[AV.hw 1]]), (1, AObj.arr 10 segTy f [[AV.int IntKind.i64 b, AV.int IntKind.i64 n, AV.int IntKind.i64 (0 : Int), AV.int IntKind.i64 (0 : Int), AV.hw 2, AV.bool false, AV.bool false, AV.bool false, AV.int IntKind.i64 z, AV.int IntKind.u32 (0 : Int)]]), (2, AObj.log recTy rs)], nx := 3 } := by kernel_rfl

end Go.Sim.XU
namespace Go.Sim.XU
set_option linter.unusedSimpArgs false
set_option linter.unusedVariables false
set_option maxRecDepth 10000
def mxI (most : Int) : Int := bif decide (most > 1) then most else 1
/-- One record more. -/
def pushP (L : LogS) (r : Rec) : LogS := (L.1, L.2.1, L.2.2.1 + 1, L.2.2.2.1 + ((bytS [(L.2.2.1, r.2)]).length : Nat), L.2.2.2.2 ++ [(L.2.2.1, r.2)])
def apR (most : Int) (L : LogS) (r : Rec) : LogS := bif recR (0, r.2) then (bif decide (L.2.2.1 + 1 - L.2.1 ≥ mxI most) then sealP (pushP L r) else pushP L r) else L
def apL (most : Int) (l : List Rec) (L : LogS) : Nat → LogS
  | 0 => L
  | i + 1 => apR most (apL most l L i) (l.getD i recTy.zero)
def someI (l : List Rec) : Nat → Bool
  | 0 => false
  | i + 1 => someI l i || recR (0, (l.getD i recTy.zero).2)
theorem pushP_ok {c : Nat} {L : LogS} (r : Rec) (h : okB c L = true) : okB (c + 1) (pushP L r) = true := by
  obtain ⟨h1, h2, h3, h4, h5, h6, h7, h9⟩ := okB_iff.1 h
  have h8 := bytS_len [(L.2.2.1, r.2)]
  simp only [List.length_singleton] at h8
  exact okB_iff.2 ⟨h1, by simp [pushP]; omega, by simp [pushP]; omega, by simp [pushP]; omega, by simp [pushP]; omega, by simp [pushP]; omega, by simp [pushP]; omega, h9⟩
theorem apR_ok {c : Nat} {L : LogS} (most : Int) (r : Rec) (h : okB c L = true) (hc : c + 1 ≤ 1000000000) : okB (c + 2) (apR most L r) = true := by
  unfold apR
  cases recR (0, r.2) with
  | false => exact okB_mono h (by omega)
  | true =>
    have := pushP_ok r h
    cases decide (L.2.2.1 + 1 - L.2.1 ≥ mxI most) with
    | true => exact sealP_ok this hc
    | false => exact okB_mono this (by omega)
theorem apL_ok {c : Nat} {L : LogS} (most : Int) (l : List Rec) (h : okB c L = true) : ∀ i, c + 2 * i ≤ 1000000000 → okB (c + 2 * i) (apL most l L i) = true
  | 0, _ => h
  | i + 1, hi => apR_ok (c := c + 2 * i) most _ (apL_ok most l h i (by omega)) (by omega)
theorem sealP_next (L : LogS) : (sealP L).2.2.1 = L.2.2.1 := by
  unfold sealP
  cases L.2.1 == L.2.2.1 <;> rfl
theorem someI_next {most : Int} {l : List Rec} {L : LogS} : ∀ {i : Nat}, someI l i = false → apL most l L i = L
  | 0, _ => rfl
  | i + 1, h => by
    simp only [someI, Bool.or_eq_false_iff] at h
    show apR most (apL most l L i) _ = L
    unfold apR
    rw [h.2, cond_false]
    exact someI_next h.1
def logO (L : LogS) : List (Nat × AObj) := [(0, .arr 1 .bool [] [[.hw 1]]), (1, .arr 10 segT L.1 [actC L.2.1 L.2.2.1 L.2.2.2.1]), (2, .log recT L.2.2.2.2)]
def apSt (most fi : Int) (so : Bool) (l : List Rec) (i : Nat) (L : LogS) : St := ⟨[(0, .ptr 0 (.tl 0) 0), (2, .int .i64 most), (7, .int .i64 fi), (8, .bool so), (14, .vl recT l), (15, .int .i64 l.length), (16, .int .i64 i)], logO L, 3⟩
theorem ap_round {R : Type} (most fi : Int) (so : Bool) (l : List Rec) (hl : l.length ≤ 400000000) (i : Nat) (hi : i < l.length) (M : LogS) {c : Nat} (h : okB c M = true) (hc : c ≤ 2000000000) (hf : M.1.length ≤ 1000000000) (hso : so = false → M.2.2.1 = fi) (K : Ex → St → Option R) :
    roundK (env consS2) H.segs_Log_Append 1 (LPof []) V.segs_Log_Append_3 L.segs_Log_Append_3 (apSt most fi so l i M) K = K .normal (apSt most fi (so || recR (0, (l.getD i recTy.zero).2)) l (i + 1) (apR most M (l.getD i recTy.zero))) := by
  obtain ⟨f, b, n, z, rs⟩ := M
  obtain ⟨h1, h2, h3, h4, h5, h6, h7, h9⟩ := okB_iff.1 h
  simp only at h1 h2 h3 h4 h5 h6 h7 hf hso
  refine (append_rd _ _ _ _ _ _ _ _ _ _ _ _).trans ?_
  have e3 : IntKind.i64.wrap ((i : Int) + 1) = ((i + 1 : Nat) : Int) := by rw [wrap64 (by omega) (by omega)]; omega
  have h8 := bytS_len [(n, (l.getD i recTy.zero).2)]
  simp only [List.length_singleton] at h8
  have e4 : IntKind.i64.wrap (n + 1) = n + 1 := wrap64 (by omega) (by omega)
  have e5 : IntKind.i64.wrap (n + 1 - b) = n + 1 - b := wrap64 (by omega) (by omega)
  have e6 : IntKind.i64.wrap (z + ((bytS [(n, (l.getD i recTy.zero).2)]).length : Int)) = z + ((bytS [(n, (l.getD i recTy.zero).2)]).length : Int) := wrap64 (by omega) (by omega)
  have b1 : decide ((rs ++ [(n, (l.getD i recTy.zero).2)]).length * 56 ≤ 140737488355328) = true := by simp; omega
  have b2 : decide (f.length ≤ 1000000000) = true := decide_eq_true hf
  rw [cond_pos (by omega), cond_pos2 (by omega) (by omega), Int.toNat_natCast, e3, e4, e5, e6, b1, b2]
  unfold apR
  cases hr : recR (0, (l.getD i recTy.zero).2) with
  | false =>
    simp only [Bool.not_false, cond_true, cond_false, Bool.or_false]
    rfl
  | true =>
    simp only [Bool.not_true, cond_true, cond_false, Bool.or_true]
    show (bif !so then bif decide (n + 1 - b ≥ mxI most) then _ else _ else bif decide (n + 1 - b ≥ mxI most) then _ else _) = K .normal (apSt most fi true l (i + 1) (bif decide (n + 1 - b ≥ mxI most) then _ else _))
    cases so with
    | false =>
      obtain rfl := hso rfl
      cases decide (n + 1 - b ≥ mxI most) <;> rfl
    | true => cases decide (n + 1 - b ≥ mxI most) <;> rfl
theorem ap_rounds {R : Type} (most : Int) (l : List Rec) (hl : l.length ≤ 200000000) (M : LogS) (h : okB 500000000 M = true) (K : Ex → St → Option R) : ∀ (m i : Nat), i + m = l.length →
    rounds (env consS2) H.segs_Log_Append 1 (LPof []) V.segs_Log_Append_3 L.segs_Log_Append_3 (m + 1) (apSt most M.2.2.1 (someI l i) l i (apL most l M i)) K = K (.exit 0) (apSt most M.2.2.1 (someI l l.length) l l.length (apL most l M l.length))
  | 0, i, hi => by
    obtain rfl : i = l.length := by omega
    rw [rounds_succ']
    refine (append_rd _ _ _ _ _ _ _ _ _ _ _ _).trans ?_
    rw [cond_neg (by omega)]
    rfl
  | m + 1, i, hi => by
    have ih := ap_rounds most l hl M h K m (i + 1) (by omega)
    have hk := apL_ok most l h i (by omega)
    have h6 := (okB_iff.1 hk).2.2.2.2.2.1
    rw [rounds_succ']
    refine (ap_round most M.2.2.1 (someI l i) l (by omega) i (by omega) _ hk (by omega) (by omega) (fun hs => by rw [someI_next hs]) _).trans ?_
    exact ih
abbrev apLC : LoopC := LoopC.of ⟨[(0, .lit (.ptr 0 (.tl 0) 0)), (2, .int .i64), (7, .int .i64), (8, .bool), (14, .vl recT), (15, .int .i64), (16, .int .i64)], logP⟩
  (fun ⟨⟨_, most, fi, so, l, m, i, _⟩, ⟨_, ⟨f, ⟨b, n, _, _, _, _, _, _, z, _, _⟩, _⟩, rs, _⟩⟩ => decide (i = (0 : Int)) && decide (m = (List.length l : Int)) && !so && decide (fi = n) && decide (List.length l ≤ 200000000) && okB 500000000 (f, b, n, z, rs))
  fun ⟨⟨_, most, fi, so, l, m, i, _⟩, ⟨_, ⟨f, ⟨b, n, _, _, _, _, _, _, z, _, _⟩, _⟩, rs, _⟩⟩ => [(true, .exit 0, apSt most fi (someI l (List.length l)) l (List.length l) (apL most l (f, b, n, z, rs) (List.length l)))]
theorem ap_lok : LoopOK P0 H.segs_Log_Append 1 L.segs_Log_Append_3 apLC :=
  loop_ok_of (env_ok consS2_ok) glob0 mixed0 noLoops V.segs_Log_Append_3 (by decide) fun ⟨⟨_, most, fi, so, l, m, i, _⟩, ⟨_, ⟨f, ⟨b, n, _, _, _, _, _, _, z, _, _⟩, _⟩, rs, _⟩⟩ h hw => by
    simp only [Bool.and_eq_true, decide_eq_true_eq, Bool.not_eq_true'] at h
    obtain ⟨⟨⟨⟨⟨rfl, rfl⟩, rfl⟩, rfl⟩, h5⟩, h6⟩ := h
    exact ⟨_, ap_rounds most l h5 (f, b, fi, z, rs) h6 _ (List.length l) 0 (Nat.zero_add _)⟩
theorem append_ev (most : Int) (l : List Rec) (f : List Seg) (b n z : Int) (rs : List Rec) : evFnM 1 (env consS2) H.segs_Log_Append (LPof [(3, apLC)]) F.segs_Log_Append [.ptr 0 (.tl 0) 0, .vl recT l, .int .i64 most] [.arr 1 .bool [] [[.hw 1]], .arr 10 segT f [actC b n z], .log recT rs] (finVM (.int .i64) logQ 1 3) = bif decide (f.length ≤ 1000000000) then bif decide ((↑l.length : Int) = (↑l.length : Int)) && true && decide (n = n) && decide (l.length ≤ 200000000) && okB 500000000 (f, b, n, z, rs) && true then some (n, (((), ()), ()), (), (), ((apL most l (f, b, n, z, rs) l.length).fst, ((apL most l (f, b, n, z, rs) l.length).snd.fst, (apL most l (f, b, n, z, rs) l.length).snd.snd.fst, (), (), (), (), (), (), (apL most l (f, b, n, z, rs) l.length).snd.snd.snd.fst, (), ()), ()), (apL most l (f, b, n, z, rs) l.length).snd.snd.snd.snd, ()) else none else none := by kernel_rfl

end Go.Sim.XU
namespace Go.Sim.XU
set_option linter.unusedSimpArgs false
set_option linter.unusedVariables false
set_option maxRecDepth 10000
def caseAppend : VCase := ⟨[.lit (.ptr 0 (.tl 0) 0), .vl recT, .int .i64], logP, .int .i64, logQ, fun ⟨_, l, most, _⟩ ⟨_, ⟨f, ⟨b, n, _, _, _, _, _, _, z, _, _⟩, _⟩, rs, _⟩ => [(decide (List.length l ≤ 200000000) && okB 500000000 (f, b, n, z, rs), (n, ((((), ()), ()), (), (), ((apL most l (f, b, n, z, rs) (List.length l)).1, ((apL most l (f, b, n, z, rs) (List.length l)).2.1, (apL most l (f, b, n, z, rs) (List.length l)).2.2.1, (), (), (), (), (), (), (apL most l (f, b, n, z, rs) (List.length l)).2.2.2.1, (), ()), ()), (apL most l (f, b, n, z, rs) (List.length l)).2.2.2.2, ())))]⟩
theorem append_ok : caseAppend.e.ok P0 I.segs_Log_Append := vcase_okM (c := caseAppend) (H := H.segs_Log_Append) (E := env consS2) (env_ok consS2_ok) glob0 mixed0 G.segs_Log_Append Bd.segs_Log_Append 1 rfl (by kernel_rfl) (loops_good (tab := [(3, apLC)]) (by kernel_rfl) (fun x hx => by simp at hx; subst hx; exact ap_lok)) fun ⟨_, l, most, _⟩ ⟨_, ⟨f, ⟨b, n, _, _, _, _, _, _, z, _, _⟩, _⟩, rs, _⟩ r h hw1 hw2 => by
  obtain ⟨hc, rfl⟩ := pick_pre h
  simp only [Bool.and_eq_true] at hc
  refine (append_ev most l f b n z rs).trans ?_
  have h6 : List.length f ≤ 500000000 := (okB_iff.1 hc.2).2.2.2.2.2.1
  rw [cond_pos (by omega), hc.1, hc.2]
  simp only [decide_true, Bool.and_self, cond_true]
  rfl
def caseCopied : PCase := ⟨[.ty segT], [segT], fun x => (fun (g : Seg) => [(decide (List.length g.2.2.2.2.1 ≤ 1000000000), (g, ()))]) x.1⟩
abbrev actRP : List Pat := [.int .i64, .int .i64, .lit (.int .i64 0), .lit (.int .i64 0), .lit (.hw 1), .lit (.bool false), .lit (.bool false), .lit (.bool false), .int .i64, .lit (.int .u32 0)]
end Go.Sim.XU
namespace Go.Sim.XU
set_option linter.unusedSimpArgs false
set_option linter.unusedVariables false
set_option maxRecDepth 10000
def recK (j : Int) : Rec := (j, j, [107], [], false)
def recsK (b : Int) (c : Nat) : List Rec := (List.range c).map fun j => recK (b + (j : Nat))
def goodF (most : Int) (g : Seg) : Bool := g.2.2.2.2.2.1 && decide (IntKind.i64.wrap (g.2.1 - g.1) ≤ most) && decide (g.2.2.1 = IntKind.i64.wrap (g.2.1 - 1))
structure InvK (most : Int) (i : Nat) (L : LogS) : Prop where
  next : L.2.2.1 = (i : Int)
  base : 0 ≤ L.2.1 ∧ L.2.1 ≤ (i : Int) ∧ (i : Int) - L.2.1 < most
  recs : L.2.2.2.2 = recsK L.2.1 ((i : Int) - L.2.1).toNat
  good : L.1.all (goodF most) = true
  low : lowP L = 0
  ok : okB (4 * i) L = true
theorem lowP_seal (L : LogS) : lowP (sealP L) = lowP L := by
  unfold sealP
  cases L.2.1 == L.2.2.1 with
  | true => rfl
  | false =>
    obtain ⟨f, b, n, z, rs⟩ := L
    cases f <;> rfl
/-- What is left of a step before it is known whether the log is sealed. -/
structure MidK (most : Int) (i : Nat) (L : LogS) : Prop where
  next : L.2.2.1 = (i : Int)
  base : 0 ≤ L.2.1 ∧ L.2.1 ≤ (i : Int) ∧ (i : Int) - L.2.1 ≤ most
  recs : L.2.2.2.2 = recsK L.2.1 ((i : Int) - L.2.1).toNat
  good : L.1.all (goodF most) = true
  low : lowP L = 0
end Go.Sim.XU
namespace Go.Sim
/-- What is left of code behind its first n parts. -/
def sufC : Nat → Code → Code
  | 0, c => c
  | n + 1, .seq _ b => sufC n b
  | _ + 1, _ => .skip
/-- The first n parts of code. -/
def preC : Nat → Code → Code
  | 0, _ => .skip
  | n + 1, .seq a b => .seq a (preC n b)
  | _ + 1, c => c
theorem cut_skip {E : Env} {H : Hint} {k0 : Nat} {R : Type} {LP : Loops R} (K : Ex → St → Option R) : (fun e s' => match e with
      | .normal => ev E H k0 LP .skip s' K
      | e => K e s') = K := by
  funext e s'
  cases e <;> rfl
theorem ev_cut {E : Env} {H : Hint} {k0 : Nat} (hj : H.jc = []) {R : Type} {LP : Loops R} : ∀ (n : Nat) (c : Code) (s : St) (K : Ex → St → Option R),
    ev E H k0 LP c s K = ev E H k0 LP (preC n c) s fun e s' => match e with
      | .normal => ev E H k0 LP (sufC n c) s' K
      | e => K e s' := by
  intro n
  induction n with
  | zero => intro c s K; rfl
  | succ n ih =>
    intro c s K
    cases c with
    | seq a b =>
      have hn : (cond (loopFree a) (lk? H.jc (firstRegion a)) none) = none := by rw [hj]; cases loopFree a <;> rfl
      simp only [preC, sufC, ev]
      rw [hn]
      simp only
      congr 1
      funext e s'
      cases e with
      | normal => exact ih b s' K
      | exit i => rfl
      | ret => rfl
    | _ => simp only [preC, sufC]; rw [cut_skip]
end Go.Sim
namespace Go.Sim
set_option linter.unusedSimpArgs false
set_option linter.unusedVariables false
set_option maxRecDepth 10000
open Go.Sim.XU
def nextP (off : Int) (M : LogS) (i : Nat) : Bool := decide (((segsL M).getD i segTy.zero).2.1 > off)
abbrev idP : List OPat := [.arr 10 segT [actRP], .log recT, .box 1 [[.int .i64]]]
def idAt (off : Int) (M : LogS) : Option Nat := firstFrom (nextP off M) 0 (M.1.length + 1)
noncomputable abbrev consF1 : List (FuncId × Con) := [(I.slices_Clip_api_Record_api_Record, inl (env []) H.slices_Clip_api_Record_api_Record F.slices_Clip_api_Record_api_Record (fun R k0 => loopsF (env []) H.slices_Clip_api_Record_api_Record k0 B.slices_Clip_api_Record_api_Record 1))]
theorem consF1_ok : ∀ x ∈ consF1, HoldsC P0 x.1 x.2 := by
  intro x hx
  simp at hx
  subst hx
  exact inl_ok (env_ok env_nil) glob0 mixed0 G.slices_Clip_api_Record_api_Record Bd.slices_Clip_api_Record_api_Record C.slices_Clip_api_Record_api_Record (fun R k0 => loopsF_good (env_ok env_nil) glob0 mixed0 (by kernel_rfl) 1)
/-- A value that the kernel does not look into. -/
noncomputable def hold {α : Type} (v : α) : α := Classical.choose (⟨v, rfl⟩ : ∃ x, x = v)
noncomputable def idxV (off : Int) (M : LogS) : Int := hold (bif (idAt off M).isSome then (((idAt off M).getD 0 : Nat) : Int) else -1)
noncomputable def caseIdx : VCase := ⟨[.lit (.hw 0), .fn I.segs_Log_Find_1 [.lit (.ptr 2 (.tl 0) 0)]], idP, .int .i64, idP, fun _ ⟨⟨f, ⟨b, n, _, _, _, _, _, _, z, _, _⟩, _⟩, rs, ⟨⟨off, _⟩, _⟩, _⟩ =>
  [(decide (List.length f ≤ 1000000000), (idxV off (f, b, n, z, rs), ((f, (b, n, (), (), (), (), (), (), z, (), ()), ()), rs, ((off, ()), ()), ())))]⟩
noncomputable abbrev consI2 : List (FuncId × Con) := [(I.slices_IndexFunc_api_Segment_api_Segment, .eff (effOf [caseIdx.e])), (I.segs_copied, .pure (pureOf [caseCopied])), (I.segs_Log_Low, .eff (effOf [caseLow.e]))]
theorem find1_ev {R : Type} (off : Int) (f : List Seg) (b n z : Int) (rs : List Rec) (K : Ex → St → Option R) : ev (env consI2) H.segs_Log_Find 3 (LPof []) (preC 4 B.segs_Log_Find) (initSt [.ptr 0 (.tl 0) 0, .int .i64 off] [.arr 1 .bool [] [[.hw 1]], .arr 10 segT f [actC b n z], .log recT rs]) K = bif decide (off < lowP (f, b, n, z, rs)) then K Ex.ret { slots := [(5, AV.bool false), (11, AV.agg [AV.int IntKind.i64 (0 : Int), AV.int IntKind.i64 (0 : Int), AV.int IntKind.i64 (0 : Int), AV.int IntKind.i64 (0 : Int), AV.nils, AV.bool false, AV.bool false, AV.bool false, AV.int IntKind.i64 (0 : Int), AV.int IntKind.u32 (0 : Int)]), (10, AV.bool (decide (off < lowP (f, b, n, z, rs)))), (9, AV.int IntKind.i64 (lowP (f, b, n, z, rs))), (8, AV.ptr 0 (Elt.tl 0) 0), (7, AV.int IntKind.i64 off), (5, AV.bool false), (4, AV.ptr 4 (Elt.tl 0) 0), (3, AV.ptr 3 (Elt.tl 0) 0), (0, AV.ptr 0 (Elt.tl 0) 0), (1, AV.int IntKind.i64 off)], objs := [(4, AObj.arr 10 Ty.bool [] [[AV.int IntKind.i64 (0 : Int), AV.int IntKind.i64 (0 : Int), AV.int IntKind.i64 (0 : Int), AV.int IntKind.i64 (0 : Int), AV.nils, AV.bool false, AV.bool false, AV.bool false, AV.int IntKind.i64 (0 : Int), AV.int IntKind.u32 (0 : Int)]]), (0, AObj.arr 1 Ty.bool [] [[AV.hw 1]]), (1, AObj.arr 10 segTy f [[AV.int IntKind.i64 b, AV.int IntKind.i64 n, AV.int IntKind.i64 (0 : Int), AV.int IntKind.i64 (0 : Int), AV.hw 2, AV.bool false, AV.bool false, AV.bool false, AV.int IntKind.i64 z, AV.int IntKind.u32 (0 : Int)]]), (2, AObj.log recTy rs), (4, AObj.arr 10 Ty.bool [] [[AV.int IntKind.i64 (0 : Int), AV.int IntKind.i64 (0 : Int), AV.int IntKind.i64 (0 : Int), AV.int IntKind.i64 (0 : Int), AV.nils, AV.bool false, AV.bool false, AV.bool false, AV.int IntKind.i64 (0 : Int), AV.int IntKind.u32 (0 : Int)]]), (3, AObj.arr 1 Ty.bool [] [[AV.int IntKind.i64 off]]), (0, AObj.arr 1 Ty.bool [] [[AV.hw 1]]), (1, AObj.arr 10 segTy f [[AV.int IntKind.i64 b, AV.int IntKind.i64 n, AV.int IntKind.i64 (0 : Int), AV.int IntKind.i64 (0 : Int), AV.hw 2, AV.bool false, AV.bool false, AV.bool false, AV.int IntKind.i64 z, AV.int IntKind.u32 (0 : Int)]]), (2, AObj.log recTy rs)], nx := 5 } else bif decide (f.length ≤ 1000000000) then bif decide (idxV off (f, b, n, z, rs) < (0 : Int)) then K Ex.ret { slots := [(5, AV.bool false), (20, AV.agg [AV.int IntKind.i64 (0 : Int), AV.int IntKind.i64 (0 : Int), AV.int IntKind.i64 (0 : Int), AV.int IntKind.i64 (0 : Int), AV.nils, AV.bool false, AV.bool false, AV.bool false, AV.int IntKind.i64 (0 : Int), AV.int IntKind.u32 (0 : Int)]), (19, AV.bool (decide (idxV off (f, b, n, z, rs) < (0 : Int)))), (18, AV.int IntKind.i64 (idxV off (f, b, n, z, rs))), (6, AV.int IntKind.i64 (idxV off (f, b, n, z, rs))), (17, AV.int IntKind.i64 (idxV off (f, b, n, z, rs))), (16, AV.fn (Fn.func 152) [] [AV.ptr 3 (Elt.tl 0) 0]), (15, AV.hw 1), (14, AV.ptr 0 (Elt.tl 0) 0), (13, AV.ptr 0 (Elt.tl 0) 0), (12, AV.ptr 0 (Elt.tl 0) 0), (10, AV.bool (decide (off < lowP (f, b, n, z, rs)))), (9, AV.int IntKind.i64 (lowP (f, b, n, z, rs))), (8, AV.ptr 0 (Elt.tl 0) 0), (7, AV.int IntKind.i64 off), (5, AV.bool false), (4, AV.ptr 4 (Elt.tl 0) 0), (3, AV.ptr 3 (Elt.tl 0) 0), (0, AV.ptr 0 (Elt.tl 0) 0), (1, AV.int IntKind.i64 off)], objs := [(4, AObj.arr 10 Ty.bool [] [[AV.int IntKind.i64 (0 : Int), AV.int IntKind.i64 (0 : Int), AV.int IntKind.i64 (0 : Int), AV.int IntKind.i64 (0 : Int), AV.nils, AV.bool false, AV.bool false, AV.bool false, AV.int IntKind.i64 (0 : Int), AV.int IntKind.u32 (0 : Int)]]), (1, AObj.arr 10 segTy f [[AV.int IntKind.i64 b, AV.int IntKind.i64 n, AV.int IntKind.i64 (0 : Int), AV.int IntKind.i64 (0 : Int), AV.hw 2, AV.bool false, AV.bool false, AV.bool false, AV.int IntKind.i64 z, AV.int IntKind.u32 (0 : Int)]]), (2, AObj.log recTy rs), (3, AObj.arr 1 Ty.bool [] [[AV.int IntKind.i64 off]]), (0, AObj.arr 1 Ty.bool [] [[AV.hw 1]]), (1, AObj.arr 10 segTy f [[AV.int IntKind.i64 b, AV.int IntKind.i64 n, AV.int IntKind.i64 (0 : Int), AV.int IntKind.i64 (0 : Int), AV.hw 2, AV.bool false, AV.bool false, AV.bool false, AV.int IntKind.i64 z, AV.int IntKind.u32 (0 : Int)]]), (2, AObj.log recTy rs), (4, AObj.arr 10 Ty.bool [] [[AV.int IntKind.i64 (0 : Int), AV.int IntKind.i64 (0 : Int), AV.int IntKind.i64 (0 : Int), AV.int IntKind.i64 (0 : Int), AV.nils, AV.bool false, AV.bool false, AV.bool false, AV.int IntKind.i64 (0 : Int), AV.int IntKind.u32 (0 : Int)]]), (3, AObj.arr 1 Ty.bool [] [[AV.int IntKind.i64 off]]), (0, AObj.arr 1 Ty.bool [] [[AV.hw 1]]), (1, AObj.arr 10 segTy f [[AV.int IntKind.i64 b, AV.int IntKind.i64 n, AV.int IntKind.i64 (0 : Int), AV.int IntKind.i64 (0 : Int), AV.hw 2, AV.bool false, AV.bool false, AV.bool false, AV.int IntKind.i64 z, AV.int IntKind.u32 (0 : Int)]]), (2, AObj.log recTy rs)], nx := 5 } else K Ex.normal { slots := [(19, AV.bool (decide (idxV off (f, b, n, z, rs) < (0 : Int)))), (18, AV.int IntKind.i64 (idxV off (f, b, n, z, rs))), (6, AV.int IntKind.i64 (idxV off (f, b, n, z, rs))), (17, AV.int IntKind.i64 (idxV off (f, b, n, z, rs))), (16, AV.fn (Fn.func 152) [] [AV.ptr 3 (Elt.tl 0) 0]), (15, AV.hw 1), (14, AV.ptr 0 (Elt.tl 0) 0), (13, AV.ptr 0 (Elt.tl 0) 0), (12, AV.ptr 0 (Elt.tl 0) 0), (10, AV.bool (decide (off < lowP (f, b, n, z, rs)))), (9, AV.int IntKind.i64 (lowP (f, b, n, z, rs))), (8, AV.ptr 0 (Elt.tl 0) 0), (7, AV.int IntKind.i64 off), (5, AV.bool false), (4, AV.ptr 4 (Elt.tl 0) 0), (3, AV.ptr 3 (Elt.tl 0) 0), (0, AV.ptr 0 (Elt.tl 0) 0), (1, AV.int IntKind.i64 off)], objs := [(1, AObj.arr 10 segTy f [[AV.int IntKind.i64 b, AV.int IntKind.i64 n, AV.int IntKind.i64 (0 : Int), AV.int IntKind.i64 (0 : Int), AV.hw 2, AV.bool false, AV.bool false, AV.bool false, AV.int IntKind.i64 z, AV.int IntKind.u32 (0 : Int)]]), (2, AObj.log recTy rs), (3, AObj.arr 1 Ty.bool [] [[AV.int IntKind.i64 off]]), (0, AObj.arr 1 Ty.bool [] [[AV.hw 1]]), (1, AObj.arr 10 segTy f [[AV.int IntKind.i64 b, AV.int IntKind.i64 n, AV.int IntKind.i64 (0 : Int), AV.int IntKind.i64 (0 : Int), AV.hw 2, AV.bool false, AV.bool false, AV.bool false, AV.int IntKind.i64 z, AV.int IntKind.u32 (0 : Int)]]), (2, AObj.log recTy rs), (4, AObj.arr 10 Ty.bool [] [[AV.int IntKind.i64 (0 : Int), AV.int IntKind.i64 (0 : Int), AV.int IntKind.i64 (0 : Int), AV.int IntKind.i64 (0 : Int), AV.nils, AV.bool false, AV.bool false, AV.bool false, AV.int IntKind.i64 (0 : Int), AV.int IntKind.u32 (0 : Int)]]), (3, AObj.arr 1 Ty.bool [] [[AV.int IntKind.i64 off]]), (0, AObj.arr 1 Ty.bool [] [[AV.hw 1]]), (1, AObj.arr 10 segTy f [[AV.int IntKind.i64 b, AV.int IntKind.i64 n, AV.int IntKind.i64 (0 : Int), AV.int IntKind.i64 (0 : Int), AV.hw 2, AV.bool false, AV.bool false, AV.bool false, AV.int IntKind.i64 z, AV.int IntKind.u32 (0 : Int)]]), (2, AObj.log recTy rs)], nx := 5 } else none := by kernel_rfl

end Go.Sim
namespace Go.Sim
set_option linter.unusedSimpArgs false
set_option linter.unusedVariables false
theorem env_nil : ∀ x ∈ ([] : List (FuncId × Con)), HoldsC P0 x.1 x.2 := fun x h => by cases h

theorem drop_ne {s : List UInt8} {pos : Nat} (h : pos < s.length) : s.drop pos ≠ [] := by
  intro e
  have := congrArg List.length e
  simp at this
  omega
theorem among_rd {R : Type} (s : List UInt8) (pos : Nat) (c : Int) (f : Bool) (K : Ex → St → Option R) : roundK (env []) H.names_among 0 (LPof []) V.names_among_2 L.names_among_2 ⟨[(1, .int .i32 c), (4, .bool f), (8, .it 0)], [(0, .siter s pos)], 1⟩ K = bif decide (pos < s.length) then bif (↑(Utf8.decode { data := s.toArray } pos).fst : Int) == c then K Ex.ret { slots := [(1, AV.int IntKind.i32 c), (4, AV.bool true), (8, AV.it 0)], objs := [(0, AObj.siter s (pos + (Utf8.decode { data := s.toArray } pos).snd))], nx := 1 } else K Ex.normal { slots := [(1, AV.int IntKind.i32 c), (4, AV.bool f), (8, AV.it 0)], objs := [(0, AObj.siter s (pos + (Utf8.decode { data := s.toArray } pos).snd))], nx := 1 } else K (Ex.exit 0) { slots := [(1, AV.int IntKind.i32 c), (4, AV.bool f), (8, AV.it 0)], objs := [(0, AObj.siter s pos)], nx := 1 } := by kernel_rfl

def amongSt (s : List UInt8) (pos : Nat) (c : Int) (f : Bool) : St := ⟨[(1, .int .i32 c), (4, .bool f), (8, .it 0)], [(0, .siter s pos)], 1⟩
theorem among_loop (s : List UInt8) (c : Int) (f : Bool) {R : Type} (K : Ex → St → Option R) : ∀ (m pos : Nat), s.length ≤ pos + m → pos ≤ s.length →
    rounds (env []) H.names_among 0 (LPof []) V.names_among_2 L.names_among_2 (m + 1) (amongSt s pos c f) K =
      match findF m (s.drop pos) c with
      | some k => K .ret (amongSt s (pos + k) c true)
      | none => K (.exit 0) (amongSt s s.length c f)
  | 0, pos, h, hp => by
    have : pos = s.length := by omega
    subst this
    rw [rounds_succ']
    unfold amongSt
    rw [among_rd, cond_neg (by omega)]
    rfl
  | m + 1, pos, h, hp => by
    rw [rounds_succ']
    unfold amongSt
    by_cases hlt : pos < s.length
    · have hne := drop_ne hlt
      have hw := dec1_pos (s.drop pos)
      have hle := dec1_le _ hne
      rw [List.length_drop] at hle
      have hem : (s.drop pos).isEmpty = false := by cases hd : s.drop pos with | nil => exact absurd hd hne | cons a b => rfl
      rw [among_rd, cond_pos hlt, decode_dec1]
      simp only [findF, hem, cond_false]
      cases hc : ((((dec1 (s.drop pos)).1 : Nat) : Int) == c)
      · have ih := among_loop s c f K m (pos + (dec1 (s.drop pos)).2) (by omega) (by omega)
        simp only [cond_false]
        rw [List.drop_drop]
        refine Eq.trans ih ?_
        cases findF m (s.drop (pos + (dec1 (s.drop pos)).2)) c with
        | none => rfl
        | some k => simp only [Option.map_some, Nat.add_assoc]; rfl
      · rfl
    · have : pos = s.length := by omega
      subst this
      rw [among_rd, cond_neg (by omega)]
      simp [findF]
def amongPat : SPat := ⟨[(1, .int .i32), (4, .bool), (8, .lit (.it 0))], [.siter]⟩
def amongLC : LoopC := LoopC.of amongPat (fun x => decide (x.2.1.2 = 0))
  fun x => [((findF (List.length x.2.1.1) x.2.1.1 x.1.1).isSome, .ret, amongSt x.2.1.1 ((findF (List.length x.2.1.1) x.2.1.1 x.1.1).getD 0) x.1.1 true), (true, .exit 0, amongSt x.2.1.1 (List.length x.2.1.1) x.1.1 x.1.2.1)]
theorem among_lok : LoopOK P0 H.names_among 0 L.names_among_2 amongLC := loop_ok_of (env_ok env_nil) glob0 mixed0 noLoops V.names_among_2 (by decide) fun ⟨⟨c, f, _, _⟩, ⟨s, pos⟩, _⟩ h hw => by
  obtain rfl := of_decide_eq_true h
  have := among_loop s c f (fun e s => some (e, s)) (List.length s) 0 (by omega) (Nat.zero_le _)
  rw [List.drop_zero] at this
  refine ⟨_, Eq.trans this ?_⟩
  simp only [pick]
  cases findF s.length s c with
  | none => rfl
  | some k => simp only [Nat.zero_add]; rfl
theorem among_ev (s : List UInt8) (c : Int) : evFn (env []) H.names_among (LPof [(2, amongLC)]) F.names_among [.str s, .int .i32 c] [] (finK 0) = bif (findF s.length s c).isSome then some (AV.bool true, []) else some (AV.bool false, []) := by kernel_rfl

def caseAmong : PCase := ⟨[.ty .str, .ty (.int .i32)], [.bool], fun x => [(true, (hasR x.1 x.2.1, ()))]⟩
theorem among_val (s : List UInt8) (c : Int) : evFn (env []) H.names_among (LPof [(2, amongLC)]) F.names_among [.str s, .int .i32 c] [] (finK 0) = some (.bool (hasR s c), []) := by
  rw [among_ev]
  unfold hasR
  cases (findF s.length s c).isSome <;> rfl
theorem among_ok : caseAmong.ok P0 I.names_among := case_ok (H := H.names_among) (E := env []) (env_ok env_nil) glob0 mixed0 G.names_among Bd.names_among (by kernel_rfl) (loops_good (tab := [(2, amongLC)]) (by kernel_rfl) (fun x hx => by simp at hx; subst hx; exact among_lok)) fun ⟨s, c, ()⟩ y h hw => by
  obtain rfl := pick_one h
  exact ⟨[], among_val s c⟩
noncomputable abbrev consM1 : List (FuncId × Con) := [(I.names_among, .pure (pureOf [caseAmong]))]
theorem consM1_ok : ∀ x ∈ consM1, HoldsC P0 x.1 x.2 := by
  intro x hx
  simp at hx
  subst hx
  exact ⟨pureOf_holds (by simp; exact among_ok), C.names_among⟩
theorem may_ev (c : Int) : evFn (env consM1) H.names_may (LPof []) F.names_may [.int .i32 c] [] (finK 0) = Option.bind (bif hasR [(97 : UInt8), (98 : UInt8), (99 : UInt8), (100 : UInt8), (101 : UInt8), (102 : UInt8), (103 : UInt8), (104 : UInt8), (105 : UInt8), (106 : UInt8), (107 : UInt8), (108 : UInt8), (109 : UInt8), (110 : UInt8), (111 : UInt8), (112 : UInt8), (113 : UInt8), (114 : UInt8), (115 : UInt8), (116 : UInt8), (117 : UInt8), (118 : UInt8), (119 : UInt8), (120 : UInt8), (121 : UInt8), (122 : UInt8), (48 : UInt8), (49 : UInt8), (50 : UInt8), (51 : UInt8), (52 : UInt8), (53 : UInt8), (54 : UInt8), (55 : UInt8), (56 : UInt8), (57 : UInt8)] c then some true else bif hasR [(45 : UInt8), (95 : UInt8), (46 : UInt8)] c then some true else bif decide (c ≥ (161 : Int)) then bif decide (c ≤ (65535 : Int)) then bif c != (173 : Int) then some (c != (65279 : Int)) else some false else some false else some false) fun v => some (AV.bool v, []) := by kernel_rfl

def caseMay : PCase := ⟨[.ty (.int .i32)], [.bool], fun x => [(true, (mayR x.1, ()))]⟩
theorem may_val (c : Int) : evFn (env consM1) H.names_may (LPof []) F.names_may [.int .i32 c] [] (finK 0) = some (.bool (mayR c), []) := by
  rw [may_ev]
  unfold mayR lettersL signsL
  generalize hasR _ c = a
  generalize hasR _ c = b
  cases a <;> cases b <;> cases decide (c ≥ 161) <;> cases decide (c ≤ 65535) <;> cases c != 173 <;> rfl
theorem may_ok : caseMay.ok P0 I.names_may := case_ok (H := H.names_may) (E := env consM1) (env_ok consM1_ok) glob0 mixed0 G.names_may Bd.names_may (by kernel_rfl) noLoops fun ⟨c, ()⟩ y h hw => by
  obtain rfl := pick_one h
  exact ⟨[], may_val c⟩
theorem word_ev (s : List UInt8) : evFn (env []) H.unicode_utf8_word_string (LPof []) F.unicode_utf8_word_string [.str s] [] (finK 0) = bif decide ((0 : Int) < (↑s.length : Int)) then bif decide ((1 : Int) < (↑s.length : Int)) then bif decide ((2 : Int) < (↑s.length : Int)) then bif decide ((3 : Int) < (↑s.length : Int)) then bif decide ((4 : Int) < (↑s.length : Int)) then bif decide ((5 : Int) < (↑s.length : Int)) then bif decide ((6 : Int) < (↑s.length : Int)) then bif decide ((7 : Int) < (↑s.length : Int)) then some (AV.int IntKind.u64 (IntKind.u64.wrap (↑(BitVec.ofInt 64 (IntKind.u64.wrap (↑(BitVec.ofInt 64 (IntKind.u64.wrap (↑(BitVec.ofInt 64 (IntKind.u64.wrap (↑(BitVec.ofInt 64 (IntKind.u64.wrap (↑(BitVec.ofInt 64 (IntKind.u64.wrap (↑(BitVec.ofInt 64 (IntKind.u64.wrap (↑(BitVec.ofInt 64 (IntKind.u64.wrap (↑(s.getD 0 (0 : UInt8)).toNat : Int)) ||| BitVec.ofInt 64 (IntKind.u64.wrap (IntKind.u64.wrap (↑(s.getD 1 (0 : UInt8)).toNat : Int) * (256 : Int)))).toNat : Int)) ||| BitVec.ofInt 64 (IntKind.u64.wrap (IntKind.u64.wrap (↑(s.getD 2 (0 : UInt8)).toNat : Int) * (65536 : Int)))).toNat : Int)) ||| BitVec.ofInt 64 (IntKind.u64.wrap (IntKind.u64.wrap (↑(s.getD 3 (0 : UInt8)).toNat : Int) * (16777216 : Int)))).toNat : Int)) ||| BitVec.ofInt 64 (IntKind.u64.wrap (IntKind.u64.wrap (↑(s.getD 4 (0 : UInt8)).toNat : Int) * (4294967296 : Int)))).toNat : Int)) ||| BitVec.ofInt 64 (IntKind.u64.wrap (IntKind.u64.wrap (↑(s.getD 5 (0 : UInt8)).toNat : Int) * (1099511627776 : Int)))).toNat : Int)) ||| BitVec.ofInt 64 (IntKind.u64.wrap (IntKind.u64.wrap (↑(s.getD 6 (0 : UInt8)).toNat : Int) * (281474976710656 : Int)))).toNat : Int)) ||| BitVec.ofInt 64 (IntKind.u64.wrap (IntKind.u64.wrap (↑(s.getD 7 (0 : UInt8)).toNat : Int) * (72057594037927936 : Int)))).toNat : Int)), []) else none else none else none else none else none else none else none else none := by kernel_rfl

def caseWord : PCase := ⟨[.ty .str], [.int .u64], fun x => [(decide (8 ≤ List.length x.1), (((w8 x.1).toNat : Int), ()))]⟩
theorem word_val (s : List UInt8) (h : 8 ≤ s.length) : evFn (env []) H.unicode_utf8_word_string (LPof []) F.unicode_utf8_word_string [.str s] [] (finK 0) = some (.int .u64 ((w8 s).toNat : Int), []) := by
  rw [word_ev, cond_pos (by omega), cond_pos (by omega), cond_pos (by omega), cond_pos (by omega), cond_pos (by omega), cond_pos (by omega), cond_pos (by omega), cond_pos (by omega)]
  have hz : ∀ x : BitVec 64, BitVec.ofInt 64 ((x.toNat : Nat) : Int) = x := fun x => by simp
  simp only [hz, ofInt_byte, ofInt_shift s 1 256 rfl (by decide), ofInt_shift s 2 65536 rfl (by decide), ofInt_shift s 3 16777216 rfl (by decide), ofInt_shift s 4 4294967296 rfl (by decide), ofInt_shift s 5 1099511627776 rfl (by decide), ofInt_shift s 6 281474976710656 rfl (by decide), ofInt_shift s 7 72057594037927936 rfl (by decide), ofInt_wrap, wrap_toNat]
  rfl
theorem word_ok : caseWord.ok P0 I.unicode_utf8_word_string := case_ok (H := H.unicode_utf8_word_string) (E := env []) (env_ok env_nil) glob0 mixed0 G.unicode_utf8_word_string Bd.unicode_utf8_word_string (by kernel_rfl) noLoops fun ⟨s, ()⟩ y h hw => by
  obtain ⟨hc, rfl⟩ := pick_pre h
  exact ⟨[], word_val s (of_decide_eq_true hc)⟩
noncomputable abbrev consW : List (FuncId × Con) := [(I.unicode_utf8_word_string, .pure (pureOf [caseWord]))]
theorem consW_ok : ∀ x ∈ consW, HoldsC P0 x.1 x.2 := by
  intro x hx
  simp at hx
  subst hx
  exact ⟨pureOf_holds (by simp; exact word_ok), C.unicode_utf8_word_string⟩
theorem vs9_rd {R : Type} (s : List UInt8) (f : Bool) (K : Ex → St → Option R) : roundK (env consW) H.unicode_utf8_ValidString 0 (LPof []) V.unicode_utf8_ValidString_9 L.unicode_utf8_ValidString_9 ⟨[(0, .str s), (2, .bool f)], [], 0⟩ K = Option.bind (bif decide ((↑s.length : Int) > (32 : Int)) then bif decide (8 ≤ s.length) then bif decide ((8 : Int) ≤ (↑s.length : Int)) then bif decide (8 ≤ (List.drop 8 s).length) then bif decide ((16 : Int) ≤ (↑s.length : Int)) then bif decide (8 ≤ (List.drop 16 s).length) then bif decide ((24 : Int) ≤ (↑s.length : Int)) then bif decide (8 ≤ (List.drop 24 s).length) then some (IntKind.u64.wrap (↑(BitVec.ofInt 64 (IntKind.u64.wrap (↑(BitVec.ofInt 64 (IntKind.u64.wrap (↑(BitVec.ofInt 64 (↑(w8 s).toNat : Int) ||| BitVec.ofInt 64 (↑(w8 (List.drop 8 s)).toNat : Int)).toNat : Int)) ||| BitVec.ofInt 64 (IntKind.u64.wrap (↑(BitVec.ofInt 64 (↑(w8 (List.drop 16 s)).toNat : Int) ||| BitVec.ofInt 64 (↑(w8 (List.drop 24 s)).toNat : Int)).toNat : Int))).toNat : Int)) &&& BitVec.ofInt 64 (9259542123273814144 : Int)).toNat : Int) == (0 : Int)) else none else none else none else none else none else none else none else some false) fun v => bif v then bif decide ((32 : Int) ≤ (↑s.length : Int)) then K Ex.normal { slots := [(0, AV.str (List.drop 32 s)), (2, AV.bool f)], objs := [], nx := 0 } else none else K (Ex.exit 2) { slots := [(0, AV.str s), (2, AV.bool f)], objs := [], nx := 0 } := by kernel_rfl

theorem ofInt_toNat64 (x : BitVec 64) : BitVec.ofInt 64 ((x.toNat : Nat) : Int) = x := by simp
theorem vs9_round {R : Type} (s : List UInt8) (f : Bool) (K : Ex → St → Option R) : roundK (env consW) H.unicode_utf8_ValidString 0 (LPof []) V.unicode_utf8_ValidString_9 L.unicode_utf8_ValidString_9 ⟨[(0, .str s), (2, .bool f)], [], 0⟩ K =
    bif decide (s.length > 32) && low32 s then K .normal ⟨[(0, .str (s.drop 32)), (2, .bool f)], [], 0⟩ else K (.exit 2) ⟨[(0, .str s), (2, .bool f)], [], 0⟩ := by
  rw [vs9_rd]
  by_cases h : s.length > 32
  · have h1 : 8 ≤ (s.drop 8).length := by simp; omega
    have h2 : 8 ≤ (s.drop 16).length := by simp; omega
    have h3 : 8 ≤ (s.drop 24).length := by simp; omega
    rw [cond_pos (by omega), cond_pos (by omega), cond_pos (by omega), cond_pos h1, cond_pos (by omega), cond_pos h2, cond_pos (by omega), cond_pos h3]
    simp only [ofInt_toNat64, wrap_toNat, Option.bind_some]
    rw [show (((((w8 s ||| w8 (s.drop 8)) ||| (w8 (s.drop 16) ||| w8 (s.drop 24))) &&& BitVec.ofInt 64 (9259542123273814144 : Int)).toNat : Int) == (0 : Int)) = low32 s from rfl]
    have hd : decide (s.length > 32) = true := decide_eq_true h
    rw [hd, Bool.true_and]
    cases low32 s
    · rfl
    · simp only [cond_true]
      rw [cond_pos (by omega)]
  · have hd : decide (s.length > 32) = false := decide_eq_false h
    rw [cond_neg (by omega), hd]
    rfl
theorem vs9_loop {R : Type} (f : Bool) (K : Ex → St → Option R) : ∀ (m : Nat) (s : List UInt8), s.length ≤ m → rounds (env consW) H.unicode_utf8_ValidString 0 (LPof []) V.unicode_utf8_ValidString_9 L.unicode_utf8_ValidString_9 (m + 1) ⟨[(0, .str s), (2, .bool f)], [], 0⟩ K = K (.exit 2) ⟨[(0, .str (skipF m s)), (2, .bool f)], [], 0⟩
  | 0, s, h => by
    have hd : decide (s.length > 32) = false := decide_eq_false (by omega)
    rw [rounds_succ', vs9_round, hd]
    rfl
  | m + 1, s, h => by
    rw [rounds_succ', vs9_round]
    simp only [skipF]
    cases hc : (decide (s.length > 32) && low32 s)
    · rfl
    · simp only [Bool.and_eq_true, decide_eq_true_eq] at hc
      exact vs9_loop f K m (s.drop 32) (by simp; omega)
def vs9Pat : SPat := ⟨[(0, .str), (2, .bool)], []⟩
def vs9LC : LoopC := LoopC.of vs9Pat (fun _ => true) fun x => [(true, .exit 2, ⟨[(0, .str (skip32 x.1.1)), (2, .bool x.1.2.1)], [], 0⟩)]
theorem vs9_lok : LoopOK P0 H.unicode_utf8_ValidString 0 L.unicode_utf8_ValidString_9 vs9LC := loop_ok_of (env_ok consW_ok) glob0 mixed0 noLoops V.unicode_utf8_ValidString_9 (by decide) fun ⟨⟨s, f, _⟩, _⟩ h hw =>
  ⟨_, vs9_loop f (fun e s => some (e, s)) (List.length s) s (Nat.le_refl _)⟩

theorem vs1_rd {R : Type} (s : List UInt8) (f : Bool) (K : Ex → St → Option R) : roundK (env consW) H.unicode_utf8_ValidString 0 (LPof [(9, vs9LC)]) V.unicode_utf8_ValidString_1 L.unicode_utf8_ValidString_1 ⟨[(0, .str s), (2, .bool f)], [], 0⟩ K = bif decide ((↑s.length : Int) > (0 : Int)) then bif decide ((0 : Int) < (↑s.length : Int)) then bif decide ((↑(s.getD 0 (0 : UInt8)).toNat : Int) < (128 : Int)) then bif decide ((1 : Int) ≤ (↑s.length : Int)) then Option.bind (bif decide ((↑(List.drop 1 s).length : Int) > (8 : Int)) then bif decide (8 ≤ (List.drop 1 s).length) then some (IntKind.u64.wrap (↑(BitVec.ofInt 64 (↑(w8 (List.drop 1 s)).toNat : Int) &&& BitVec.ofInt 64 (9259542123273814144 : Int)).toNat : Int) == (0 : Int)) else none else some false) fun v => bif v then bif decide ((8 : Int) ≤ (↑(List.drop 1 s).length : Int)) then Option.bind (bif decide ((↑(List.drop 8 (List.drop 1 s)).length : Int) > (16 : Int)) then bif decide (8 ≤ (List.drop 8 (List.drop 1 s)).length) then bif decide ((8 : Int) ≤ (↑(List.drop 8 (List.drop 1 s)).length : Int)) then bif decide (8 ≤ (List.drop 8 (List.drop 8 (List.drop 1 s))).length) then some (IntKind.u64.wrap (↑(BitVec.ofInt 64 (IntKind.u64.wrap (↑(BitVec.ofInt 64 (↑(w8 (List.drop 8 (List.drop 1 s))).toNat : Int) ||| BitVec.ofInt 64 (↑(w8 (List.drop 8 (List.drop 8 (List.drop 1 s)))).toNat : Int)).toNat : Int)) &&& BitVec.ofInt 64 (9259542123273814144 : Int)).toNat : Int) == (0 : Int)) else none else none else none else some false) fun v => bif v then bif decide ((16 : Int) ≤ (↑(List.drop 8 (List.drop 1 s)).length : Int)) then K Ex.normal { slots := [(0, AV.str (skip32 (List.drop 16 (List.drop 8 (List.drop 1 s))))), (2, AV.bool f)], objs := [], nx := 0 } else none else K Ex.normal { slots := [(0, AV.str (List.drop 8 (List.drop 1 s))), (2, AV.bool f)], objs := [], nx := 0 } else none else K Ex.normal { slots := [(0, AV.str (List.drop 1 s)), (2, AV.bool f)], objs := [], nx := 0 } else none else bif decide ((0 : Int) ≤ (↑(s.getD 0 (0 : UInt8)).toNat : Int)) && decide ((↑(s.getD 0 (0 : UInt8)).toNat : Int) < (256 : Int)) then bif decide ((0 : Int) ≤ Int.fdiv (utf8First.getD (s.getD 0 (0 : UInt8)).toNat (0 : Int)) (16 : Int)) && decide (Int.fdiv (utf8First.getD (s.getD 0 (0 : UInt8)).toNat (0 : Int)) (16 : Int) < (16 : Int)) then bif IntKind.i64.wrap (IntKind.u8.wrap (↑(BitVec.ofInt 8 (utf8First.getD (s.getD 0 (0 : UInt8)).toNat (0 : Int)) &&& BitVec.ofInt 8 (7 : Int)).toNat : Int)) == (2 : Int) then Option.bind (bif decide ((↑s.length : Int) < (2 : Int)) then some true else bif decide ((1 : Int) < (↑s.length : Int)) then bif decide ((↑(s.getD 1 (0 : UInt8)).toNat : Int) < (utf8Acc.getD (Int.fdiv (utf8First.getD (s.getD 0 (0 : UInt8)).toNat (0 : Int)) (16 : Int)).toNat ((Ty.int IntKind.u8).pair (Ty.int IntKind.u8)).zero).fst) then some true else bif decide ((1 : Int) < (↑s.length : Int)) then some (decide ((utf8Acc.getD (Int.fdiv (utf8First.getD (s.getD 0 (0 : UInt8)).toNat (0 : Int)) (16 : Int)).toNat ((Ty.int IntKind.u8).pair (Ty.int IntKind.u8)).zero).snd < (↑(s.getD 1 (0 : UInt8)).toNat : Int))) else none else none) fun v => bif v then K Ex.ret { slots := [(0, AV.str s), (2, AV.bool false)], objs := [], nx := 0 } else bif decide ((2 : Int) ≤ (↑s.length : Int)) then K Ex.normal { slots := [(0, AV.str (List.drop 2 s)), (2, AV.bool f)], objs := [], nx := 0 } else none else bif IntKind.i64.wrap (IntKind.u8.wrap (↑(BitVec.ofInt 8 (utf8First.getD (s.getD 0 (0 : UInt8)).toNat (0 : Int)) &&& BitVec.ofInt 8 (7 : Int)).toNat : Int)) == (3 : Int) then Option.bind (bif decide ((↑s.length : Int) < (3 : Int)) then some true else bif decide ((1 : Int) < (↑s.length : Int)) then bif decide ((↑(s.getD 1 (0 : UInt8)).toNat : Int) < (utf8Acc.getD (Int.fdiv (utf8First.getD (s.getD 0 (0 : UInt8)).toNat (0 : Int)) (16 : Int)).toNat ((Ty.int IntKind.u8).pair (Ty.int IntKind.u8)).zero).fst) then some true else bif decide ((1 : Int) < (↑s.length : Int)) then bif decide ((utf8Acc.getD (Int.fdiv (utf8First.getD (s.getD 0 (0 : UInt8)).toNat (0 : Int)) (16 : Int)).toNat ((Ty.int IntKind.u8).pair (Ty.int IntKind.u8)).zero).snd < (↑(s.getD 1 (0 : UInt8)).toNat : Int)) then some true else bif decide ((2 : Int) < (↑s.length : Int)) then bif decide ((↑(s.getD 2 (0 : UInt8)).toNat : Int) < (128 : Int)) then some true else bif decide ((2 : Int) < (↑s.length : Int)) then some (decide ((191 : Int) < (↑(s.getD 2 (0 : UInt8)).toNat : Int))) else none else none else none else none) fun v => bif v then K Ex.ret { slots := [(0, AV.str s), (2, AV.bool false)], objs := [], nx := 0 } else bif decide ((3 : Int) ≤ (↑s.length : Int)) then K Ex.normal { slots := [(0, AV.str (List.drop 3 s)), (2, AV.bool f)], objs := [], nx := 0 } else none else bif IntKind.i64.wrap (IntKind.u8.wrap (↑(BitVec.ofInt 8 (utf8First.getD (s.getD 0 (0 : UInt8)).toNat (0 : Int)) &&& BitVec.ofInt 8 (7 : Int)).toNat : Int)) == (4 : Int) then Option.bind (bif decide ((↑s.length : Int) < (4 : Int)) then some true else bif decide ((1 : Int) < (↑s.length : Int)) then bif decide ((↑(s.getD 1 (0 : UInt8)).toNat : Int) < (utf8Acc.getD (Int.fdiv (utf8First.getD (s.getD 0 (0 : UInt8)).toNat (0 : Int)) (16 : Int)).toNat ((Ty.int IntKind.u8).pair (Ty.int IntKind.u8)).zero).fst) then some true else bif decide ((1 : Int) < (↑s.length : Int)) then bif decide ((utf8Acc.getD (Int.fdiv (utf8First.getD (s.getD 0 (0 : UInt8)).toNat (0 : Int)) (16 : Int)).toNat ((Ty.int IntKind.u8).pair (Ty.int IntKind.u8)).zero).snd < (↑(s.getD 1 (0 : UInt8)).toNat : Int)) then some true else bif decide ((2 : Int) < (↑s.length : Int)) then bif decide ((↑(s.getD 2 (0 : UInt8)).toNat : Int) < (128 : Int)) then some true else bif decide ((2 : Int) < (↑s.length : Int)) then bif decide ((191 : Int) < (↑(s.getD 2 (0 : UInt8)).toNat : Int)) then some true else bif decide ((3 : Int) < (↑s.length : Int)) then bif decide ((↑(s.getD 3 (0 : UInt8)).toNat : Int) < (128 : Int)) then some true else bif decide ((3 : Int) < (↑s.length : Int)) then some (decide ((191 : Int) < (↑(s.getD 3 (0 : UInt8)).toNat : Int))) else none else none else none else none else none else none) fun v => bif v then K Ex.ret { slots := [(0, AV.str s), (2, AV.bool false)], objs := [], nx := 0 } else bif decide ((4 : Int) ≤ (↑s.length : Int)) then K Ex.normal { slots := [(0, AV.str (List.drop 4 s)), (2, AV.bool f)], objs := [], nx := 0 } else none else K Ex.ret { slots := [(0, AV.str s), (2, AV.bool false)], objs := [], nx := 0 } else none else none else none else K (Ex.exit 0) { slots := [(0, AV.str s), (2, AV.bool f)], objs := [], nx := 0 } := by kernel_rfl

def vsSt (s : List UInt8) (f : Bool) : St := ⟨[(0, .str s), (2, .bool f)], [], 0⟩
theorem vs1_end {R : Type} (f : Bool) (K : Ex → St → Option R) : roundK (env consW) H.unicode_utf8_ValidString 0 (LPof [(9, vs9LC)]) V.unicode_utf8_ValidString_1 L.unicode_utf8_ValidString_1 (vsSt [] f) K = K (.exit 0) (vsSt [] f) := by
  unfold vsSt
  rw [vs1_rd, cond_neg (by simp)]
theorem vs1_asc {R : Type} (s : List UInt8) (f : Bool) (hl : 1 ≤ s.length) (h : bt s 0 < 128) (K : Ex → St → Option R) : roundK (env consW) H.unicode_utf8_ValidString 0 (LPof [(9, vs9LC)]) V.unicode_utf8_ValidString_1 L.unicode_utf8_ValidString_1 (vsSt s f) K = K .normal (vsSt (adv (s.drop 1)) f) := by
  unfold bt at h
  unfold vsSt
  rw [vs1_rd, cond_pos (by omega), cond_pos (by omega), cond_pos (by omega), cond_pos (by omega)]
  unfold adv
  by_cases h8 : (s.drop 1).length > 8
  · have hd : decide ((s.drop 1).length > 8) = true := decide_eq_true h8
    rw [hd, cond_pos (by omega), cond_pos (by omega)]
    simp only [ofInt_toNat64, wrap_toNat, Option.bind_some, Bool.true_and]
    rw [show ((((w8 (s.drop 1)) &&& BitVec.ofInt 64 (9259542123273814144 : Int)).toNat : Int) == (0 : Int)) = low8 (s.drop 1) from rfl]
    cases low8 (s.drop 1)
    · rfl
    · simp only [cond_true]
      rw [cond_pos (by omega)]
      by_cases h16 : ((s.drop 1).drop 8).length > 16
      · have hd2 : decide (((s.drop 1).drop 8).length > 16) = true := decide_eq_true h16
        have h8' : 8 ≤ (((s.drop 1).drop 8).drop 8).length := by rw [List.length_drop]; omega
        rw [hd2, cond_pos (by omega), cond_pos (by omega), cond_pos (by omega), cond_pos h8']
        simp only [Option.bind_some, Bool.true_and]
        rw [show ((((w8 ((s.drop 1).drop 8) ||| w8 (((s.drop 1).drop 8).drop 8)) &&& BitVec.ofInt 64 (9259542123273814144 : Int)).toNat : Int) == (0 : Int)) = low16 ((s.drop 1).drop 8) from rfl]
        cases low16 ((s.drop 1).drop 8)
        · rfl
        · simp only [cond_true]
          rw [cond_pos (by omega)]
      · have hd2 : decide (((s.drop 1).drop 8).length > 16) = false := decide_eq_false h16
        rw [hd2, cond_neg (by omega)]
        rfl
  · have hd : decide ((s.drop 1).length > 8) = false := decide_eq_false h8
    rw [hd, cond_neg (by omega)]
    rfl

theorem vs1_head {R : Type} (s : List UInt8) (f : Bool) (hl : 1 ≤ s.length) (h : 128 ≤ bt s 0) {F q : Int} {lo hi : Int} (hF : utf8F (bt s 0) = F) (hq : Int.fdiv F 16 = q) (h0 : 0 ≤ q) (h1 : q < 16)
    (ha : utf8Acc.getD q.toNat (0, 0) = (lo, hi)) (K : Ex → St → Option R) (z : Int) (hz : IntKind.i64.wrap (IntKind.u8.wrap (↑(BitVec.ofInt 8 F &&& BitVec.ofInt 8 (7 : Int)).toNat : Int)) = z) :
    roundK (env consW) H.unicode_utf8_ValidString 0 (LPof [(9, vs9LC)]) V.unicode_utf8_ValidString_1 L.unicode_utf8_ValidString_1 (vsSt s f) K =
      bif z == (2 : Int) then (bif decide (2 ≤ s.length) && (decide (lo ≤ (bt s 1 : Int)) && decide ((bt s 1 : Int) ≤ hi)) then K .normal (vsSt (s.drop 2) f) else K .ret (vsSt s false))
      else bif z == (3 : Int) then (bif decide (3 ≤ s.length) && (decide (lo ≤ (bt s 1 : Int)) && decide ((bt s 1 : Int) ≤ hi)) && tailB (bt s 2) then K .normal (vsSt (s.drop 3) f) else K .ret (vsSt s false))
      else bif z == (4 : Int) then (bif decide (4 ≤ s.length) && (decide (lo ≤ (bt s 1 : Int)) && decide ((bt s 1 : Int) ≤ hi)) && tailB (bt s 2) && tailB (bt s 3) then K .normal (vsSt (s.drop 4) f) else K .ret (vsSt s false))
      else K .ret (vsSt s false) := by
  have hF' : utf8First.getD (s.getD 0 0).toNat (0 : Int) = F := (utf8First_get _ (bt_lt s 0)).trans hF
  have hb := bt_lt s 0
  unfold bt at h hb
  unfold vsSt
  have ha1 : (utf8Acc.getD q.toNat ((Ty.int IntKind.u8).pair (Ty.int IntKind.u8)).zero).fst = lo := congrArg Prod.fst ha
  have ha2 : (utf8Acc.getD q.toNat ((Ty.int IntKind.u8).pair (Ty.int IntKind.u8)).zero).snd = hi := congrArg Prod.snd ha
  rw [vs1_rd, cond_pos (by omega), cond_pos (by omega), cond_neg (by omega), cond_pos2 (by omega) (by omega)]
  simp only [hF', hq]
  rw [cond_pos2 h0 h1]
  simp only [ha1, ha2, hz]
  unfold tailB bt
  have t2 : decide (lo ≤ ((s.getD 1 0).toNat : Int)) = !decide (((s.getD 1 0).toNat : Int) < lo) := by rw [← decide_not]; exact decide_eq_decide.2 (by omega)
  have t3 : decide (((s.getD 1 0).toNat : Int) ≤ hi) = !decide (hi < ((s.getD 1 0).toNat : Int)) := by rw [← decide_not]; exact decide_eq_decide.2 (by omega)
  have u1 : ∀ k, decide (128 ≤ (s.getD k 0).toNat) = !decide (((s.getD k 0).toNat : Int) < 128) := fun k => by rw [← decide_not]; exact decide_eq_decide.2 (by omega)
  have u2 : ∀ k, decide ((s.getD k 0).toNat ≤ 191) = !decide ((191 : Int) < ((s.getD k 0).toNat : Int)) := fun k => by rw [← decide_not]; exact decide_eq_decide.2 (by omega)
  simp only [t2, t3, u1, u2]
  generalize decide (((s.getD 1 0).toNat : Int) < lo) = A
  generalize decide (hi < ((s.getD 1 0).toNat : Int)) = B
  generalize decide (((s.getD 2 0).toNat : Int) < 128) = C
  generalize decide ((191 : Int) < ((s.getD 2 0).toNat : Int)) = D
  generalize decide (((s.getD 3 0).toNat : Int) < 128) = X
  generalize decide ((191 : Int) < ((s.getD 3 0).toNat : Int)) = Y
  have lt2 : decide ((s.length : Int) < (2 : Int)) = !decide (2 ≤ s.length) := by rw [← decide_not]; exact decide_eq_decide.2 (by omega)
  have le2 : decide ((2 : Int) ≤ (s.length : Int)) = decide (2 ≤ s.length) := decide_eq_decide.2 (by omega)
  have ls2 : decide ((1 : Int) < (s.length : Int)) = decide (2 ≤ s.length) := decide_eq_decide.2 (by omega)
  have lt3 : decide ((s.length : Int) < (3 : Int)) = !decide (3 ≤ s.length) := by rw [← decide_not]; exact decide_eq_decide.2 (by omega)
  have le3 : decide ((3 : Int) ≤ (s.length : Int)) = decide (3 ≤ s.length) := decide_eq_decide.2 (by omega)
  have ls3 : decide ((2 : Int) < (s.length : Int)) = decide (3 ≤ s.length) := decide_eq_decide.2 (by omega)
  have lt4 : decide ((s.length : Int) < (4 : Int)) = !decide (4 ≤ s.length) := by rw [← decide_not]; exact decide_eq_decide.2 (by omega)
  have le4 : decide ((4 : Int) ≤ (s.length : Int)) = decide (4 ≤ s.length) := decide_eq_decide.2 (by omega)
  have ls4 : decide ((3 : Int) < (s.length : Int)) = decide (4 ≤ s.length) := decide_eq_decide.2 (by omega)
  simp only [lt2, lt3, lt4, le2, le3, le4, ls2, ls3, ls4]
  cases z == (2 : Int)
  · cases z == (3 : Int)
    · cases z == (4 : Int)
      · rfl
      · by_cases hlen : 4 ≤ s.length
        · have w1 : decide (2 ≤ s.length) = true := decide_eq_true (by omega)
          have w2 : decide (3 ≤ s.length) = true := decide_eq_true (by omega)
          have w3 : decide (4 ≤ s.length) = true := decide_eq_true (by omega)
          simp only [w1, w2, w3]
          cases A <;> cases B <;> cases C <;> cases D <;> cases X <;> cases Y <;> rfl
        · have w3 : decide (4 ≤ s.length) = false := decide_eq_false hlen
          simp only [w3]
          rfl
    · by_cases hlen : 3 ≤ s.length
      · have w1 : decide (2 ≤ s.length) = true := decide_eq_true (by omega)
        have w2 : decide (3 ≤ s.length) = true := decide_eq_true (by omega)
        simp only [w1, w2]
        cases A <;> cases B <;> cases C <;> cases D <;> rfl
      · have w3 : decide (3 ≤ s.length) = false := decide_eq_false hlen
        simp only [w3]
        rfl
  · by_cases hlen : 2 ≤ s.length
    · have w1 : decide (2 ≤ s.length) = true := decide_eq_true (by omega)
      simp only [w1]
      cases A <;> cases B <;> rfl
    · have w3 : decide (2 ≤ s.length) = false := decide_eq_false hlen
      simp only [w3]
      rfl

/-- How a round ends. -/
def roundV (s : List UInt8) (f : Bool) (o : Option Nat) {R : Type} (K : Ex → St → Option R) : Option R := match o with
  | some w => K .normal (vsSt (s.drop w) f)
  | none => K .ret (vsSt s false)
theorem roundV_if {s : List UInt8} {f : Bool} {c c' : Bool} {w : Nat} (h : c = c') {R : Type} (K : Ex → St → Option R) : (bif c then K .normal (vsSt (s.drop w) f) else K .ret (vsSt s false)) = roundV s f (if c' = true then some w else none) K := by
  subst h
  cases c <;> rfl
theorem vs1_high {R : Type} (s : List UInt8) (f : Bool) (hl : 1 ≤ s.length) (h : 128 ≤ bt s 0) (K : Ex → St → Option R) :
    roundK (env consW) H.unicode_utf8_ValidString 0 (LPof [(9, vs9LC)]) V.unicode_utf8_ValidString_1 L.unicode_utf8_ValidString_1 (vsSt s f) K = roundV s f (good1 s) K := by
  have hb := bt_lt s 0
  unfold good1
  rw [if_neg (by omega)]
  by_cases h0 : bt s 0 < 194
  · have hF : utf8F (bt s 0) = 241 := by
        unfold utf8F
        repeat' split
        all_goals first | rfl | omega
    rw [vs1_head s f hl h hF (q := 15) rfl (by decide) (by decide) (lo := 0) (hi := 0) rfl K 1 (by decide)]
    rw [if_pos h0]
    rfl
  · skip
    by_cases h1 : bt s 0 < 224
    · have hF : utf8F (bt s 0) = 2 := by
          unfold utf8F
          repeat' split
          all_goals first | rfl | omega
      rw [vs1_head s f hl h hF (q := 0) rfl (by decide) (by decide) (lo := 128) (hi := 191) rfl K 2 (by decide)]
      rw [if_neg (by omega), if_pos h1]
      exact roundV_if (by unfold tailB; rw [Bool.eq_iff_iff]; simp only [Bool.and_eq_true, decide_eq_true_eq]; omega) K
    · skip
      by_cases h2 : bt s 0 = 224
      · have hF : utf8F (bt s 0) = 19 := by
            unfold utf8F
            repeat' split
            all_goals first | rfl | omega
        rw [vs1_head s f hl h hF (q := 1) rfl (by decide) (by decide) (lo := 160) (hi := 191) rfl K 3 (by decide)]
        rw [if_neg (by omega), if_neg (by omega), if_pos (by omega)]
        exact roundV_if (by unfold tailB; rw [Bool.eq_iff_iff]; simp only [Bool.and_eq_true, Bool.or_eq_true, decide_eq_true_eq]; omega) K
      · skip
        by_cases h3 : bt s 0 < 237
        · have hF : utf8F (bt s 0) = 3 := by
              unfold utf8F
              repeat' split
              all_goals first | rfl | omega
          rw [vs1_head s f hl h hF (q := 0) rfl (by decide) (by decide) (lo := 128) (hi := 191) rfl K 3 (by decide)]
          rw [if_neg (by omega), if_neg (by omega), if_pos (by omega)]
          exact roundV_if (by unfold tailB; rw [Bool.eq_iff_iff]; simp only [Bool.and_eq_true, Bool.or_eq_true, decide_eq_true_eq]; omega) K
        · skip
          by_cases h4 : bt s 0 = 237
          · have hF : utf8F (bt s 0) = 35 := by
                unfold utf8F
                repeat' split
                all_goals first | rfl | omega
            rw [vs1_head s f hl h hF (q := 2) rfl (by decide) (by decide) (lo := 128) (hi := 159) rfl K 3 (by decide)]
            rw [if_neg (by omega), if_neg (by omega), if_pos (by omega)]
            exact roundV_if (by unfold tailB; rw [Bool.eq_iff_iff]; simp only [Bool.and_eq_true, Bool.or_eq_true, decide_eq_true_eq]; omega) K
          · skip
            by_cases h5 : bt s 0 < 240
            · have hF : utf8F (bt s 0) = 3 := by
                  unfold utf8F
                  repeat' split
                  all_goals first | rfl | omega
              rw [vs1_head s f hl h hF (q := 0) rfl (by decide) (by decide) (lo := 128) (hi := 191) rfl K 3 (by decide)]
              rw [if_neg (by omega), if_neg (by omega), if_pos (by omega)]
              exact roundV_if (by unfold tailB; rw [Bool.eq_iff_iff]; simp only [Bool.and_eq_true, Bool.or_eq_true, decide_eq_true_eq]; omega) K
            · skip
              by_cases h6 : bt s 0 = 240
              · have hF : utf8F (bt s 0) = 52 := by
                    unfold utf8F
                    repeat' split
                    all_goals first | rfl | omega
                rw [vs1_head s f hl h hF (q := 3) rfl (by decide) (by decide) (lo := 144) (hi := 191) rfl K 4 (by decide)]
                rw [if_neg (by omega), if_neg (by omega), if_neg (by omega), if_pos (by omega)]
                exact roundV_if (by unfold tailB; rw [Bool.eq_iff_iff]; simp only [Bool.and_eq_true, Bool.or_eq_true, decide_eq_true_eq]; omega) K
              · skip
                by_cases h7 : bt s 0 < 244
                · have hF : utf8F (bt s 0) = 4 := by
                      unfold utf8F
                      repeat' split
                      all_goals first | rfl | omega
                  rw [vs1_head s f hl h hF (q := 0) rfl (by decide) (by decide) (lo := 128) (hi := 191) rfl K 4 (by decide)]
                  rw [if_neg (by omega), if_neg (by omega), if_neg (by omega), if_pos (by omega)]
                  exact roundV_if (by unfold tailB; rw [Bool.eq_iff_iff]; simp only [Bool.and_eq_true, Bool.or_eq_true, decide_eq_true_eq]; omega) K
                · skip
                  by_cases h8 : bt s 0 = 244
                  · have hF : utf8F (bt s 0) = 68 := by
                        unfold utf8F
                        repeat' split
                        all_goals first | rfl | omega
                    rw [vs1_head s f hl h hF (q := 4) rfl (by decide) (by decide) (lo := 128) (hi := 143) rfl K 4 (by decide)]
                    rw [if_neg (by omega), if_neg (by omega), if_neg (by omega), if_pos (by omega)]
                    exact roundV_if (by unfold tailB; rw [Bool.eq_iff_iff]; simp only [Bool.and_eq_true, Bool.or_eq_true, decide_eq_true_eq]; omega) K
                  · skip
                    have hF : utf8F (bt s 0) = 241 := by
                          unfold utf8F
                          repeat' split
                          all_goals first | rfl | omega
                    rw [vs1_head s f hl h hF (q := 15) rfl (by decide) (by decide) (lo := 0) (hi := 0) rfl K 1 (by decide)]
                    rw [if_neg (by omega), if_neg (by omega), if_neg (by omega), if_neg (by omega)]
                    rfl

theorem vs1_loop {R : Type} (f : Bool) (K : Ex → St → Option R) : ∀ (m : Nat) (s : List UInt8), s.length ≤ m →
    rounds (env consW) H.unicode_utf8_ValidString 0 (LPof [(9, vs9LC)]) V.unicode_utf8_ValidString_1 L.unicode_utf8_ValidString_1 (m + 1) (vsSt s f) K = bif okL s then K (.exit 0) (vsSt [] f) else K .ret (vsSt (endL s) false)
  | 0, s, h => by
    have : s = [] := List.length_eq_zero_iff.1 (by omega)
    subst this
    rw [rounds_succ', vs1_end]
    rfl
  | m + 1, s, h => by
    by_cases hs : s = []
    · subst hs
      rw [rounds_succ', vs1_end]
      rfl
    · have hl : 1 ≤ s.length := by cases s with | nil => exact absurd rfl hs | cons a b => simp
      by_cases hb : bt s 0 < 128
      · have hg : good1 s = some 1 := by unfold good1; rw [if_pos hb]
        obtain ⟨a1, a2⟩ := okL_some hs hg
        obtain ⟨b1, b2, b3⟩ := adv_ok (s.drop 1)
        rw [List.length_drop] at b3
        rw [rounds_succ', vs1_asc s f hl hb, a1, a2, ← b1, ← b2]
        exact vs1_loop f K m (adv (s.drop 1)) (by omega)
      · rw [rounds_succ', vs1_high s f hl (by omega)]
        cases hg : good1 s with
        | none =>
          obtain ⟨a1, a2⟩ := okL_none hs hg
          rw [a1, a2]
          rfl
        | some w =>
          obtain ⟨a1, a2⟩ := okL_some hs hg
          have hp := good1_pos hg
          rw [a1, a2]
          exact vs1_loop f K m (s.drop w) (by rw [List.length_drop]; omega)
def vs1Pat : SPat := ⟨[(0, .str), (2, .bool)], []⟩
def vs1LC : LoopC := LoopC.of vs1Pat (fun _ => true) fun x => [(okL x.1.1, .exit 0, vsSt [] x.1.2.1), (true, .ret, vsSt (endL x.1.1) false)]
theorem vs1_lok : LoopOK P0 H.unicode_utf8_ValidString 0 L.unicode_utf8_ValidString_1 vs1LC := loop_ok_of (env_ok consW_ok) glob0 mixed0 (loops_good (tab := [(9, vs9LC)]) (by kernel_rfl) (fun x hx => by simp at hx; subst hx; exact vs9_lok)) V.unicode_utf8_ValidString_1 (by decide) fun ⟨⟨s, f, _⟩, _⟩ h hw => by
  refine ⟨_, Eq.trans (vs1_loop f (fun e s => some (e, s)) (List.length s) s (Nat.le_refl _)) ?_⟩
  simp only [pick]
  cases okL s <;> rfl
theorem vs_ev (s : List UInt8) : evFn (env consW) H.unicode_utf8_ValidString (LPof [(1, vs1LC), (9, vs9LC)]) F.unicode_utf8_ValidString [.str s] [] (finK 0) = bif okL s then some (AV.bool true, []) else some (AV.bool false, []) := by kernel_rfl

def caseUtf : PCase := ⟨[.ty .str], [.bool], fun x => [(true, (okL x.1, ()))]⟩
theorem vs_val (s : List UInt8) : evFn (env consW) H.unicode_utf8_ValidString (LPof [(1, vs1LC), (9, vs9LC)]) F.unicode_utf8_ValidString [.str s] [] (finK 0) = some (.bool (okL s), []) := by
  rw [vs_ev]
  cases okL s <;> rfl
theorem vs_ok : caseUtf.ok P0 I.unicode_utf8_ValidString := case_ok (H := H.unicode_utf8_ValidString) (E := env consW) (env_ok consW_ok) glob0 mixed0 G.unicode_utf8_ValidString Bd.unicode_utf8_ValidString (by kernel_rfl) (loops_good (tab := [(1, vs1LC), (9, vs9LC)]) (by kernel_rfl) (fun x hx => by
    simp at hx
    rcases hx with rfl | rfl
    · exact vs1_lok
    · exact vs9_lok)) fun ⟨s, ()⟩ y h hw => by
  obtain rfl := pick_one h
  exact ⟨[], vs_val s⟩

noncomputable abbrev consX : List (FuncId × Con) := [(I.names_among, .pure (pureOf [caseAmong])), (I.names_may, .pure (pureOf [caseMay])), (I.unicode_utf8_ValidString, .pure (pureOf [caseUtf]))]
theorem consX_ok : ∀ x ∈ consX, HoldsC P0 x.1 x.2 := by
  intro x hx
  simp at hx
  rcases hx with rfl | rfl | rfl
  · exact ⟨pureOf_holds (by simp; exact among_ok), C.names_among⟩
  · exact ⟨pureOf_holds (by simp; exact may_ok), C.names_may⟩
  · exact ⟨pureOf_holds (by simp; exact vs_ok), C.unicode_utf8_ValidString⟩
theorem valid_rd {R : Type} (s t : List UInt8) (f : Bool) (n : Int) (pos : Nat) (K : Ex → St → Option R) : roundK (env consX) H.names_Valid 0 (LPof []) V.names_Valid_3 L.names_Valid_3 ⟨[(0, .str s), (2, .bool f), (3, .int .i64 n), (7, .it 0)], [(0, .siter t pos)], 1⟩ K = bif decide (pos < t.length) then Option.bind (bif !mayR (↑(Utf8.decode { data := t.toArray } pos).fst : Int) then some true else bif n == (0 : Int) then some (hasR [(45 : UInt8), (95 : UInt8), (46 : UInt8)] (↑(Utf8.decode { data := t.toArray } pos).fst : Int)) else some false) fun v => bif v then K Ex.ret { slots := [(0, AV.str s), (2, AV.bool false), (3, AV.int IntKind.i64 n), (7, AV.it 0)], objs := [(0, AObj.siter t (pos + (Utf8.decode { data := t.toArray } pos).snd))], nx := 1 } else K Ex.normal { slots := [(0, AV.str s), (2, AV.bool f), (3, AV.int IntKind.i64 (IntKind.i64.wrap (n + (1 : Int)))), (7, AV.it 0)], objs := [(0, AObj.siter t (pos + (Utf8.decode { data := t.toArray } pos).snd))], nx := 1 } else K (Ex.exit 0) { slots := [(0, AV.str s), (2, AV.bool f), (3, AV.int IntKind.i64 n), (7, AV.it 0)], objs := [(0, AObj.siter t pos)], nx := 1 } := by kernel_rfl

def validSt (s t : List UInt8) (f : Bool) (n : Int) (pos : Nat) : St := ⟨[(0, .str s), (2, .bool f), (3, .int .i64 n), (7, .it 0)], [(0, .siter t pos)], 1⟩
theorem bind_bad {R : Type} (c : Int) (n : Int) (k : Bool → Option R) : (bif !mayR c then some true else bif n == (0 : Int) then some (hasR [(45 : UInt8), (95 : UInt8), (46 : UInt8)] c) else some false).bind k = k (badR c (n == (0 : Int))) := by
  unfold badR signsL
  cases mayR c <;> cases n == (0 : Int) <;> rfl
theorem valid_loop (s t : List UInt8) (f : Bool) (ht : t.length ≤ 9223372036854775807) {R : Type} (K : Ex → St → Option R) : ∀ (m pos : Nat) (n : Int), t.length ≤ pos + m → pos ≤ t.length → 0 ≤ n → n ≤ pos →
    rounds (env consX) H.names_Valid 0 (LPof []) V.names_Valid_3 L.names_Valid_3 (m + 1) (validSt s t f n pos) K =
      match failF m (t.drop pos) (n == (0 : Int)) with
      | some (k, w) => K .ret (validSt s t false (n + (k : Nat)) (pos + w))
      | none => K (.exit 0) (validSt s t f (n + (cnt (t.drop pos) : Nat)) t.length)
  | 0, pos, n, h, hp, h0, h1 => by
    have : pos = t.length := by omega
    subst this
    rw [rounds_succ']
    unfold validSt
    rw [valid_rd, cond_neg (by omega)]
    simp [failF, cnt_nil]
  | m + 1, pos, n, h, hp, h0, h1 => by
    rw [rounds_succ']
    unfold validSt
    by_cases hlt : pos < t.length
    · have hne := drop_ne hlt
      have hw := dec1_pos (t.drop pos)
      have hle := dec1_le _ hne
      rw [List.length_drop] at hle
      have hem : (t.drop pos).isEmpty = false := by cases hd : t.drop pos with | nil => exact absurd hd hne | cons a b => rfl
      rw [valid_rd, cond_pos hlt, bind_bad, decode_dec1]
      simp only [failF, hem, cond_false]
      cases hb : badR (((dec1 (t.drop pos)).1 : Nat) : Int) (n == (0 : Int))
      · have ih := valid_loop s t f ht K m (pos + (dec1 (t.drop pos)).2) (n + 1) (by omega) (by omega) (by omega) (by omega)
        have hn1 : ((n + 1) == (0 : Int)) = false := by simp; omega
        rw [hn1] at ih
        simp only [cond_false]
        rw [List.drop_drop, wrap64 (by omega) (by omega), cnt_cons _ hne, List.drop_drop]
        refine Eq.trans ih ?_
        cases failF m (t.drop (pos + (dec1 (t.drop pos)).2)) false with
        | none =>
          simp only [Option.map_none, validSt]
          rw [show n + 1 + ((cnt (t.drop (pos + (dec1 (t.drop pos)).2)) : Nat) : Int) = n + ((cnt (t.drop (pos + (dec1 (t.drop pos)).2)) + 1 : Nat) : Int) by omega]
        | some p =>
          obtain ⟨k, w⟩ := p
          simp only [Option.map_some, validSt]
          rw [show n + 1 + ((k : Nat) : Int) = n + ((k + 1 : Nat) : Int) by omega, Nat.add_assoc]
      · simp only [cond_true]
        rw [show n + ((0 : Nat) : Int) = n by omega]
    · have : pos = t.length := by omega
      subst this
      rw [valid_rd, cond_neg (by omega)]
      simp [failF, cnt_nil]

def validPat : SPat := ⟨[(0, .str), (2, .bool), (3, .int .i64), (7, .lit (.it 0))], [.siter]⟩
def validLC : LoopC := LoopC.of validPat (fun x => decide (x.1.2.2.1 = (0 : Int)) && decide (x.2.1.2 = 0))
  fun x => [((failF (List.length x.2.1.1) x.2.1.1 true).isSome, .ret, validSt x.1.1 x.2.1.1 false ((((failF (List.length x.2.1.1) x.2.1.1 true).getD (0, 0)).1 : Nat) : Int) ((failF (List.length x.2.1.1) x.2.1.1 true).getD (0, 0)).2),
    (true, .exit 0, validSt x.1.1 x.2.1.1 x.1.2.1 ((cnt x.2.1.1 : Nat) : Int) (List.length x.2.1.1))]
theorem valid_all (s t : List UInt8) (f : Bool) (ht : t.length ≤ 9223372036854775807) : ∃ n, rounds (env consX) H.names_Valid 0 (LPof []) V.names_Valid_3 L.names_Valid_3 n (validSt s t f 0 0) (fun e s => some (e, s)) =
    pick [((failF t.length t true).isSome, Ex.ret, validSt s t false ((((failF t.length t true).getD (0, 0)).1 : Nat) : Int) ((failF t.length t true).getD (0, 0)).2), (true, .exit 0, validSt s t f ((cnt t : Nat) : Int) t.length)] := by
  have := valid_loop s t f ht (fun e s => some (e, s)) t.length 0 0 (by omega) (Nat.zero_le _) (Int.le_refl _) (Int.le_refl _)
  rw [List.drop_zero, Int.zero_add] at this
  refine ⟨_, Eq.trans this ?_⟩
  rw [show ((0 : Int) == 0) = true from rfl]
  simp only [pick]
  cases failF t.length t true with
  | none => rfl
  | some p =>
    obtain ⟨k, w⟩ := p
    simp only [Int.zero_add, Nat.zero_add]
    rfl
theorem valid_lok : LoopOK P0 H.names_Valid 0 L.names_Valid_3 validLC := loop_ok_of (env_ok consX_ok) glob0 mixed0 noLoops V.names_Valid_3 (by decide) fun ⟨⟨s, f, n, _, _⟩, ⟨t, pos⟩, _⟩ h hw => by
  simp only [Bool.and_eq_true, decide_eq_true_eq] at h
  obtain ⟨h1, h2⟩ := h
  subst h1; subst h2
  exact valid_all s t f hw.2.1
theorem valid_ev (s : List UInt8) : evFn (env consX) H.names_Valid (LPof [(3, validLC)]) F.names_Valid [.str s] [] (finK 0) = bif (failF s.length s true).isSome then some (AV.bool false, []) else Option.bind (bif decide ((↑(cnt s) : Int) > (0 : Int)) then bif decide ((↑(cnt s) : Int) ≤ (40 : Int)) then some (okL s) else some false else some false) fun v => some (AV.bool v, []) := by kernel_rfl

def caseValid : PCase := ⟨[.ty .str], [.bool], fun x => [(true, (validL x.1, ()))]⟩

theorem valid_val (s : List UInt8) : evFn (env consX) H.names_Valid (LPof [(3, validLC)]) F.names_Valid [.str s] [] (finK 0) = some (.bool (validL s), []) := by
  rw [valid_ev]
  unfold validL
  cases (failF s.length s true).isSome <;> cases decide ((cnt s : Int) > 0) <;> cases decide ((cnt s : Int) ≤ 40) <;> rfl
theorem valid_ok : caseValid.ok P0 I.names_Valid := case_ok (H := H.names_Valid) (E := env consX) (env_ok consX_ok) glob0 mixed0 G.names_Valid Bd.names_Valid (by kernel_rfl) (loops_good (tab := [(3, validLC)]) (by kernel_rfl) (fun x hx => by simp at hx; subst hx; exact valid_lok)) fun ⟨s, ()⟩ y h hw => by
  obtain rfl := pick_one h
  exact ⟨[], valid_val s⟩
end Go.Sim
namespace Go.Sim
set_option maxRecDepth 10000
theorem bt_cons_zero (a : UInt8) (l : List UInt8) : bt (a :: l) 0 = a.toNat := rfl
theorem findF_asc : ∀ (m : Nat) (l : List UInt8) (c : Int), l.length ≤ m → (∀ b ∈ l, b.toNat < 128) → (findF m l c).isSome = l.any fun b => ((b.toNat : Nat) : Int) == c
  | 0, l, c, h, _ => by
    have : l = [] := List.length_eq_zero_iff.1 (by omega)
    subst this
    rfl
  | m + 1, [], c, _, _ => rfl
  | m + 1, b :: l, c, h, hb => by
    have h0 := hb b (by simp)
    have hd : dec1 (b :: l) = (b.toNat, 1) := by unfold dec1; rw [if_pos (by rw [bt_cons_zero]; exact h0), bt_cons_zero]
    have ih := findF_asc m l c (by simpa using h) (fun x hx => hb x (List.mem_cons_of_mem _ hx))
    rw [findF, hd]
    simp only [List.isEmpty_cons, cond_false, List.any_cons, List.drop_succ_cons, List.drop_zero]
    cases hc : (((b.toNat : Nat) : Int) == c) with
    | true => rfl
    | false => simp only [cond_false, Option.isSome_map, ih, Bool.false_or]
theorem hasR_asc {l : List UInt8} (h : (l.all fun b => decide (b.toNat < 128)) = true) (c : Int) : hasR l c = l.any fun b => ((b.toNat : Nat) : Int) == c :=
  findF_asc _ l c (Nat.le_refl _) fun b hb => of_decide_eq_true (List.all_eq_true.1 h b hb)
theorem letters_has (c : Int) : hasR lettersL c = (decide (97 ≤ c) && decide (c ≤ 122) || decide (48 ≤ c) && decide (c ≤ 57)) := by
  rw [hasR_asc (by decide +kernel)]
  have h1 : ∀ b ∈ lettersL, (97 ≤ b.toNat ∧ b.toNat ≤ 122) ∨ (48 ≤ b.toNat ∧ b.toNat ≤ 57) := by decide +kernel
  have h2 : ∀ k : Nat, k < 26 → (lettersL.any fun b => b.toNat == 97 + k) = true := by decide +kernel
  have h3 : ∀ k : Nat, k < 10 → (lettersL.any fun b => b.toNat == 48 + k) = true := by decide +kernel
  apply Bool.eq_iff_iff.2
  simp only [List.any_eq_true, beq_iff_eq, Bool.or_eq_true, Bool.and_eq_true, decide_eq_true_eq] at h2 h3 ⊢
  constructor
  · rintro ⟨b, hb, rfl⟩
    have := h1 b hb
    omega
  · rintro (⟨a, b⟩ | ⟨a, b⟩)
    · obtain ⟨x, hx, e⟩ := h2 (c.toNat - 97) (by omega)
      exact ⟨x, hx, by omega⟩
    · obtain ⟨x, hx, e⟩ := h3 (c.toNat - 48) (by omega)
      exact ⟨x, hx, by omega⟩
theorem signs_has (c : Int) : hasR signsL c = (c == 45 || (c == 95 || c == 46)) := by
  rw [hasR_asc (by decide +kernel)]
  apply Bool.eq_iff_iff.2
  simp [signsL]
  omega
end Go.Sim
namespace Go.Sim
set_option maxRecDepth 10000
set_option linter.unusedSimpArgs false
set_option linter.unusedVariables false
def badB (x : Nat) : Bool := decide (x < 128) || decide (x > 191)
/-- Bytes behind the first one: all right?; the number; where. -/
def ctF (s : List UInt8) : Nat → Nat → Nat → Bool × Nat × Nat
  | 0, i, c => (true, c, i)
  | k + 1, i, c => bif badB (bt s i) then (false, c, i) else ctF s k (i + 1) (c * 64 + bt s i % 64)
theorem and_mask (x m : Nat) (M : Int) (hM : M = (m : Int)) (hx : x < 256) (hm : m = 7 ∨ m = 15 ∨ m = 31 ∨ m = 63) : ((BitVec.ofInt 64 (x : Int) &&& BitVec.ofInt 64 M).toNat : Int) = ((x % (m + 1) : Nat) : Int) := by
  subst hM
  have e1 : BitVec.ofInt 64 (x : Int) = BitVec.ofNat 64 x := by apply BitVec.eq_of_toNat_eq; simp
  have e2 : BitVec.ofInt 64 (m : Int) = BitVec.ofNat 64 m := by apply BitVec.eq_of_toNat_eq; simp
  rw [e1, e2, BitVec.toNat_and, BitVec.toNat_ofNat, BitVec.toNat_ofNat, Nat.mod_eq_of_lt (by omega), Nat.mod_eq_of_lt (by omega)]
  congr 1
  rcases hm with rfl | rfl | rfl | rfl
  · exact Nat.and_two_pow_sub_one_eq_mod x 3
  · exact Nat.and_two_pow_sub_one_eq_mod x 4
  · exact Nat.and_two_pow_sub_one_eq_mod x 5
  · exact Nat.and_two_pow_sub_one_eq_mod x 6
/-- The document's reader: rune, length, right? -/
def r1 (s : List UInt8) : Nat × Nat × Bool := match good1 s with
  | some w => ((dec1 s).1, w, true)
  | none => (0, 1, false)
/-- What right first bytes decode to. -/
theorem good_dec {s : List UInt8} {w : Nat} (h : good1 s = some w) : (dec1 s).2 = w := by
  unfold good1 tailB at h
  unfold dec1 contL
  have h0 := bt_lt s 0
  have h1 := bt_lt s 1
  have h2 := bt_lt s 2
  have h3 := bt_lt s 3
  split at h
  · rename_i a; cases h; rw [if_pos a]
  · split at h
    · cases h
    · split at h
      · split at h
        · rename_i a b c d
          cases h
          simp only [Bool.and_eq_true, decide_eq_true_eq] at d
          rw [if_neg (by omega), if_pos (by simp; omega), if_pos (by omega)]
        · cases h
      · split at h
        · split at h
          · rename_i a b c d e
            cases h
            simp only [Bool.and_eq_true, Bool.or_eq_true, decide_eq_true_eq] at e
            rw [if_neg (by omega), if_neg (by simp; omega), if_pos (by simp; omega), if_pos]
            simp only [Bool.and_eq_true, decide_eq_true_eq, Utf8.valid, Bool.or_eq_true]
            omega
          · cases h
        · split at h
          · split at h
            · rename_i a b c d e f
              cases h
              simp only [Bool.and_eq_true, Bool.or_eq_true, decide_eq_true_eq] at f
              rw [if_neg (by omega), if_neg (by simp; omega), if_neg (by simp; omega), if_pos (by simp; omega), if_pos]
              simp only [Bool.and_eq_true, decide_eq_true_eq, Utf8.valid, Bool.or_eq_true]
              omega
            · cases h
          · cases h
/-- .. and wrong ones. -/
theorem bad_dec {s : List UInt8} (h : good1 s = none) : dec1 s = (0xFFFD, 1) := by
  unfold good1 tailB at h
  unfold dec1 contL
  have h0 := bt_lt s 0
  have h1 := bt_lt s 1
  have h2 := bt_lt s 2
  have h3 := bt_lt s 3
  repeat' split at h
  all_goals first | (cases h; done) | skip
  all_goals
    repeat' split
  all_goals first
    | rfl
    | (exfalso
       simp only [Bool.and_eq_true, Bool.or_eq_true, decide_eq_true_eq, beq_iff_eq, Utf8.valid, Bool.and_eq_false_iff, Bool.or_eq_false_iff, decide_eq_false_iff_not, not_and, not_or] at *
       omega)
theorem ct1 (s : List UInt8) (c : Nat) : ctF s 1 1 c = bif badB (bt s 1) then (false, c, 1) else (true, c * 64 + bt s 1 % 64, 2) := rfl
theorem ct2 (s : List UInt8) (c : Nat) : ctF s 2 1 c = bif badB (bt s 1) then (false, c, 1) else bif badB (bt s 2) then (false, c * 64 + bt s 1 % 64, 2) else (true, (c * 64 + bt s 1 % 64) * 64 + bt s 2 % 64, 3) := rfl
theorem ct3 (s : List UInt8) (c : Nat) : ctF s 3 1 c = bif badB (bt s 1) then (false, c, 1) else bif badB (bt s 2) then (false, c * 64 + bt s 1 % 64, 2) else
    bif badB (bt s 3) then (false, (c * 64 + bt s 1 % 64) * 64 + bt s 2 % 64, 3) else (true, ((c * 64 + bt s 1 % 64) * 64 + bt s 2 % 64) * 64 + bt s 3 % 64, 4) := rfl
/-- May this number be a rune's, by the document? -/
def farB (c least : Nat) : Bool := decide (c < least) || decide (c > 1114111) || decide (c ≥ 55296) && decide (c ≤ 57343)
/-- What the document's reader tells of n bytes. -/
def tellR (s : List UInt8) (n k : Nat) (least : Nat) (c0 : Nat) : Nat × Nat × Bool :=
  bif decide (s.length < n) then (0, 1, false) else bif (ctF s k 1 c0).1 then (bif farB (ctF s k 1 c0).2.1 least then (0, 1, false) else ((ctF s k 1 c0).2.1, n, true)) else (0, 1, false)
def r1R (s : List UInt8) : Nat × Nat × Bool :=
  bif decide (bt s 0 < 128) then (bt s 0, 1, true) else bif decide (bt s 0 ≥ 194) && decide (bt s 0 < 224) then tellR s 2 1 128 (bt s 0 % 32) else bif decide (bt s 0 ≥ 224) && decide (bt s 0 < 240) then tellR s 3 2 2048 (bt s 0 % 16)
  else bif decide (bt s 0 ≥ 240) && decide (bt s 0 < 245) then tellR s 4 3 65536 (bt s 0 % 8) else (0, 1, false)
theorem badB_tail (x : Nat) : badB x = !tailB x := by
  unfold badB tailB
  by_cases h1 : x < 128 <;> by_cases h2 : x > 191 <;> simp [h1, h2] <;> omega
theorem r1_eq (s : List UInt8) : r1R s = r1 s := by
  unfold r1R r1
  have h0 := bt_lt s 0
  have h1 := bt_lt s 1
  have h2 := bt_lt s 2
  have h3 := bt_lt s 3
  by_cases a : bt s 0 < 128
  · simp only [a, decide_true, cond_true, good1, if_true, dec1]
  · by_cases b : bt s 0 < 194
    · have b2 : ¬ bt s 0 ≥ 194 := by omega
      have b3 : ¬ bt s 0 ≥ 224 := by omega
      have b4 : ¬ bt s 0 ≥ 240 := by omega
      simp only [a, b, b2, b3, b4, decide_false, Bool.false_and, cond_false, good1, if_false, if_true]
    · by_cases c : bt s 0 < 224
      · have c2 : bt s 0 ≥ 194 := by omega
        simp only [a, b, c, c2, decide_false, decide_true, Bool.true_and, cond_false, cond_true, tellR, ct1, badB_tail]
        have hg : good1 s = if decide (2 ≤ s.length) && tailB (bt s 1) then some 2 else none := by unfold good1; rw [if_neg a, if_neg b, if_pos c]
        rw [hg]
        by_cases l : s.length < 2
        · have l2 : ¬ 2 ≤ s.length := by omega
          simp [l, l2]
        · have l2 : 2 ≤ s.length := by omega
          cases t : tailB (bt s 1) with
          | false => simp [l, l2, t]
          | true =>
            have t' := t
            unfold tailB at t
            simp only [Bool.and_eq_true, decide_eq_true_eq] at t
            have f : farB (bt s 0 % 32 * 64 + bt s 1 % 64) 128 = false := by unfold farB; simp; omega
            have d : dec1 s = (bt s 0 % 32 * 64 + bt s 1 % 64, 2) := by unfold dec1 contL; rw [if_neg a, if_pos (by simp; omega), if_pos (by omega)]
            simp [l, l2, t', f, d]
      · by_cases d : bt s 0 < 240
        · have c2 : bt s 0 ≥ 194 := by omega
          have c3 : bt s 0 ≥ 224 := by omega
          simp only [a, b, c, d, c2, c3, decide_false, decide_true, Bool.true_and, Bool.and_false, cond_false, cond_true, tellR, ct2, badB_tail]
          have hg : good1 s = if decide (3 ≤ s.length) && tailB (bt s 1) && (decide (bt s 0 ≠ 224) || decide (160 ≤ bt s 1)) && (decide (bt s 0 ≠ 237) || decide (bt s 1 ≤ 159)) && tailB (bt s 2) then some 3 else none := by
            unfold good1; rw [if_neg a, if_neg b, if_neg c, if_pos d]
          by_cases l : s.length < 3
          · have l2 : ¬ 3 ≤ s.length := by omega
            simp [hg, l, l2]
          · have l2 : 3 ≤ s.length := by omega
            cases t : tailB (bt s 1) with
            | false => simp [hg, l, l2, t]
            | true =>
              cases u : tailB (bt s 2) with
              | false => simp [hg, l, l2, t, u]
              | true =>
                have t' := t
                have u' := u
                unfold tailB at t u
                simp only [Bool.and_eq_true, decide_eq_true_eq] at t u
                have f : farB ((bt s 0 % 16 * 64 + bt s 1 % 64) * 64 + bt s 2 % 64) 2048 = !((decide (bt s 0 ≠ 224) || decide (160 ≤ bt s 1)) && (decide (bt s 0 ≠ 237) || decide (bt s 1 ≤ 159))) := by
                  unfold farB
                  apply Bool.eq_iff_iff.2
                  simp only [Bool.or_eq_true, Bool.and_eq_true, decide_eq_true_eq, Bool.not_eq_true', Bool.and_eq_false_iff, Bool.or_eq_false_iff, decide_eq_false_iff_not]
                  omega
                cases g : ((decide (bt s 0 ≠ 224) || decide (160 ≤ bt s 1)) && (decide (bt s 0 ≠ 237) || decide (bt s 1 ≤ 159))) with
                | false =>
                  rw [g] at f
                  have : (decide (3 ≤ s.length) && true && (decide (bt s 0 ≠ 224) || decide (160 ≤ bt s 1)) && (decide (bt s 0 ≠ 237) || decide (bt s 1 ≤ 159)) && true) = false := by
                    rw [Bool.and_true, Bool.and_true, Bool.and_assoc, g, Bool.and_false]
                  have hg2 : good1 s = none := by rw [hg, t', u', this]; rfl
                  simp only [l, t', u', f, hg2, decide_false, Bool.not_true, cond_false, cond_true, Bool.not_false]
                | true =>
                  rw [g] at f
                  have : (decide (3 ≤ s.length) && true && (decide (bt s 0 ≠ 224) || decide (160 ≤ bt s 1)) && (decide (bt s 0 ≠ 237) || decide (bt s 1 ≤ 159)) && true) = true := by
                    rw [Bool.and_true, Bool.and_true, Bool.and_assoc, g]; simpa using l2
                  simp only [Bool.and_eq_true, Bool.or_eq_true, decide_eq_true_eq] at g
                  have e : dec1 s = ((bt s 0 % 16 * 64 + bt s 1 % 64) * 64 + bt s 2 % 64, 3) := by
                    unfold dec1 contL; rw [if_neg a, if_neg (by simp; omega), if_pos (by simp; omega), if_pos (by simp only [Bool.and_eq_true, decide_eq_true_eq, Utf8.valid, Bool.or_eq_true]; omega)]
                    exact Prod.ext (by simp only; omega) rfl
                  have hg2 : good1 s = some 3 := by rw [hg, t', u', this]; rfl
                  simp only [l, t', u', f, hg2, e, decide_false, Bool.not_true, cond_false, cond_true, Bool.not_false]
        · by_cases e : bt s 0 < 245
          · have c2 : bt s 0 ≥ 194 := by omega
            have c3 : bt s 0 ≥ 224 := by omega
            have c4 : bt s 0 ≥ 240 := by omega
            simp only [a, b, c, d, e, c2, c3, c4, decide_false, decide_true, Bool.true_and, Bool.and_false, cond_false, cond_true, tellR, ct3, badB_tail]
            have hg : good1 s = if decide (4 ≤ s.length) && tailB (bt s 1) && (decide (bt s 0 ≠ 240) || decide (144 ≤ bt s 1)) && (decide (bt s 0 ≠ 244) || decide (bt s 1 ≤ 143)) && tailB (bt s 2) && tailB (bt s 3) then some 4 else none := by
              unfold good1; rw [if_neg a, if_neg b, if_neg c, if_neg d, if_pos e]
            by_cases l : s.length < 4
            · have l2 : ¬ 4 ≤ s.length := by omega
              simp [hg, l, l2]
            · have l2 : 4 ≤ s.length := by omega
              cases t : tailB (bt s 1) with
              | false => simp [hg, l, l2, t]
              | true =>
                cases u : tailB (bt s 2) with
                | false => simp [hg, l, l2, t, u]
                | true =>
                  cases v : tailB (bt s 3) with
                  | false => simp [hg, l, l2, t, u, v]
                  | true =>
                    have t' := t
                    have u' := u
                    have v' := v
                    unfold tailB at t u v
                    simp only [Bool.and_eq_true, decide_eq_true_eq] at t u v
                    have f : farB (((bt s 0 % 8 * 64 + bt s 1 % 64) * 64 + bt s 2 % 64) * 64 + bt s 3 % 64) 65536 = !((decide (bt s 0 ≠ 240) || decide (144 ≤ bt s 1)) && (decide (bt s 0 ≠ 244) || decide (bt s 1 ≤ 143))) := by
                      unfold farB
                      apply Bool.eq_iff_iff.2
                      simp only [Bool.or_eq_true, Bool.and_eq_true, decide_eq_true_eq, Bool.not_eq_true', Bool.and_eq_false_iff, Bool.or_eq_false_iff, decide_eq_false_iff_not]
                      omega
                    cases g : ((decide (bt s 0 ≠ 240) || decide (144 ≤ bt s 1)) && (decide (bt s 0 ≠ 244) || decide (bt s 1 ≤ 143))) with
                    | false =>
                      rw [g] at f
                      have : (decide (4 ≤ s.length) && true && (decide (bt s 0 ≠ 240) || decide (144 ≤ bt s 1)) && (decide (bt s 0 ≠ 244) || decide (bt s 1 ≤ 143)) && true && true) = false := by
                        rw [Bool.and_true, Bool.and_true, Bool.and_true, Bool.and_assoc, g, Bool.and_false]
                      have hg2 : good1 s = none := by rw [hg, t', u', v', this]; rfl
                      simp only [l, t', u', v', f, hg2, decide_false, Bool.not_true, cond_false, cond_true, Bool.not_false]
                    | true =>
                      rw [g] at f
                      have : (decide (4 ≤ s.length) && true && (decide (bt s 0 ≠ 240) || decide (144 ≤ bt s 1)) && (decide (bt s 0 ≠ 244) || decide (bt s 1 ≤ 143)) && true && true) = true := by
                        rw [Bool.and_true, Bool.and_true, Bool.and_true, Bool.and_assoc, g]; simpa using l2
                      simp only [Bool.and_eq_true, Bool.or_eq_true, decide_eq_true_eq] at g
                      have e : dec1 s = (((bt s 0 % 8 * 64 + bt s 1 % 64) * 64 + bt s 2 % 64) * 64 + bt s 3 % 64, 4) := by
                        unfold dec1 contL; rw [if_neg a, if_neg (by simp; omega), if_neg (by simp; omega), if_pos (by simp; omega), if_pos (by simp only [Bool.and_eq_true, decide_eq_true_eq, Utf8.valid, Bool.or_eq_true]; omega)]
                        exact Prod.ext (by simp only; omega) rfl
                      have hg2 : good1 s = some 4 := by rw [hg, t', u', v', this]; rfl
                      simp only [l, t', u', v', f, hg2, e, decide_false, Bool.not_true, cond_false, cond_true, Bool.not_false]
          · have c2 : bt s 0 ≥ 194 := by omega
            have c3 : bt s 0 ≥ 224 := by omega
            have c4 : bt s 0 ≥ 240 := by omega
            simp only [a, b, c, d, e, c2, c3, c4, decide_false, decide_true, Bool.true_and, Bool.and_false, cond_false, good1, if_false]
theorem r1_w (s : List UInt8) : (r1 s).2.1 = (dec1 s).2 := by
  unfold r1
  cases h : good1 s with
  | none => rw [bad_dec h]
  | some w => exact (good_dec h).symm
def markR (c : Int) : Bool := c == 45 || (c == 95 || c == 46)
def smallR (c : Int) : Bool := decide (c ≥ 97) && decide (c ≤ 122) || decide (c ≥ 48) && decide (c ≤ 57)
def bigR (c : Int) : Bool := decide (c ≥ 161) && (decide (c ≤ 65535) && (c != 173 && c != 65279))
/-- Does the document bar this rune here? -/
def barR (x : Nat × Nat × Bool) (first : Bool) : Bool := !x.2.2 || (!smallR (x.1 : Int) && (!bigR (x.1 : Int) && (!markR (x.1 : Int) || first)))
def failR : Nat → List UInt8 → Bool → Option (Nat × Nat)
  | 0, _, _ => none
  | m + 1, l, first => bif l.isEmpty then none else bif barR (r1 l) first then some (0, 0) else (failR m (l.drop (dec1 l).2) false).map fun p => (p.1 + 1, (dec1 l).2 + p.2)
def validR (s : List UInt8) : Bool := !(failR s.length s true).isSome && (decide ((cnt s : Int) > 0) && decide ((cnt s : Int) ≤ 40))
theorem bar_bad (c : Nat) (w : Nat) (first : Bool) : barR (c, w, true) first = badR (c : Int) first := by
  unfold barR badR mayR smallR bigR markR
  rw [letters_has, signs_has]
  apply Bool.eq_iff_iff.2
  cases first
  · simp only [Bool.not_true, Bool.false_or, Bool.not_eq_true', Bool.or_eq_false_iff, Bool.and_eq_false_iff, Bool.or_eq_true, Bool.and_eq_true, decide_eq_true_eq, beq_iff_eq, bne_iff_ne, beq_eq_false_iff_ne, decide_eq_false_iff_not, bne_eq_false_iff_eq, Bool.false_and, Bool.or_false, ne_eq, Bool.not_eq_false', Bool.false_eq_true, or_false]
    omega
  · simp only [Bool.not_true, Bool.false_or, Bool.not_eq_true', Bool.or_eq_false_iff, Bool.and_eq_false_iff, Bool.or_eq_true, Bool.and_eq_true, decide_eq_true_eq, beq_iff_eq, bne_iff_ne, beq_eq_false_iff_ne, decide_eq_false_iff_not, bne_eq_false_iff_eq, Bool.true_and, Bool.or_true, and_true, ne_eq, or_true, Bool.not_eq_false']
    omega
theorem fail_both : ∀ (m : Nat) (l : List UInt8) (first : Bool), l.length ≤ m → (failR m l first).isSome = ((failF m l first).isSome || !okF m l)
  | 0, l, first, h => by
    have : l = [] := List.length_eq_zero_iff.1 (by omega)
    subst this
    rfl
  | m + 1, l, first, h => by
    by_cases hl : l = []
    · subst hl; rfl
    · have he : l.isEmpty = false := by cases l with | nil => exact absurd rfl hl | cons a b => rfl
      have hp := dec1_pos l
      have ih := fail_both m (l.drop (dec1 l).2) false (by have := dec1_le l hl; simp; omega)
      rw [failR, failF, okF, he]
      simp only [cond_false]
      cases hg : good1 l with
      | none =>
        have : barR (r1 l) first = true := by unfold r1; rw [hg]; rfl
        rw [this]
        simp
      | some w =>
        have e : r1 l = ((dec1 l).1, w, true) := by unfold r1; rw [hg]
        rw [e, bar_bad, ← good_dec hg]
        cases badR (((dec1 l).1 : Nat) : Int) first with
        | true => simp
        | false => simpa using ih
theorem valid_both (s : List UInt8) : validR s = validL s := by
  unfold validR validL
  rw [fail_both _ _ _ (Nat.le_refl _)]
  have : okF s.length s = okL s := rfl
  rw [this]
  cases (failF s.length s true).isSome <;> cases okL s <;> simp
end Go.Sim
namespace Go.Sim
set_option linter.unusedSimpArgs false
set_option linter.unusedVariables false
set_option maxRecDepth 10000
theorem rune1_rd {R : Type} (s : List UInt8) (x2 x3 n le c i : Int) (x4 : Bool) (K : Ex → St → Option R) : roundK (env []) H.cooperageref1_rune1 0 (LPof []) V.cooperageref1_rune1_23 L.cooperageref1_rune1_23 ⟨[(0, .str s), (2, .int .i64 x2), (3, .int .i64 x3), (4, .bool x4), (6, .int .i64 n), (7, .int .i64 le), (8, .int .i64 c), (9, .int .i64 i)], [], 0⟩ K = bif decide (i < n) then bif decide ((0 : Int) ≤ i) && decide (i < (↑s.length : Int)) then Option.bind (bif decide (IntKind.i64.wrap (↑(s.getD i.toNat (0 : UInt8)).toNat : Int) < (128 : Int)) then some true else some (decide (IntKind.i64.wrap (↑(s.getD i.toNat (0 : UInt8)).toNat : Int) > (191 : Int)))) fun v => bif v then K Ex.ret { slots := [(0, AV.str s), (2, AV.int IntKind.i64 (0 : Int)), (3, AV.int IntKind.i64 (1 : Int)), (4, AV.bool false), (6, AV.int IntKind.i64 n), (7, AV.int IntKind.i64 le), (8, AV.int IntKind.i64 c), (9, AV.int IntKind.i64 i)], objs := [], nx := 0 } else K Ex.normal { slots := [(0, AV.str s), (2, AV.int IntKind.i64 x2), (3, AV.int IntKind.i64 x3), (4, AV.bool x4), (6, AV.int IntKind.i64 n), (7, AV.int IntKind.i64 le), (8, AV.int IntKind.i64 (IntKind.i64.wrap (IntKind.i64.wrap (c * (64 : Int)) + IntKind.i64.wrap (↑(BitVec.ofInt 64 (IntKind.i64.wrap (↑(s.getD i.toNat (0 : UInt8)).toNat : Int)) &&& BitVec.ofInt 64 (63 : Int)).toNat : Int)))), (9, AV.int IntKind.i64 (IntKind.i64.wrap (i + (1 : Int))))], objs := [], nx := 0 } else none else K (Ex.exit 1) { slots := [(0, AV.str s), (2, AV.int IntKind.i64 x2), (3, AV.int IntKind.i64 x3), (4, AV.bool x4), (6, AV.int IntKind.i64 n), (7, AV.int IntKind.i64 le), (8, AV.int IntKind.i64 c), (9, AV.int IntKind.i64 i)], objs := [], nx := 0 } := by kernel_rfl

theorem getD_bt (s : List UInt8) (k : Nat) : (s.getD k 0).toNat = bt s k := rfl
theorem wrap_bt (s : List UInt8) (k : Nat) : IntKind.i64.wrap ((bt s k : Nat) : Int) = ((bt s k : Nat) : Int) := by
  have := bt_lt s k
  exact wrap64 (by omega) (by omega)
theorem bad_bif (x : Nat) : (bif decide (((x : Nat) : Int) < (128 : Int)) then some true else some (decide (((x : Nat) : Int) > (191 : Int)))) = some (badB x) := by
  unfold badB
  rw [show decide (((x : Nat) : Int) < (128 : Int)) = decide (x < 128) from decide_eq_decide.2 (by omega), show decide (((x : Nat) : Int) > (191 : Int)) = decide (x > 191) from decide_eq_decide.2 (by omega)]
  cases decide (x < 128) <;> rfl
def runeSt (s : List UInt8) (x2 x3 : Int) (x4 : Bool) (n le : Int) (c i : Nat) : St := ⟨[(0, .str s), (2, .int .i64 x2), (3, .int .i64 x3), (4, .bool x4), (6, .int .i64 n), (7, .int .i64 le), (8, .int .i64 c), (9, .int .i64 i)], [], 0⟩
theorem rune1_loop (s : List UInt8) (le : Int) (N : Nat) (hN : N ≤ s.length) {R : Type} (K : Ex → St → Option R) : ∀ (k i c B : Nat), i + k = N → N ≤ 4 → c < B → B * 64 ^ k ≤ 2 ^ 50 →
    rounds (env []) H.cooperageref1_rune1 0 (LPof []) V.cooperageref1_rune1_23 L.cooperageref1_rune1_23 (k + 1) (runeSt s 0 0 false N le c i) K =
      bif (ctF s k i c).1 then K (.exit 1) (runeSt s 0 0 false N le (ctF s k i c).2.1 (ctF s k i c).2.2) else K .ret (runeSt s 0 1 false N le (ctF s k i c).2.1 (ctF s k i c).2.2)
  | 0, i, c, B, h, _, _, _ => by
    have : i = N := by omega
    subst this
    rw [rounds_succ']
    unfold runeSt
    rw [rune1_rd, cond_neg (by omega)]
    rfl
  | k + 1, i, c, B, h, h4, hc, hB => by
    have h1 := bt_lt s i
    have hB1 : B ≤ 2 ^ 50 := Nat.le_trans (Nat.le_mul_of_pos_right _ (Nat.pow_pos (by decide))) hB
    have ih := rune1_loop s le N hN K k (i + 1) (c * 64 + bt s i % 64) (64 * B) (by omega) h4 (by omega) (by rw [Nat.pow_succ] at hB; rw [Nat.mul_comm 64 B, Nat.mul_assoc, Nat.mul_comm 64]; exact hB)
    rw [rounds_succ']
    unfold runeSt at ih ⊢
    rw [rune1_rd, cond_pos (by omega), cond_pos2 (by omega) (by omega), Int.toNat_natCast, getD_bt, wrap_bt, bad_bif, and_mask _ 63 63 rfl h1 (by simp), wrap64 (n := ((bt s i % (63 + 1) : Nat) : Int)) (by omega) (by omega),
      wrap64 (n := (c : Int) * 64) (by omega) (by omega), wrap64 (n := (c : Int) * 64 + ((bt s i % (63 + 1) : Nat) : Int)) (by omega) (by omega), wrap64 (n := (i : Int) + 1) (by omega) (by omega)]
    simp only [Option.bind_some, ctF]
    cases badB (bt s i) with
    | true => rfl
    | false =>
      simp only [cond_false]
      rw [← ih]
      congr 2
def runePat : SPat := ⟨[(0, .str), (2, .int .i64), (3, .int .i64), (4, .bool), (6, .int .i64), (7, .int .i64), (8, .int .i64), (9, .int .i64)], []⟩
def runeCt (s : List UInt8) (n c : Int) : Bool × Nat × Nat := ctF s (n.toNat - 1) 1 c.toNat
def runeLC : LoopC := LoopC.of runePat (fun ⟨⟨s, x2, x3, x4, n, le, c, i, _⟩, _⟩ => decide (x2 = (0 : Int)) && decide (x3 = (0 : Int)) && !x4 && decide (i = (1 : Int)) && decide ((0 : Int) ≤ c) && decide (c < (256 : Int)) && decide ((2 : Int) ≤ n) && decide (n ≤ (4 : Int)) && decide (n ≤ (List.length s : Int)))
  fun ⟨⟨s, x2, x3, x4, n, le, c, i, _⟩, _⟩ => [((runeCt s n c).1, .exit 1, runeSt s 0 0 false n le (runeCt s n c).2.1 (runeCt s n c).2.2), (true, .ret, runeSt s 0 1 false n le (runeCt s n c).2.1 (runeCt s n c).2.2)]
theorem rune1_all (s : List UInt8) (le n c : Int) (h1 : 0 ≤ c) (h2 : c < 256) (h3 : 2 ≤ n) (h4 : n ≤ 4) (h5 : n ≤ (s.length : Int)) : ∃ k, rounds (env []) H.cooperageref1_rune1 0 (LPof []) V.cooperageref1_rune1_23 L.cooperageref1_rune1_23 k
      ⟨[(0, .str s), (2, .int .i64 0), (3, .int .i64 0), (4, .bool false), (6, .int .i64 n), (7, .int .i64 le), (8, .int .i64 c), (9, .int .i64 1)], [], 0⟩ (fun e s => some (e, s)) =
    pick [((runeCt s n c).1, .exit 1, runeSt s 0 0 false n le (runeCt s n c).2.1 (runeCt s n c).2.2), (true, .ret, runeSt s 0 1 false n le (runeCt s n c).2.1 (runeCt s n c).2.2)] := by
  obtain ⟨N, rfl⟩ := Int.eq_ofNat_of_zero_le (show 0 ≤ n by omega)
  obtain ⟨C, rfl⟩ := Int.eq_ofNat_of_zero_le h1
  have hp : 256 * 64 ^ (N - 1) ≤ 2 ^ 50 := by
    rcases (show N = 2 ∨ N = 3 ∨ N = 4 by omega) with rfl | rfl | rfl <;> decide
  have := rune1_loop s le N (by omega) (fun e s => some (e, s)) (N - 1) 1 C 256 (by omega) (by omega) (by omega) hp
  refine ⟨_, this.trans ?_⟩
  unfold runeCt
  simp only [Int.toNat_natCast, pick]
  cases (ctF s (N - 1) 1 C).1 <;> rfl
theorem rune1_lok : LoopOK P0 H.cooperageref1_rune1 0 L.cooperageref1_rune1_23 runeLC := loop_ok_of (env_ok env_nil) glob0 mixed0 noLoops V.cooperageref1_rune1_23 (by decide) fun ⟨⟨s, x2, x3, x4, n, le, c, i, _⟩, _⟩ h hw => by
  simp only [Bool.and_eq_true, decide_eq_true_eq, Bool.not_eq_true'] at h
  obtain ⟨⟨⟨⟨⟨⟨⟨⟨h1, h2⟩, h3⟩, h4⟩, h5⟩, h6⟩, h7⟩, h8⟩, h9⟩ := h
  subst h1; subst h2; subst h3; subst h4
  exact rune1_all s le n c h5 h6 h7 h8 h9
theorem rune1_ev (s : List UInt8) : evFn (env []) H.cooperageref1_rune1 (LPof [(23, runeLC)]) F.cooperageref1_rune1 [.str s] [] (finK 0) = bif decide ((0 : Int) < (↑s.length : Int)) then bif decide (IntKind.i64.wrap (↑(s.getD 0 (0 : UInt8)).toNat : Int) < (128 : Int)) then some (AV.tup [AV.int IntKind.i64 (IntKind.i64.wrap (↑(s.getD 0 (0 : UInt8)).toNat : Int)), AV.int IntKind.i64 (1 : Int), AV.bool true], []) else Option.bind (bif decide (IntKind.i64.wrap (↑(s.getD 0 (0 : UInt8)).toNat : Int) ≥ (194 : Int)) then some (decide (IntKind.i64.wrap (↑(s.getD 0 (0 : UInt8)).toNat : Int) < (224 : Int))) else some false) fun v => bif v then bif decide ((↑s.length : Int) < (2 : Int)) then some (AV.tup [AV.int IntKind.i64 (0 : Int), AV.int IntKind.i64 (1 : Int), AV.bool false], []) else bif decide ((0 : Int) ≤ IntKind.i64.wrap (↑(BitVec.ofInt 64 (IntKind.i64.wrap (↑(s.getD 0 (0 : UInt8)).toNat : Int)) &&& BitVec.ofInt 64 (31 : Int)).toNat : Int)) && decide (IntKind.i64.wrap (↑(BitVec.ofInt 64 (IntKind.i64.wrap (↑(s.getD 0 (0 : UInt8)).toNat : Int)) &&& BitVec.ofInt 64 (31 : Int)).toNat : Int) < (256 : Int)) && true && true && decide ((2 : Int) ≤ (↑s.length : Int)) && (runeCt s (2 : Int) (IntKind.i64.wrap (↑(BitVec.ofInt 64 (IntKind.i64.wrap (↑(s.getD 0 (0 : UInt8)).toNat : Int)) &&& BitVec.ofInt 64 (31 : Int)).toNat : Int))).fst then Option.bind (bif decide ((↑(runeCt s (2 : Int) (IntKind.i64.wrap (↑(BitVec.ofInt 64 (IntKind.i64.wrap (↑(s.getD 0 (0 : UInt8)).toNat : Int)) &&& BitVec.ofInt 64 (31 : Int)).toNat : Int))).snd.fst : Int) < (128 : Int)) then some true else bif decide ((↑(runeCt s (2 : Int) (IntKind.i64.wrap (↑(BitVec.ofInt 64 (IntKind.i64.wrap (↑(s.getD 0 (0 : UInt8)).toNat : Int)) &&& BitVec.ofInt 64 (31 : Int)).toNat : Int))).snd.fst : Int) > (1114111 : Int)) then some true else bif decide ((↑(runeCt s (2 : Int) (IntKind.i64.wrap (↑(BitVec.ofInt 64 (IntKind.i64.wrap (↑(s.getD 0 (0 : UInt8)).toNat : Int)) &&& BitVec.ofInt 64 (31 : Int)).toNat : Int))).snd.fst : Int) ≥ (55296 : Int)) then some (decide ((↑(runeCt s (2 : Int) (IntKind.i64.wrap (↑(BitVec.ofInt 64 (IntKind.i64.wrap (↑(s.getD 0 (0 : UInt8)).toNat : Int)) &&& BitVec.ofInt 64 (31 : Int)).toNat : Int))).snd.fst : Int) ≤ (57343 : Int))) else some false) fun v => bif v then some (AV.tup [AV.int IntKind.i64 (0 : Int), AV.int IntKind.i64 (1 : Int), AV.bool false], []) else some (AV.tup [AV.int IntKind.i64 (↑(runeCt s (2 : Int) (IntKind.i64.wrap (↑(BitVec.ofInt 64 (IntKind.i64.wrap (↑(s.getD 0 (0 : UInt8)).toNat : Int)) &&& BitVec.ofInt 64 (31 : Int)).toNat : Int))).snd.fst : Int), AV.int IntKind.i64 (2 : Int), AV.bool true], []) else bif decide ((0 : Int) ≤ IntKind.i64.wrap (↑(BitVec.ofInt 64 (IntKind.i64.wrap (↑(s.getD 0 (0 : UInt8)).toNat : Int)) &&& BitVec.ofInt 64 (31 : Int)).toNat : Int)) && decide (IntKind.i64.wrap (↑(BitVec.ofInt 64 (IntKind.i64.wrap (↑(s.getD 0 (0 : UInt8)).toNat : Int)) &&& BitVec.ofInt 64 (31 : Int)).toNat : Int) < (256 : Int)) && true && true && decide ((2 : Int) ≤ (↑s.length : Int)) && true then some (AV.tup [AV.int IntKind.i64 (0 : Int), AV.int IntKind.i64 (1 : Int), AV.bool false], []) else none else Option.bind (bif decide (IntKind.i64.wrap (↑(s.getD 0 (0 : UInt8)).toNat : Int) ≥ (224 : Int)) then some (decide (IntKind.i64.wrap (↑(s.getD 0 (0 : UInt8)).toNat : Int) < (240 : Int))) else some false) fun v => bif v then bif decide ((↑s.length : Int) < (3 : Int)) then some (AV.tup [AV.int IntKind.i64 (0 : Int), AV.int IntKind.i64 (1 : Int), AV.bool false], []) else bif decide ((0 : Int) ≤ IntKind.i64.wrap (↑(BitVec.ofInt 64 (IntKind.i64.wrap (↑(s.getD 0 (0 : UInt8)).toNat : Int)) &&& BitVec.ofInt 64 (15 : Int)).toNat : Int)) && decide (IntKind.i64.wrap (↑(BitVec.ofInt 64 (IntKind.i64.wrap (↑(s.getD 0 (0 : UInt8)).toNat : Int)) &&& BitVec.ofInt 64 (15 : Int)).toNat : Int) < (256 : Int)) && true && true && decide ((3 : Int) ≤ (↑s.length : Int)) && (runeCt s (3 : Int) (IntKind.i64.wrap (↑(BitVec.ofInt 64 (IntKind.i64.wrap (↑(s.getD 0 (0 : UInt8)).toNat : Int)) &&& BitVec.ofInt 64 (15 : Int)).toNat : Int))).fst then Option.bind (bif decide ((↑(runeCt s (3 : Int) (IntKind.i64.wrap (↑(BitVec.ofInt 64 (IntKind.i64.wrap (↑(s.getD 0 (0 : UInt8)).toNat : Int)) &&& BitVec.ofInt 64 (15 : Int)).toNat : Int))).snd.fst : Int) < (2048 : Int)) then some true else bif decide ((↑(runeCt s (3 : Int) (IntKind.i64.wrap (↑(BitVec.ofInt 64 (IntKind.i64.wrap (↑(s.getD 0 (0 : UInt8)).toNat : Int)) &&& BitVec.ofInt 64 (15 : Int)).toNat : Int))).snd.fst : Int) > (1114111 : Int)) then some true else bif decide ((↑(runeCt s (3 : Int) (IntKind.i64.wrap (↑(BitVec.ofInt 64 (IntKind.i64.wrap (↑(s.getD 0 (0 : UInt8)).toNat : Int)) &&& BitVec.ofInt 64 (15 : Int)).toNat : Int))).snd.fst : Int) ≥ (55296 : Int)) then some (decide ((↑(runeCt s (3 : Int) (IntKind.i64.wrap (↑(BitVec.ofInt 64 (IntKind.i64.wrap (↑(s.getD 0 (0 : UInt8)).toNat : Int)) &&& BitVec.ofInt 64 (15 : Int)).toNat : Int))).snd.fst : Int) ≤ (57343 : Int))) else some false) fun v => bif v then some (AV.tup [AV.int IntKind.i64 (0 : Int), AV.int IntKind.i64 (1 : Int), AV.bool false], []) else some (AV.tup [AV.int IntKind.i64 (↑(runeCt s (3 : Int) (IntKind.i64.wrap (↑(BitVec.ofInt 64 (IntKind.i64.wrap (↑(s.getD 0 (0 : UInt8)).toNat : Int)) &&& BitVec.ofInt 64 (15 : Int)).toNat : Int))).snd.fst : Int), AV.int IntKind.i64 (3 : Int), AV.bool true], []) else bif decide ((0 : Int) ≤ IntKind.i64.wrap (↑(BitVec.ofInt 64 (IntKind.i64.wrap (↑(s.getD 0 (0 : UInt8)).toNat : Int)) &&& BitVec.ofInt 64 (15 : Int)).toNat : Int)) && decide (IntKind.i64.wrap (↑(BitVec.ofInt 64 (IntKind.i64.wrap (↑(s.getD 0 (0 : UInt8)).toNat : Int)) &&& BitVec.ofInt 64 (15 : Int)).toNat : Int) < (256 : Int)) && true && true && decide ((3 : Int) ≤ (↑s.length : Int)) && true then some (AV.tup [AV.int IntKind.i64 (0 : Int), AV.int IntKind.i64 (1 : Int), AV.bool false], []) else none else Option.bind (bif decide (IntKind.i64.wrap (↑(s.getD 0 (0 : UInt8)).toNat : Int) ≥ (240 : Int)) then some (decide (IntKind.i64.wrap (↑(s.getD 0 (0 : UInt8)).toNat : Int) < (245 : Int))) else some false) fun v => bif v then bif decide ((↑s.length : Int) < (4 : Int)) then some (AV.tup [AV.int IntKind.i64 (0 : Int), AV.int IntKind.i64 (1 : Int), AV.bool false], []) else bif decide ((0 : Int) ≤ IntKind.i64.wrap (↑(BitVec.ofInt 64 (IntKind.i64.wrap (↑(s.getD 0 (0 : UInt8)).toNat : Int)) &&& BitVec.ofInt 64 (7 : Int)).toNat : Int)) && decide (IntKind.i64.wrap (↑(BitVec.ofInt 64 (IntKind.i64.wrap (↑(s.getD 0 (0 : UInt8)).toNat : Int)) &&& BitVec.ofInt 64 (7 : Int)).toNat : Int) < (256 : Int)) && true && true && decide ((4 : Int) ≤ (↑s.length : Int)) && (runeCt s (4 : Int) (IntKind.i64.wrap (↑(BitVec.ofInt 64 (IntKind.i64.wrap (↑(s.getD 0 (0 : UInt8)).toNat : Int)) &&& BitVec.ofInt 64 (7 : Int)).toNat : Int))).fst then Option.bind (bif decide ((↑(runeCt s (4 : Int) (IntKind.i64.wrap (↑(BitVec.ofInt 64 (IntKind.i64.wrap (↑(s.getD 0 (0 : UInt8)).toNat : Int)) &&& BitVec.ofInt 64 (7 : Int)).toNat : Int))).snd.fst : Int) < (65536 : Int)) then some true else bif decide ((↑(runeCt s (4 : Int) (IntKind.i64.wrap (↑(BitVec.ofInt 64 (IntKind.i64.wrap (↑(s.getD 0 (0 : UInt8)).toNat : Int)) &&& BitVec.ofInt 64 (7 : Int)).toNat : Int))).snd.fst : Int) > (1114111 : Int)) then some true else bif decide ((↑(runeCt s (4 : Int) (IntKind.i64.wrap (↑(BitVec.ofInt 64 (IntKind.i64.wrap (↑(s.getD 0 (0 : UInt8)).toNat : Int)) &&& BitVec.ofInt 64 (7 : Int)).toNat : Int))).snd.fst : Int) ≥ (55296 : Int)) then some (decide ((↑(runeCt s (4 : Int) (IntKind.i64.wrap (↑(BitVec.ofInt 64 (IntKind.i64.wrap (↑(s.getD 0 (0 : UInt8)).toNat : Int)) &&& BitVec.ofInt 64 (7 : Int)).toNat : Int))).snd.fst : Int) ≤ (57343 : Int))) else some false) fun v => bif v then some (AV.tup [AV.int IntKind.i64 (0 : Int), AV.int IntKind.i64 (1 : Int), AV.bool false], []) else some (AV.tup [AV.int IntKind.i64 (↑(runeCt s (4 : Int) (IntKind.i64.wrap (↑(BitVec.ofInt 64 (IntKind.i64.wrap (↑(s.getD 0 (0 : UInt8)).toNat : Int)) &&& BitVec.ofInt 64 (7 : Int)).toNat : Int))).snd.fst : Int), AV.int IntKind.i64 (4 : Int), AV.bool true], []) else bif decide ((0 : Int) ≤ IntKind.i64.wrap (↑(BitVec.ofInt 64 (IntKind.i64.wrap (↑(s.getD 0 (0 : UInt8)).toNat : Int)) &&& BitVec.ofInt 64 (7 : Int)).toNat : Int)) && decide (IntKind.i64.wrap (↑(BitVec.ofInt 64 (IntKind.i64.wrap (↑(s.getD 0 (0 : UInt8)).toNat : Int)) &&& BitVec.ofInt 64 (7 : Int)).toNat : Int) < (256 : Int)) && true && true && decide ((4 : Int) ≤ (↑s.length : Int)) && true then some (AV.tup [AV.int IntKind.i64 (0 : Int), AV.int IntKind.i64 (1 : Int), AV.bool false], []) else none else some (AV.tup [AV.int IntKind.i64 (0 : Int), AV.int IntKind.i64 (1 : Int), AV.bool false], []) else none := by kernel_rfl

def r3 (x : Nat × Nat × Bool) : AV := .tup [.int .i64 (x.1 : Int), .int .i64 (x.2.1 : Int), .bool x.2.2]
theorem tell_bif (s : List UInt8) (N k : Nat) (n leI : Int) (least c0 : Nat) (hn : n = (N : Int)) (hk : N - 1 = k) (hl : leI = (least : Int)) (hc : c0 < 256) :
    (bif decide ((s.length : Int) < n) then some (AV.tup [AV.int IntKind.i64 (0 : Int), AV.int IntKind.i64 (1 : Int), AV.bool false], ([] : List AObj))
     else bif decide ((0 : Int) ≤ (c0 : Int)) && decide ((c0 : Int) < (256 : Int)) && true && true && decide (n ≤ (s.length : Int)) && (runeCt s n (c0 : Int)).fst then
       Option.bind (bif decide (((runeCt s n (c0 : Int)).snd.fst : Int) < leI) then some true else bif decide (((runeCt s n (c0 : Int)).snd.fst : Int) > (1114111 : Int)) then some true
         else some (decide (((runeCt s n (c0 : Int)).snd.fst : Int) ≥ (55296 : Int)) && decide (((runeCt s n (c0 : Int)).snd.fst : Int) ≤ (57343 : Int))))
         fun v => bif v then some (AV.tup [AV.int IntKind.i64 (0 : Int), AV.int IntKind.i64 (1 : Int), AV.bool false], []) else some (AV.tup [AV.int IntKind.i64 ((runeCt s n (c0 : Int)).snd.fst : Int), AV.int IntKind.i64 n, AV.bool true], [])
     else bif decide ((0 : Int) ≤ (c0 : Int)) && decide ((c0 : Int) < (256 : Int)) && true && true && decide (n ≤ (s.length : Int)) && true then some (AV.tup [AV.int IntKind.i64 (0 : Int), AV.int IntKind.i64 (1 : Int), AV.bool false], []) else none)
    = some (r3 (tellR s N k least c0), []) := by
  subst hn; subst hl
  unfold runeCt tellR
  rw [Int.toNat_natCast, Int.toNat_natCast, hk]
  by_cases l : s.length < N
  · rw [cond_pos (by omega), cond_pos l]; rfl
  · have e1 : (decide ((0 : Int) ≤ (c0 : Int)) && decide ((c0 : Int) < (256 : Int)) && true && true && decide ((N : Int) ≤ (s.length : Int))) = true := by simp; omega
    rw [cond_neg (by omega), cond_neg l, e1]
    cases hb : (ctF s k 1 c0).1 with
    | false => rfl
    | true =>
      simp only [Bool.and_self, cond_true]
      have e2 : (bif decide (((ctF s k 1 c0).2.1 : Int) < (least : Int)) then some true else bif decide (((ctF s k 1 c0).2.1 : Int) > (1114111 : Int)) then some true
         else some (decide (((ctF s k 1 c0).2.1 : Int) ≥ (55296 : Int)) && decide (((ctF s k 1 c0).2.1 : Int) ≤ (57343 : Int)))) = some (farB (ctF s k 1 c0).2.1 least) := by
        generalize (ctF s k 1 c0).2.1 = c
        unfold farB
        rw [show decide ((c : Int) < (least : Int)) = decide (c < least) from decide_eq_decide.2 (by omega), show decide ((c : Int) > (1114111 : Int)) = decide (c > 1114111) from decide_eq_decide.2 (by omega),
          show decide ((c : Int) ≥ (55296 : Int)) = decide (c ≥ 55296) from decide_eq_decide.2 (by omega), show decide ((c : Int) ≤ (57343 : Int)) = decide (c ≤ 57343) from decide_eq_decide.2 (by omega)]
        cases decide (c < least) <;> cases decide (c > 1114111) <;> cases decide (c ≥ 55296) <;> cases decide (c ≤ 57343) <;> rfl
      rw [e2]
      cases farB (ctF s k 1 c0).2.1 least <;> rfl
theorem rune1_val (s : List UInt8) (h : s ≠ []) : evFn (env []) H.cooperageref1_rune1 (LPof [(23, runeLC)]) F.cooperageref1_rune1 [.str s] [] (finK 0) = some (r3 (r1 s), []) := by
  have hx := bt_lt s 0
  have hl : 0 < s.length := List.length_pos_iff.2 h
  have m31 := and_mask (bt s 0) 31 31 rfl hx (by simp)
  have m15 := and_mask (bt s 0) 15 15 rfl hx (by simp)
  have m7 := and_mask (bt s 0) 7 7 rfl hx (by simp)
  have w31 : IntKind.i64.wrap ((bt s 0 % (31 + 1) : Nat) : Int) = ((bt s 0 % (31 + 1) : Nat) : Int) := wrap64 (by omega) (by omega)
  have w15 : IntKind.i64.wrap ((bt s 0 % (15 + 1) : Nat) : Int) = ((bt s 0 % (15 + 1) : Nat) : Int) := wrap64 (by omega) (by omega)
  have w7 : IntKind.i64.wrap ((bt s 0 % (7 + 1) : Nat) : Int) = ((bt s 0 % (7 + 1) : Nat) : Int) := wrap64 (by omega) (by omega)
  rw [rune1_ev, cond_pos (by omega)]
  simp only [getD_bt, wrap_bt, m31, m15, m7, w31, w15, w7, and_bif, Option.bind_some]
  rw [tell_bif s 2 1 2 128 128 _ rfl rfl rfl (by omega), tell_bif s 3 2 3 2048 2048 _ rfl rfl rfl (by omega), tell_bif s 4 3 4 65536 65536 _ rfl rfl rfl (by omega), ← r1_eq]
  unfold r1R
  rw [show decide (((bt s 0 : Nat) : Int) < (128 : Int)) = decide (bt s 0 < 128) from decide_eq_decide.2 (by omega), show decide (((bt s 0 : Nat) : Int) ≥ (194 : Int)) = decide (bt s 0 ≥ 194) from decide_eq_decide.2 (by omega),
    show decide (((bt s 0 : Nat) : Int) < (224 : Int)) = decide (bt s 0 < 224) from decide_eq_decide.2 (by omega), show decide (((bt s 0 : Nat) : Int) ≥ (224 : Int)) = decide (bt s 0 ≥ 224) from decide_eq_decide.2 (by omega),
    show decide (((bt s 0 : Nat) : Int) < (240 : Int)) = decide (bt s 0 < 240) from decide_eq_decide.2 (by omega), show decide (((bt s 0 : Nat) : Int) ≥ (240 : Int)) = decide (bt s 0 ≥ 240) from decide_eq_decide.2 (by omega),
    show decide (((bt s 0 : Nat) : Int) < (245 : Int)) = decide (bt s 0 < 245) from decide_eq_decide.2 (by omega)]
  cases decide (bt s 0 < 128) with
  | true => rfl
  | false =>
    simp only [cond_false]
    cases decide (bt s 0 ≥ 194) && decide (bt s 0 < 224) with
    | true => rfl
    | false =>
      simp only [cond_false]
      cases decide (bt s 0 ≥ 224) && decide (bt s 0 < 240) with
      | true => rfl
      | false =>
        simp only [cond_false]
        cases decide (bt s 0 ≥ 240) && decide (bt s 0 < 245) <;> rfl
def caseRune1 : PCase := ⟨[.ty .str], [.int .i64, .int .i64, .bool], fun x => [(!x.1.isEmpty, (((r1 x.1).1 : Int), (((r1 x.1).2.1 : Nat) : Int), (r1 x.1).2.2, ()))]⟩
theorem rune1_ok : caseRune1.ok P0 I.cooperageref1_rune1 := case_ok (H := H.cooperageref1_rune1) (E := env []) (env_ok env_nil) glob0 mixed0 G.cooperageref1_rune1 Bd.cooperageref1_rune1 (by kernel_rfl) (loops_good (tab := [(23, runeLC)]) (by kernel_rfl) (fun x hx => by simp at hx; subst hx; exact rune1_lok)) fun ⟨s, ()⟩ y h hw => by
  obtain ⟨hc, rfl⟩ := pick_pre h
  exact ⟨[], rune1_val s (by intro e; subst e; simp at hc)⟩
noncomputable abbrev consR : List (FuncId × Con) := [(I.cooperageref1_rune1, .pure (pureOf [caseRune1]))]
theorem consR_ok : ∀ x ∈ consR, HoldsC P0 x.1 x.2 := by
  intro x hx
  simp at hx
  subst hx
  exact ⟨pureOf_holds (by simp; exact rune1_ok), C.cooperageref1_rune1⟩
theorem rvalid_rd {R : Type} (s : List UInt8) (b : Bool) (n i : Int) (K : Ex → St → Option R) : roundK (env consR) H.cooperageref1_Valid 0 (LPof []) V.cooperageref1_Valid_3 L.cooperageref1_Valid_3 ⟨[(0, .str s), (2, .bool b), (3, .int .i64 n), (4, .int .i64 i)], [], 0⟩ K = bif decide (i < (↑s.length : Int)) then bif decide ((0 : Int) ≤ i) && decide (i ≤ (↑s.length : Int)) then bif !(List.drop i.toNat s).isEmpty then Option.bind (bif (↑(r1 (List.drop i.toNat s)).fst : Int) == (45 : Int) then some true else bif (↑(r1 (List.drop i.toNat s)).fst : Int) == (95 : Int) then some true else some ((↑(r1 (List.drop i.toNat s)).fst : Int) == (46 : Int))) fun v => Option.bind (bif decide ((↑(r1 (List.drop i.toNat s)).fst : Int) ≥ (97 : Int)) then bif decide ((↑(r1 (List.drop i.toNat s)).fst : Int) ≤ (122 : Int)) then some true else bif decide ((↑(r1 (List.drop i.toNat s)).fst : Int) ≥ (48 : Int)) then some (decide ((↑(r1 (List.drop i.toNat s)).fst : Int) ≤ (57 : Int))) else some false else bif decide ((↑(r1 (List.drop i.toNat s)).fst : Int) ≥ (48 : Int)) then some (decide ((↑(r1 (List.drop i.toNat s)).fst : Int) ≤ (57 : Int))) else some false) fun v_1 => Option.bind (bif decide ((↑(r1 (List.drop i.toNat s)).fst : Int) ≥ (161 : Int)) then bif decide ((↑(r1 (List.drop i.toNat s)).fst : Int) ≤ (65535 : Int)) then bif (↑(r1 (List.drop i.toNat s)).fst : Int) != (173 : Int) then some ((↑(r1 (List.drop i.toNat s)).fst : Int) != (65279 : Int)) else some false else some false else some false) fun v_2 => Option.bind (bif !(r1 (List.drop i.toNat s)).snd.snd then some true else bif v_1 then some false else bif v_2 then some false else bif v then some !decide (i > (0 : Int)) else some true) fun v => bif v then K Ex.ret { slots := [(0, AV.str s), (2, AV.bool false), (3, AV.int IntKind.i64 n), (4, AV.int IntKind.i64 i)], objs := [], nx := 0 } else K Ex.normal { slots := [(0, AV.str s), (2, AV.bool b), (3, AV.int IntKind.i64 (IntKind.i64.wrap (n + (1 : Int)))), (4, AV.int IntKind.i64 (IntKind.i64.wrap (i + (↑(r1 (List.drop i.toNat s)).snd.fst : Int))))], objs := [], nx := 0 } else none else none else K (Ex.exit 0) { slots := [(0, AV.str s), (2, AV.bool b), (3, AV.int IntKind.i64 n), (4, AV.int IntKind.i64 i)], objs := [], nx := 0 } := by kernel_rfl

theorem drop_em {s : List UInt8} {pos : Nat} (h : pos < s.length) : (!(s.drop pos).isEmpty) = true := by
  have := drop_ne h
  cases hd : s.drop pos with
  | nil => exact absurd hd this
  | cons a b => rfl
def rvSt (s : List UInt8) (b : Bool) (n i : Int) : St := ⟨[(0, .str s), (2, .bool b), (3, .int .i64 n), (4, .int .i64 i)], [], 0⟩
/-- One test of the document's. -/
theorem bar_eq (x : Nat × Nat × Bool) (i : Int) {Q : Type} (f : Bool → Option Q) :
    (Option.bind (bif (x.1 : Int) == (45 : Int) then some true else bif (x.1 : Int) == (95 : Int) then some true else some ((x.1 : Int) == (46 : Int))) fun v =>
      Option.bind (bif decide ((x.1 : Int) ≥ (97 : Int)) then bif decide ((x.1 : Int) ≤ (122 : Int)) then some true else bif decide ((x.1 : Int) ≥ (48 : Int)) then some (decide ((x.1 : Int) ≤ (57 : Int))) else some false
        else bif decide ((x.1 : Int) ≥ (48 : Int)) then some (decide ((x.1 : Int) ≤ (57 : Int))) else some false) fun v_1 =>
        Option.bind (bif decide ((x.1 : Int) ≥ (161 : Int)) then bif decide ((x.1 : Int) ≤ (65535 : Int)) then bif (x.1 : Int) != (173 : Int) then some ((x.1 : Int) != (65279 : Int)) else some false else some false else some false) fun v_2 =>
          Option.bind (bif !x.2.2 then some true else bif v_1 then some false else bif v_2 then some false else bif v then some !decide (i > (0 : Int)) else some true) f)
    = f (barR x (!decide (i > (0 : Int)))) := by
  unfold barR smallR bigR markR
  simp only [and_bif, or_bif, nand_bif, nor_bif, Option.bind_some]
  have e1 : (bif decide ((x.1 : Int) ≥ (97 : Int)) then bif decide ((x.1 : Int) ≤ (122 : Int)) then some true else some (decide ((x.1 : Int) ≥ (48 : Int)) && decide ((x.1 : Int) ≤ (57 : Int))) else some (decide ((x.1 : Int) ≥ (48 : Int)) && decide ((x.1 : Int) ≤ (57 : Int)))) =
      some (decide ((x.1 : Int) ≥ (97 : Int)) && decide ((x.1 : Int) ≤ (122 : Int)) || decide ((x.1 : Int) ≥ (48 : Int)) && decide ((x.1 : Int) ≤ (57 : Int))) := by
    cases decide ((x.1 : Int) ≥ (97 : Int)) <;> cases decide ((x.1 : Int) ≤ (122 : Int)) <;> rfl
  simp only [or_bif] at e1
  rw [e1]
  simp only [Option.bind_some]
theorem rvalid_loop (s : List UInt8) (hs : s.length ≤ 9223372036854775807) (b : Bool) {R : Type} (K : Ex → St → Option R) : ∀ (m pos n : Nat), s.length ≤ pos + m → pos ≤ s.length → n ≤ pos →
    rounds (env consR) H.cooperageref1_Valid 0 (LPof []) V.cooperageref1_Valid_3 L.cooperageref1_Valid_3 (m + 1) (rvSt s b n pos) K =
      match failR m (s.drop pos) (!decide ((pos : Int) > (0 : Int))) with
      | some p => K .ret (rvSt s false ((n + p.1 : Nat) : Int) ((pos + p.2 : Nat) : Int))
      | none => K (.exit 0) (rvSt s b ((n + cnt (s.drop pos) : Nat) : Int) s.length)
  | m, pos, n, h, hp, h1 => by
    rw [rounds_succ']
    unfold rvSt
    by_cases hlt : pos < s.length
    · have hw := dec1_pos (s.drop pos)
      have hle := dec1_le _ (drop_ne hlt)
      rw [List.length_drop] at hle
      obtain ⟨m, rfl⟩ : ∃ j, m = j + 1 := ⟨m - 1, by omega⟩
      have ih := rvalid_loop s hs b K m (pos + (dec1 (s.drop pos)).2) (n + 1) (by omega) (by omega) (by omega)
      have hem := drop_em hlt
      rw [rvalid_rd, cond_pos (by omega), cond_pos2 (by omega) (by omega), Int.toNat_natCast, hem, r1_w, wrap64 (by omega) (by omega), wrap64 (by omega) (by omega)]
      simp only [cond_true]
      rw [bar_eq]
      rw [Bool.not_eq_true'] at hem
      rw [failR, hem]
      simp only [cond_false]
      cases barR (r1 (s.drop pos)) (!decide ((pos : Int) > (0 : Int))) with
      | true => rfl
      | false =>
        simp only [cond_false]
        rw [show (!decide (((pos + (dec1 (s.drop pos)).2 : Nat) : Int) > (0 : Int))) = false by rw [decide_eq_true (by omega)]; rfl] at ih
        rw [List.drop_drop]
        refine Eq.trans ih ?_
        cases failR m (s.drop (pos + (dec1 (s.drop pos)).2)) false with
        | none =>
          simp only [Option.map_none]
          rw [cnt_cons _ (drop_ne hlt), List.drop_drop, show n + 1 + cnt (s.drop (pos + (dec1 (s.drop pos)).2)) = n + (cnt (s.drop (pos + (dec1 (s.drop pos)).2)) + 1) by omega]
          rfl
        | some p =>
          simp only [Option.map_some]
          rw [show n + 1 + p.1 = n + (p.1 + 1) by omega, Nat.add_assoc]
          rfl
    · have : pos = s.length := by omega
      subst this
      have e : failR m [] (!decide (((s.length : Nat) : Int) > (0 : Int))) = none := by cases m <;> rfl
      rw [rvalid_rd, cond_neg (by omega), List.drop_length, e]
      simp [cnt_nil]
def rvPat : SPat := ⟨[(0, .str), (2, .bool), (3, .int .i64), (4, .int .i64)], []⟩
def rvLC : LoopC := LoopC.of rvPat (fun ⟨⟨s, b, n, i, _⟩, _⟩ => decide (n = (0 : Int)) && decide (i = (0 : Int)))
  fun ⟨⟨s, b, n, i, _⟩, _⟩ => [((failR (List.length s) s true).isSome, .ret, rvSt s false ((failR (List.length s) s true).getD (0, 0)).1 ((failR (List.length s) s true).getD (0, 0)).2), (true, .exit 0, rvSt s b (cnt s : Nat) (List.length s))]
theorem rvalid_all (s : List UInt8) (b : Bool) (h1 : s.length ≤ 9223372036854775807) : ∃ k, rounds (env consR) H.cooperageref1_Valid 0 (LPof []) V.cooperageref1_Valid_3 L.cooperageref1_Valid_3 k ⟨[(0, .str s), (2, .bool b), (3, .int .i64 0), (4, .int .i64 0)], [], 0⟩ (fun e s => some (e, s)) =
    pick [((failR s.length s true).isSome, .ret, rvSt s false ((failR s.length s true).getD (0, 0)).1 ((failR s.length s true).getD (0, 0)).2), (true, .exit 0, rvSt s b (cnt s : Nat) s.length)] := by
  have := rvalid_loop s h1 b (fun e s => some (e, s)) s.length 0 0 (by omega) (Nat.zero_le _) (Nat.le_refl _)
  rw [List.drop_zero, show (!decide (((0 : Nat) : Int) > (0 : Int))) = true from rfl] at this
  refine ⟨_, this.trans ?_⟩
  cases failR s.length s true with
  | none => simp [pick]
  | some p => simp [pick]
theorem rvalid_lok : LoopOK P0 H.cooperageref1_Valid 0 L.cooperageref1_Valid_3 rvLC := loop_ok_of (env_ok consR_ok) glob0 mixed0 noLoops V.cooperageref1_Valid_3 (by decide) fun ⟨⟨s, b, n, i, _⟩, _⟩ h hw => by
  simp only [Bool.and_eq_true, decide_eq_true_eq] at h
  obtain ⟨h2, h3⟩ := h
  subst h2; subst h3
  exact rvalid_all s b hw.1.1
theorem rvalid_ev (s : List UInt8) : evFn (env consR) H.cooperageref1_Valid (LPof [(3, rvLC)]) F.cooperageref1_Valid [.str s] [] (finK 0) = bif (failR s.length s true).isSome then some (AV.bool false, []) else Option.bind (bif decide ((↑(cnt s) : Int) > (0 : Int)) then some (decide ((↑(cnt s) : Int) ≤ (40 : Int))) else some false) fun v => some (AV.bool v, []) := by kernel_rfl

def caseRValid : PCase := ⟨[.ty .str], [.bool], fun x => [(true, (validL x.1, ()))]⟩
theorem rvalid_val (s : List UInt8) : evFn (env consR) H.cooperageref1_Valid (LPof [(3, rvLC)]) F.cooperageref1_Valid [.str s] [] (finK 0) = some (.bool (validL s), []) := by
  rw [rvalid_ev, ← valid_both]
  unfold validR
  cases (failR s.length s true).isSome with
  | true => rfl
  | false =>
    cases decide (((cnt s : Nat) : Int) > 0) <;> rfl
theorem rvalid_ok : caseRValid.ok P0 I.cooperageref1_Valid := case_ok (H := H.cooperageref1_Valid) (E := env consR) (env_ok consR_ok) glob0 mixed0 G.cooperageref1_Valid Bd.cooperageref1_Valid (by kernel_rfl) (loops_good (tab := [(3, rvLC)]) (by kernel_rfl) (fun x hx => by simp at hx; subst hx; exact rvalid_lok)) fun ⟨s, ()⟩ y h hw => by
  obtain ⟨hc, rfl⟩ := pick_pre h
  exact ⟨[], rvalid_val s⟩
end Go.Sim
namespace Go.Sim.XS
set_option linter.unusedSimpArgs false
set_option linter.unusedVariables false
theorem within10_ev (n m : Int) : evFn (env []) H.cooperageref10_within (LPof []) F.cooperageref10_within [.int .i64 n, .int .i64 m] [] (finT [.bool]) = Option.bind (bif decide (n ≥ (0 : Int)) then some (decide (n ≤ m)) else some false) fun v => some (v, ()) := by kernel_rfl

def caseWithin10 : PCase := ⟨[.ty (.int .i64), .ty (.int .i64)], [.bool], fun x => (fun (n m : Int) => [(true, (withinB n 0 m, ()))]) x.1 x.2.1⟩
theorem within10_val (n m : Int) : evFn (env []) H.cooperageref10_within (LPof []) F.cooperageref10_within [.int .i64 n, .int .i64 m] [] (finT [.bool]) = some (withinB n 0 m, ()) := by
  rw [within10_ev]; simp only [and_bif, Option.bind_some, withinB]
theorem within10_ok : caseWithin10.ok P0 I.cooperageref10_within := case_ok2 (H := H.cooperageref10_within) (E := env []) (env_ok env_nil) glob0 mixed0 G.cooperageref10_within Bd.cooperageref10_within (by kernel_rfl) noLoops fun ⟨n, m, ()⟩ y h hw => by
  obtain ⟨hc, rfl⟩ := pick_pre h
  exact within10_val n m
theorem time10_ev (n : Int) : evFn (env []) H.cooperageref10_time (LPof []) F.cooperageref10_time [.int .i64 n] [] (finT [.bool]) = Option.bind (bif decide (n ≥ (-1099511627776 : Int)) then some (decide (n ≤ (1099511627776 : Int))) else some false) fun v => some (v, ()) := by kernel_rfl

def caseTime10 : PCase := ⟨[.ty (.int .i64)], [.bool], fun x => (fun (n : Int) => [(true, (withinB n (-1099511627776) 1099511627776, ()))]) x.1⟩
theorem time10_val (n : Int) : evFn (env []) H.cooperageref10_time (LPof []) F.cooperageref10_time [.int .i64 n] [] (finT [.bool]) = some (withinB n (-1099511627776) 1099511627776, ()) := by
  rw [time10_ev]; simp only [and_bif, Option.bind_some, withinB]
theorem time10_ok : caseTime10.ok P0 I.cooperageref10_time := case_ok2 (H := H.cooperageref10_time) (E := env []) (env_ok env_nil) glob0 mixed0 G.cooperageref10_time Bd.cooperageref10_time (by kernel_rfl) noLoops fun ⟨n, ()⟩ y h hw => by
  obtain ⟨hc, rfl⟩ := pick_pre h
  exact time10_val n
theorem plain_ev (c : cmdT.den) : evFn (env []) H.cooperageref10_plain (LPof []) F.cooperageref10_plain [valOf cmdT c] [] (finT [.bool]) = Option.bind (bif c.fst == (3 : Int) then some true else some (c.fst == (4 : Int))) fun v => Option.bind (bif c.fst == (2 : Int) then some true else bif c.fst == (3 : Int) then some true else bif c.fst == (8 : Int) then some true else some (c.fst == (11 : Int))) fun v_1 => Option.bind (bif c.fst == (5 : Int) then some true else bif c.fst == (8 : Int) then some true else some (c.fst == (9 : Int))) fun v_2 => Option.bind (bif !c.fst == (1 : Int) then bif c.snd.fst != (0 : Int) then some true else bif decide ((↑(List.length c.snd.snd.snd.fst) : Int) > (0 : Int)) then some true else bif !c.fst == (1 : Int) then bif !c.fst == (11 : Int) then bif c.snd.snd.fst != (0 : Int) then some true else bif !v then some !c.snd.snd.snd.snd.fst == [] else some false else bif !v then some !c.snd.snd.snd.snd.fst == [] else some false else bif !v then some !c.snd.snd.snd.snd.fst == [] else some false else bif !c.fst == (1 : Int) then bif !c.fst == (11 : Int) then bif c.snd.snd.fst != (0 : Int) then some true else bif !v then some !c.snd.snd.snd.snd.fst == [] else some false else bif !v then some !c.snd.snd.snd.snd.fst == [] else some false else bif !v then some !c.snd.snd.snd.snd.fst == [] else some false) fun v => bif v then some (false, ()) else Option.bind (bif !v_1 then bif c.snd.snd.snd.snd.snd.fst != (0 : Int) then some true else bif c.fst != (2 : Int) then bif !c.fst == (11 : Int) then bif c.snd.snd.snd.snd.snd.snd.fst != (0 : Int) then some true else bif !v_2 then bif c.snd.snd.snd.snd.snd.snd.snd.fst != (0 : Int) then some true else bif !c.fst == (11 : Int) then some (c.snd.snd.snd.snd.snd.snd.snd.snd.fst != (0 : Int)) else some false else bif !c.fst == (11 : Int) then some (c.snd.snd.snd.snd.snd.snd.snd.snd.fst != (0 : Int)) else some false else bif !v_2 then bif c.snd.snd.snd.snd.snd.snd.snd.fst != (0 : Int) then some true else bif !c.fst == (11 : Int) then some (c.snd.snd.snd.snd.snd.snd.snd.snd.fst != (0 : Int)) else some false else bif !c.fst == (11 : Int) then some (c.snd.snd.snd.snd.snd.snd.snd.snd.fst != (0 : Int)) else some false else bif !v_2 then bif c.snd.snd.snd.snd.snd.snd.snd.fst != (0 : Int) then some true else bif !c.fst == (11 : Int) then some (c.snd.snd.snd.snd.snd.snd.snd.snd.fst != (0 : Int)) else some false else bif !c.fst == (11 : Int) then some (c.snd.snd.snd.snd.snd.snd.snd.snd.fst != (0 : Int)) else some false else bif c.fst != (2 : Int) then bif !c.fst == (11 : Int) then bif c.snd.snd.snd.snd.snd.snd.fst != (0 : Int) then some true else bif !v_2 then bif c.snd.snd.snd.snd.snd.snd.snd.fst != (0 : Int) then some true else bif !c.fst == (11 : Int) then some (c.snd.snd.snd.snd.snd.snd.snd.snd.fst != (0 : Int)) else some false else bif !c.fst == (11 : Int) then some (c.snd.snd.snd.snd.snd.snd.snd.snd.fst != (0 : Int)) else some false else bif !v_2 then bif c.snd.snd.snd.snd.snd.snd.snd.fst != (0 : Int) then some true else bif !c.fst == (11 : Int) then some (c.snd.snd.snd.snd.snd.snd.snd.snd.fst != (0 : Int)) else some false else bif !c.fst == (11 : Int) then some (c.snd.snd.snd.snd.snd.snd.snd.snd.fst != (0 : Int)) else some false else bif !v_2 then bif c.snd.snd.snd.snd.snd.snd.snd.fst != (0 : Int) then some true else bif !c.fst == (11 : Int) then some (c.snd.snd.snd.snd.snd.snd.snd.snd.fst != (0 : Int)) else some false else bif !c.fst == (11 : Int) then some (c.snd.snd.snd.snd.snd.snd.snd.snd.fst != (0 : Int)) else some false) fun v => bif v then some (false, ()) else Option.bind (bif c.fst == (6 : Int) then some true else some (c.snd.snd.snd.snd.snd.snd.snd.snd.snd.fst == (0 : Int) && (c.snd.snd.snd.snd.snd.snd.snd.snd.snd.snd.fst == (0 : Int) && (c.snd.snd.snd.snd.snd.snd.snd.snd.snd.snd.snd.fst == (0 : Int) && (c.snd.snd.snd.snd.snd.snd.snd.snd.snd.snd.snd.snd == (0 : Int) && true))))) fun v => some (v, ()) := by kernel_rfl

def casePlain : PCase := ⟨[.ty cmdT], [.bool], fun x => (fun (c : Cmd) => [(true, (plainC c, ()))]) x.1⟩
theorem plain_val (c : Cmd) : evFn (env []) H.cooperageref10_plain (LPof []) F.cooperageref10_plain [valOf cmdT c] [] (finT [.bool]) = some (plainC c, ()) := by
  rw [plain_ev]; simp only [and_bif, or_bif, nand_bif, nor_bif, ors_bif, ors2_bif, rfu_bif, Option.bind_some]; rfl
theorem plain_ok : casePlain.ok P0 I.cooperageref10_plain := case_ok2 (H := H.cooperageref10_plain) (E := env []) (env_ok env_nil) glob0 mixed0 G.cooperageref10_plain Bd.cooperageref10_plain (by kernel_rfl) noLoops fun ⟨c, ()⟩ y h hw => by
  obtain ⟨hc, rfl⟩ := pick_pre h
  exact plain_val c
theorem right1_ev (r : recT.den) : evFn (env []) H.cooperageref1_Right (LPof []) F.cooperageref1_Right [valOf recT r] [] (finT [.bool]) = Option.bind (bif decide (r.fst ≥ (0 : Int)) then bif decide (r.fst ≤ (1125899906842624 : Int)) then bif decide (r.snd.fst ≥ (-1099511627776 : Int)) then bif decide (r.snd.fst ≤ (1099511627776 : Int)) then bif decide ((↑(List.length r.snd.snd.fst) : Int) ≥ (1 : Int)) then bif decide ((↑(List.length r.snd.snd.fst) : Int) ≤ (200 : Int)) then bif decide ((↑(List.length r.snd.snd.snd.fst) : Int) ≤ (2000 : Int)) then bif !r.snd.snd.snd.snd then some true else some (r.snd.snd.snd.fst == []) else some false else some false else some false else some false else some false else some false else some false) fun v => some (v, ()) := by kernel_rfl

def caseRight1 : PCase := ⟨[.ty recT], [.bool], fun x => (fun (r : Rec) => [(true, (recR r, ()))]) x.1⟩
theorem right1_val (r : Rec) : evFn (env []) H.cooperageref1_Right (LPof []) F.cooperageref1_Right [valOf recT r] [] (finT [.bool]) = some (recR r, ()) := by
  rw [right1_ev]; simp only [and_bif, or_bif, nand_bif, nor_bif, Option.bind_some]; rfl
theorem right1_ok : caseRight1.ok P0 I.cooperageref1_Right := case_ok2 (H := H.cooperageref1_Right) (E := env []) (env_ok env_nil) glob0 mixed0 G.cooperageref1_Right Bd.cooperageref1_Right (by kernel_rfl) noLoops fun ⟨r, ()⟩ y h hw => by
  obtain ⟨hc, rfl⟩ := pick_pre h
  exact right1_val r
theorem recright_ev (r : recT.den) : evFn (env []) H.record_Right (LPof []) F.record_Right [valOf recT r] [] (finT [.bool]) = Option.bind (bif decide (r.fst ≥ (0 : Int)) then bif decide (r.fst ≤ (1125899906842624 : Int)) then bif decide (r.snd.fst ≥ (-1099511627776 : Int)) then bif decide (r.snd.fst ≤ (1099511627776 : Int)) then bif !r.snd.snd.fst == [] then bif decide ((↑(List.length r.snd.snd.fst) : Int) ≤ (200 : Int)) then bif decide ((↑(List.length r.snd.snd.snd.fst) : Int) ≤ (2000 : Int)) then bif r.snd.snd.snd.snd then some !!r.snd.snd.snd.fst == [] else some true else some false else some false else some false else some false else some false else some false else some false) fun v => some (v, ()) := by kernel_rfl

def caseRecright : PCase := ⟨[.ty recT], [.bool], fun x => (fun (r : Rec) => [(true, (recR r, ()))]) x.1⟩
theorem recright_val (r : Rec) : evFn (env []) H.record_Right (LPof []) F.record_Right [valOf recT r] [] (finT [.bool]) = some (recR r, ()) := by
  rw [recright_ev]; simp only [and_bif, or_bif, nand_bif, nor_bif, Option.bind_some, Bool.not_not, recR_key r.2.2.1]; rfl
theorem recright_ok : caseRecright.ok P0 I.record_Right := case_ok2 (H := H.record_Right) (E := env []) (env_ok env_nil) glob0 mixed0 G.record_Right Bd.record_Right (by kernel_rfl) noLoops fun ⟨r, ()⟩ y h hw => by
  obtain ⟨hc, rfl⟩ := pick_pre h
  exact recright_val r
theorem within_ev (n m k : Int) : evFn (env []) H.command_within (LPof []) F.command_within [.int .i64 n, .int .i64 m, .int .i64 k] [] (finT [.bool]) = Option.bind (bif decide (n ≥ m) then some (decide (n ≤ k)) else some false) fun v => some (v, ()) := by kernel_rfl

def caseWithin : PCase := ⟨[.ty (.int .i64), .ty (.int .i64), .ty (.int .i64)], [.bool], fun x => (fun (n a b : Int) => [(true, (withinB n a b, ()))]) x.1 x.2.1 x.2.2.1⟩
theorem within_val (n a b : Int) : evFn (env []) H.command_within (LPof []) F.command_within [.int .i64 n, .int .i64 a, .int .i64 b] [] (finT [.bool]) = some (withinB n a b, ()) := by
  rw [within_ev]; simp only [and_bif, Option.bind_some, withinB]
theorem within_ok : caseWithin.ok P0 I.command_within := case_ok2 (H := H.command_within) (E := env []) (env_ok env_nil) glob0 mixed0 G.command_within Bd.command_within (by kernel_rfl) noLoops fun ⟨n, a, b, ()⟩ y h hw => by
  obtain ⟨hc, rfl⟩ := pick_pre h
  exact within_val n a b
theorem bare_ev (c : cmdT.den) : evFn (env []) H.command_bare (LPof []) F.command_bare [valOf cmdT c] [] (finT [cmdT, .bool]) = Option.bind (bif c.fst == (0 : Int) then some (c.fst == (0 : Int), ()) else bif c.fst == (7 : Int) then some (c.fst == (7 : Int), ()) else some (c.fst == (10 : Int), ())) fun v => bif v.fst then some ((c.fst, (0 : Int), (0 : Int), [], [], (0 : Int), (0 : Int), (0 : Int), (0 : Int), (0 : Int), (0 : Int), (0 : Int), (0 : Int)), true, ()) else bif c.fst == (1 : Int) then some ((c.fst, c.snd.fst, c.snd.snd.fst, c.snd.snd.snd.fst, [], (0 : Int), (0 : Int), (0 : Int), (0 : Int), (0 : Int), (0 : Int), (0 : Int), (0 : Int)), true, ()) else bif c.fst == (2 : Int) then some ((c.fst, (0 : Int), (0 : Int), [], [], c.snd.snd.snd.snd.snd.fst, c.snd.snd.snd.snd.snd.snd.fst, (0 : Int), (0 : Int), (0 : Int), (0 : Int), (0 : Int), (0 : Int)), true, ()) else bif c.fst == (3 : Int) then some ((c.fst, (0 : Int), (0 : Int), [], c.snd.snd.snd.snd.fst, c.snd.snd.snd.snd.snd.fst, (0 : Int), (0 : Int), (0 : Int), (0 : Int), (0 : Int), (0 : Int), (0 : Int)), true, ()) else bif c.fst == (4 : Int) then some ((c.fst, (0 : Int), (0 : Int), [], c.snd.snd.snd.snd.fst, (0 : Int), (0 : Int), (0 : Int), (0 : Int), (0 : Int), (0 : Int), (0 : Int), (0 : Int)), true, ()) else Option.bind (bif c.fst == (5 : Int) then some (c.fst == (5 : Int), ()) else some (c.fst == (9 : Int), ())) fun v => bif v.fst then some ((c.fst, (0 : Int), (0 : Int), [], [], (0 : Int), (0 : Int), c.snd.snd.snd.snd.snd.snd.snd.fst, (0 : Int), (0 : Int), (0 : Int), (0 : Int), (0 : Int)), true, ()) else bif c.fst == (6 : Int) then some ((c.fst, (0 : Int), (0 : Int), [], [], (0 : Int), (0 : Int), (0 : Int), (0 : Int), c.snd.snd.snd.snd.snd.snd.snd.snd.snd), true, ()) else bif c.fst == (8 : Int) then some ((c.fst, (0 : Int), (0 : Int), [], [], c.snd.snd.snd.snd.snd.fst, (0 : Int), c.snd.snd.snd.snd.snd.snd.snd.fst, (0 : Int), (0 : Int), (0 : Int), (0 : Int), (0 : Int)), true, ()) else bif c.fst == (11 : Int) then some ((c.fst, (0 : Int), c.snd.snd.fst, [], [], c.snd.snd.snd.snd.snd.fst, c.snd.snd.snd.snd.snd.snd.fst, (0 : Int), c.snd.snd.snd.snd.snd.snd.snd.snd.fst, (0 : Int), (0 : Int), (0 : Int), (0 : Int)), true, ()) else some ((c.fst, (0 : Int), (0 : Int), [], [], (0 : Int), (0 : Int), (0 : Int), (0 : Int), (0 : Int), (0 : Int), (0 : Int), (0 : Int)), false, ()) := by kernel_rfl

def caseBare : PCase := ⟨[.ty cmdT], [cmdT, .bool], fun x => (fun (c : Cmd) => [(true, ((bareC c).1, (bareC c).2, ()))]) x.1⟩
theorem bare_val (c : Cmd) : evFn (env []) H.command_bare (LPof []) F.command_bare [valOf cmdT c] [] (finT [cmdT, .bool]) = some ((bareC c).1, (bareC c).2, ()) := by
  rw [bare_ev]
  unfold bareC
  have e1 : (bif c.fst == (0 : Int) then some (c.fst == (0 : Int), ()) else bif c.fst == (7 : Int) then some (c.fst == (7 : Int), ()) else some (c.fst == (10 : Int), ())) = some (c.1 == 0 || (c.1 == 7 || c.1 == 10), ()) := by
    cases h0 : c.1 == 0 <;> cases h7 : c.1 == 7 <;> simp [h0, h7]
  have e2 : (bif c.fst == (5 : Int) then some (c.fst == (5 : Int), ()) else some (c.fst == (9 : Int), ())) = some (c.1 == 5 || c.1 == 9, ()) := by
    cases h0 : c.1 == 5 <;> simp [h0]
  rw [e1, e2]
  simp only [Option.bind_some]
  cases c.1 == 0 || (c.1 == 7 || c.1 == 10) with
  | true => rfl
  | false => cases c.1 == 1 with
    | true => rfl
    | false => cases c.1 == 2 with
      | true => rfl
      | false => cases c.1 == 3 with
        | true => rfl
        | false => cases c.1 == 4 with
          | true => rfl
          | false => cases c.1 == 5 || c.1 == 9 with
            | true => rfl
            | false => cases c.1 == 6 with
              | true => rfl
              | false => cases c.1 == 8 with
                | true => rfl
                | false => cases c.1 == 11 <;> rfl
theorem bare_ok : caseBare.ok P0 I.command_bare := case_ok2 (H := H.command_bare) (E := env []) (env_ok env_nil) glob0 mixed0 G.command_bare Bd.command_bare (by kernel_rfl) noLoops fun ⟨c, ()⟩ y h hw => by
  obtain ⟨hc, rfl⟩ := pick_pre h
  exact bare_val c

end Go.Sim.XS
namespace Go.Sim.XS
set_option linter.unusedSimpArgs false
set_option linter.unusedVariables false
noncomputable abbrev consA1 : List (FuncId × Con) := [(I.record_Right, .pure (pureOf [caseRecright]))]
theorem consA1_ok : ∀ x ∈ consA1, HoldsC P0 x.1 x.2 := by
  intro x hx
  simp at hx
  subst hx
  exact ⟨pureOf_holds (by simp; exact recright_ok), C.record_Right⟩
theorem rec1_ev (r : recT.den) : evFn (env consA1) H.command_records_1 (LPof []) F.command_records_1 [valOf recT r] [] (finT [.bool]) = Option.bind (bif r.fst != (0 : Int) then some true else some !recR r) fun v => some (v, ()) := by kernel_rfl

def caseRec1 : PCase := ⟨[.ty recT], [.bool], fun x => (fun (r : Rec) => [(true, ((r.1 != 0 || !recR r), ()))]) x.1⟩
theorem rec1_val (r : Rec) : evFn (env consA1) H.command_records_1 (LPof []) F.command_records_1 [valOf recT r] [] (finT [.bool]) = some ((r.1 != 0 || !recR r), ()) := by
  rw [rec1_ev]; simp only [or_bif, Option.bind_some]
theorem rec1_ok : caseRec1.ok P0 I.command_records_1 := case_ok2 (H := H.command_records_1) (E := env consA1) (env_ok consA1_ok) glob0 mixed0 G.command_records_1 Bd.command_records_1 (by kernel_rfl) noLoops fun ⟨r, ()⟩ y h hw => by
  obtain ⟨hc, rfl⟩ := pick_pre h
  exact rec1_val r
noncomputable abbrev consA2 : List (FuncId × Con) := [(I.command_records_1, .pure (pureOf [caseRec1]))]
theorem consA2_ok : ∀ x ∈ consA2, HoldsC P0 x.1 x.2 := by
  intro x hx
  simp at hx
  subst hx
  exact ⟨pureOf_holds (by simp; exact rec1_ok), C.command_records_1⟩
def difB (a b : List Rec) (i : Nat) : Bool := !(recEqB (a.getD i recTy.zero) (b.getD i recTy.zero))
theorem equal_rd {R : Type} (a b : List Rec) (f : Bool) (n i : Int) (K : Ex → St → Option R) : roundK (env []) H.slices_Equal_api_Record_api_Record 0 (LPof []) V.slices_Equal_api_Record_api_Record_4 L.slices_Equal_api_Record_api_Record_4 ⟨[(0, .vl recT a), (1, .vl recT b), (4, .bool f), (12, .int .i64 n), (13, .int .i64 i)], [], 0⟩ K = bif decide (i < n) then bif decide ((0 : Int) ≤ i) && decide (i < (↑a.length : Int)) then bif decide ((0 : Int) ≤ i) && decide (i < (↑b.length : Int)) then bif !((a.getD i.toNat recTy.zero).fst == (b.getD i.toNat recTy.zero).fst && ((a.getD i.toNat recTy.zero).snd.fst == (b.getD i.toNat recTy.zero).snd.fst && ((a.getD i.toNat recTy.zero).snd.snd.fst == (b.getD i.toNat recTy.zero).snd.snd.fst && ((a.getD i.toNat recTy.zero).snd.snd.snd.fst == (b.getD i.toNat recTy.zero).snd.snd.snd.fst && ((a.getD i.toNat recTy.zero).snd.snd.snd.snd == (b.getD i.toNat recTy.zero).snd.snd.snd.snd && true))))) then K Ex.ret { slots := [(0, AV.vl recTy a), (1, AV.vl recTy b), (4, AV.bool false), (12, AV.int IntKind.i64 n), (13, AV.int IntKind.i64 i)], objs := [], nx := 0 } else K Ex.normal { slots := [(0, AV.vl recTy a), (1, AV.vl recTy b), (4, AV.bool f), (12, AV.int IntKind.i64 n), (13, AV.int IntKind.i64 (IntKind.i64.wrap (i + (1 : Int))))], objs := [], nx := 0 } else none else none else K (Ex.exit 0) { slots := [(0, AV.vl recTy a), (1, AV.vl recTy b), (4, AV.bool f), (12, AV.int IntKind.i64 n), (13, AV.int IntKind.i64 i)], objs := [], nx := 0 } := by kernel_rfl

theorem index1_rd {R : Type} (a : List Rec) (f n i : Int) (K : Ex → St → Option R) : roundK (env consA2) H.slices_IndexFunc_api_Record_api_Record 0 (LPof []) V.slices_IndexFunc_api_Record_api_Record_2 L.slices_IndexFunc_api_Record_api_Record_2 ⟨[(0, .vl recT a), (1, .fn (.func I.command_records_1) [] []), (4, .int .i64 f), (7, .int .i64 n), (8, .int .i64 i)], [], 0⟩ K = bif decide (i < n) then bif decide ((0 : Int) ≤ i) && decide (i < (↑a.length : Int)) then bif (a.getD i.toNat recTy.zero).fst != (0 : Int) || !recR (a.getD i.toNat recTy.zero) then K Ex.ret { slots := [(0, AV.vl recTy a), (1, AV.fn (Fn.func 144) [] []), (4, AV.int IntKind.i64 i), (7, AV.int IntKind.i64 n), (8, AV.int IntKind.i64 i)], objs := [], nx := 0 } else K Ex.normal { slots := [(0, AV.vl recTy a), (1, AV.fn (Fn.func 144) [] []), (4, AV.int IntKind.i64 f), (7, AV.int IntKind.i64 n), (8, AV.int IntKind.i64 (IntKind.i64.wrap (i + (1 : Int))))], objs := [], nx := 0 } else none else K (Ex.exit 0) { slots := [(0, AV.vl recTy a), (1, AV.fn (Fn.func 144) [] []), (4, AV.int IntKind.i64 f), (7, AV.int IntKind.i64 n), (8, AV.int IntKind.i64 i)], objs := [], nx := 0 } := by kernel_rfl

def equalSt (a b : List Rec) (f : Bool) (n : Int) (i : Nat) : St := ⟨[(0, .vl recT a), (1, .vl recT b), (4, .bool f), (12, .int .i64 n), (13, .int .i64 i)], [], 0⟩
abbrev equalLC : LoopC := LoopC.of ⟨[(0, .vl recT), (1, .vl recT), (4, .bool), (12, .int .i64), (13, .int .i64)], []⟩ (fun x => decide (List.length x.1.2.1 = List.length x.1.1) && decide (x.1.2.2.2.1 = (List.length x.1.1 : Int)) && decide (x.1.2.2.2.2.1 = (0 : Int)))
    fun x => [((firstFrom (difB x.1.1 x.1.2.1) 0 (List.length x.1.1)).isSome, .ret, equalSt x.1.1 x.1.2.1 false (List.length x.1.1) ((firstFrom (difB x.1.1 x.1.2.1) 0 (List.length x.1.1)).getD 0)), (true, .exit 0, equalSt x.1.1 x.1.2.1 x.1.2.2.1 (List.length x.1.1) (List.length x.1.1))]
theorem equal_lok : LoopOK P0 H.slices_Equal_api_Record_api_Record 0 L.slices_Equal_api_Record_api_Record_4 equalLC :=
  loop_ok_of (env_ok env_nil) glob0 mixed0 noLoops V.slices_Equal_api_Record_api_Record_4 (by decide) fun ⟨⟨a, b, f, n, i, _⟩, _⟩ h hw => by
    simp only [Bool.and_eq_true, decide_eq_true_eq] at h
    obtain ⟨⟨h1, h3⟩, h2⟩ := h
    subst h2; subst h3
    have hm : List.length a ≤ maxL := hw.1.1.1
    unfold maxL at hm
    refine ⟨_, Eq.trans (search_rounds (S := equalSt a b f (List.length a)) (T := equalSt a b false (List.length a)) (p := difB a b) (n := List.length a) (e1 := .ret) (e2 := .exit 0) (s2 := equalSt a b f (List.length a) (List.length a)) (by simp) (by simp) (fun i hi K => ?_) (fun K => ?_) _ (List.length a) 0 (by omega)) search_pick⟩
    · unfold equalSt
      rw [equal_rd, cond_pos (by omega), cond_pos2 (by omega) (by omega), cond_pos2 (by omega) (by omega), Int.toNat_natCast, wrap64 (by omega) (by omega)]
      rfl
    · unfold equalSt
      rw [equal_rd, cond_neg (by omega)]
theorem equal_ev (a b : List Rec) : evFn (env []) H.slices_Equal_api_Record_api_Record (LPof [(4, equalLC)]) F.slices_Equal_api_Record_api_Record [.vl recT a, .vl recT b] [] (finT [.bool]) = bif (↑a.length : Int) != (↑b.length : Int) then some (false, ()) else bif decide (b.length = a.length) && decide ((↑a.length : Int) = (↑a.length : Int)) && true && (firstFrom (difB a b) 0 a.length).isSome then some (false, ()) else bif decide (b.length = a.length) && decide ((↑a.length : Int) = (↑a.length : Int)) && true && true then some (true, ()) else none := by kernel_rfl

def idx1St (a : List Rec) (f n : Int) (i : Nat) : St := ⟨[(0, .vl recT a), (1, .fn (.func I.command_records_1) [] []), (4, .int .i64 f), (7, .int .i64 n), (8, .int .i64 i)], [], 0⟩
abbrev idx1LC : LoopC := LoopC.of ⟨[(0, .vl recT), (1, .fn I.command_records_1 []), (4, .int .i64), (7, .int .i64), (8, .int .i64)], []⟩ (fun x => decide (x.1.2.2.2.1 = (List.length x.1.1 : Int)) && decide (x.1.2.2.2.2.1 = (0 : Int)))
    fun x => [((firstFrom (atR badR1 x.1.1) 0 (List.length x.1.1)).isSome, .ret, idx1St x.1.1 ((firstFrom (atR badR1 x.1.1) 0 (List.length x.1.1)).getD 0 : Nat) (List.length x.1.1) ((firstFrom (atR badR1 x.1.1) 0 (List.length x.1.1)).getD 0)), (true, .exit 0, idx1St x.1.1 x.1.2.2.1 (List.length x.1.1) (List.length x.1.1))]
theorem idx1_lok : LoopOK P0 H.slices_IndexFunc_api_Record_api_Record 0 L.slices_IndexFunc_api_Record_api_Record_2 idx1LC :=
  loop_ok_of (env_ok consA2_ok) glob0 mixed0 noLoops V.slices_IndexFunc_api_Record_api_Record_2 (by decide) fun ⟨⟨a, _, f, n, i, _⟩, _⟩ h hw => by
    simp only [Bool.and_eq_true, decide_eq_true_eq] at h
    obtain ⟨h3, h2⟩ := h
    subst h2; subst h3
    have hm : List.length a ≤ maxL := hw.1.1.1
    unfold maxL at hm
    refine ⟨_, Eq.trans (search_rounds (S := idx1St a f (List.length a)) (T := fun i => idx1St a i (List.length a) i) (p := atR badR1 a) (n := List.length a) (e1 := .ret) (e2 := .exit 0) (s2 := idx1St a f (List.length a) (List.length a)) (by simp) (by simp) (fun i hi K => ?_) (fun K => ?_) _ (List.length a) 0 (by omega)) search_pick⟩
    · unfold idx1St
      rw [index1_rd, cond_pos (by omega), cond_pos2 (by omega) (by omega), Int.toNat_natCast, wrap64 (by omega) (by omega)]
      rfl
    · unfold idx1St
      rw [index1_rd, cond_neg (by omega)]
theorem idx1_ev (a : List Rec) : evFn (env consA2) H.slices_IndexFunc_api_Record_api_Record (LPof [(2, idx1LC)]) F.slices_IndexFunc_api_Record_api_Record [.vl recT a, .fn (.func I.command_records_1) [] []] [] (finT [.int .i64]) = bif decide ((↑a.length : Int) = (↑a.length : Int)) && true && (firstFrom (atR badR1 a) 0 a.length).isSome then some ((↑((firstFrom (atR badR1 a) 0 a.length).getD 0) : Int), ()) else bif decide ((↑a.length : Int) = (↑a.length : Int)) && true && true then some ((-1 : Int), ()) else none := by kernel_rfl

def caseEqual : PCase := ⟨[.ty (.sl recT), .ty (.sl recT)], [.bool], fun x => (fun (a b : List Rec) => [(true, (decide (a = b), ()))]) x.1 x.2.1⟩
theorem equal_val (a b : List Rec) : evFn (env []) H.slices_Equal_api_Record_api_Record (LPof [(4, equalLC)]) F.slices_Equal_api_Record_api_Record [.vl recT a, .vl recT b] [] (finT [.bool]) = some (decide (a = b), ()) := by
  rw [equal_ev]
  by_cases h : b.length = a.length
  · have h1 : ((a.length : Int) != (b.length : Int)) = false := by simp; omega
    have := firstFrom_eq recEqB_eq recTy.zero h
    unfold difB
    rw [h1, this, decide_eq_true h]
    cases decide (a = b) <;> simp
  · have h1 : ((a.length : Int) != (b.length : Int)) = true := by simp; omega
    have h2 : a ≠ b := fun e => h (by rw [e])
    rw [h1, decide_eq_false h2]; rfl
theorem equal_ok : caseEqual.ok P0 I.slices_Equal_api_Record_api_Record := case_ok2 (H := H.slices_Equal_api_Record_api_Record) (E := env []) (env_ok env_nil) glob0 mixed0 G.slices_Equal_api_Record_api_Record Bd.slices_Equal_api_Record_api_Record (by kernel_rfl) (loops_good (tab := [(4, equalLC)]) (by kernel_rfl) (fun x hx => by simp at hx; subst hx; exact equal_lok)) fun ⟨a, b, ()⟩ y h hw => by
  obtain ⟨hc, rfl⟩ := pick_pre h
  exact equal_val a b
def caseIdx1 : PCase := ⟨[.ty (.sl recT), .fn I.command_records_1 []], [.int .i64], fun x => (fun (a : List Rec) (u : Unit) => [(true, ((((firstFrom (atR badR1 a) 0 (List.length a)).map fun j => (j : Int)).getD (-1)), ()))]) x.1 x.2.1⟩
theorem idx1_val (a : List Rec) (u : Unit) : evFn (env consA2) H.slices_IndexFunc_api_Record_api_Record (LPof [(2, idx1LC)]) F.slices_IndexFunc_api_Record_api_Record [.vl recT a, .fn (.func I.command_records_1) [] []] [] (finT [.int .i64]) = some ((((firstFrom (atR badR1 a) 0 (List.length a)).map fun j => (j : Int)).getD (-1)), ()) := by
  rw [idx1_ev]
  cases firstFrom (atR badR1 a) 0 a.length <;> simp
theorem idx1_ok : caseIdx1.ok P0 I.slices_IndexFunc_api_Record_api_Record := case_ok2 (H := H.slices_IndexFunc_api_Record_api_Record) (E := env consA2) (env_ok consA2_ok) glob0 mixed0 G.slices_IndexFunc_api_Record_api_Record Bd.slices_IndexFunc_api_Record_api_Record (by kernel_rfl) (loops_good (tab := [(2, idx1LC)]) (by kernel_rfl) (fun x hx => by simp at hx; subst hx; exact idx1_lok)) fun ⟨a, u, ()⟩ y h hw => by
  obtain ⟨hc, rfl⟩ := pick_pre h
  exact idx1_val a u
noncomputable abbrev consA3 : List (FuncId × Con) := [(I.slices_IndexFunc_api_Record_api_Record, .pure (pureOf [caseIdx1]))]
theorem consA3_ok : ∀ x ∈ consA3, HoldsC P0 x.1 x.2 := by
  intro x hx
  simp at hx
  subst hx
  exact ⟨pureOf_holds (by simp; exact idx1_ok), C.slices_IndexFunc_api_Record_api_Record⟩
theorem has1_ev (a : List Rec) : evFn (env consA3) H.slices_ContainsFunc_api_Record_api_Record (LPof []) F.slices_ContainsFunc_api_Record_api_Record [.vl recT a, .fn (.func I.command_records_1) [] []] [] (finT [.bool]) =
  some
    (decide
        ((Option.map (fun j => j) do
                let a ← firstFrom (atR badR1 a) 0 a.length
                pure (↑a : Int)).getD
            (-1 : Int) ≥
          (0 : Int)),
      ()) := by kernel_rfl

theorem idx_any (q : Rec → Bool) (a : List Rec) : decide ((((firstFrom (atR q a) 0 (List.length a)).map fun j => (j : Int)).getD (-1)) ≥ 0) = a.any q := by
  rw [← firstFrom_any0 (q := q) (d := recTy.zero) a]
  show _ = (firstFrom (atR q a) 0 a.length).isSome
  cases firstFrom (atR q a) 0 a.length with
  | none => rfl
  | some j => simp
def caseHas1 : PCase := ⟨[.ty (.sl recT), .fn I.command_records_1 []], [.bool], fun x => (fun (a : List Rec) (u : Unit) => [(true, (a.any badR1, ()))]) x.1 x.2.1⟩
theorem has1_val (a : List Rec) (u : Unit) : evFn (env consA3) H.slices_ContainsFunc_api_Record_api_Record (LPof []) F.slices_ContainsFunc_api_Record_api_Record [.vl recT a, .fn (.func I.command_records_1) [] []] [] (finT [.bool]) = some (a.any badR1, ()) := by
  rw [has1_ev, idx_any]
theorem has1_ok : caseHas1.ok P0 I.slices_ContainsFunc_api_Record_api_Record := case_ok2 (H := H.slices_ContainsFunc_api_Record_api_Record) (E := env consA3) (env_ok consA3_ok) glob0 mixed0 G.slices_ContainsFunc_api_Record_api_Record Bd.slices_ContainsFunc_api_Record_api_Record (by kernel_rfl) noLoops fun ⟨a, u, ()⟩ y h hw => by
  obtain ⟨hc, rfl⟩ := pick_pre h
  exact has1_val a u
end Go.Sim.XS
namespace Go.Sim.XS
set_option linter.unusedSimpArgs false
set_option linter.unusedVariables false
noncomputable abbrev consB1 : List (FuncId × Con) := [(I.command_within, .pure (pureOf [caseWithin])), (I.slices_ContainsFunc_api_Record_api_Record, .pure (pureOf [caseHas1])), (I.slices_Equal_api_Record_api_Record, .pure (pureOf [caseEqual]))]
theorem consB1_ok : ∀ x ∈ consB1, HoldsC P0 x.1 x.2 := by
  intro x hx
  simp at hx
  rcases hx with rfl | rfl | rfl
  · exact ⟨pureOf_holds (by simp; exact within_ok), C.command_within⟩
  · exact ⟨pureOf_holds (by simp; exact has1_ok), C.slices_ContainsFunc_api_Record_api_Record⟩
  · exact ⟨pureOf_holds (by simp; exact equal_ok), C.slices_Equal_api_Record_api_Record⟩
theorem records_ev (a : List Rec) : evFn (env consB1) H.command_records (LPof []) F.command_records [.vl recT a] [] (finT [.bool]) = Option.bind (bif withinB (↑a.length : Int) (1 : Int) (50 : Int) then some !a.any badR1 else some false) fun v => some (v, ()) := by kernel_rfl

theorem conf_ev (c : confT.den) : evFn (env consB1) H.command_conf (LPof []) F.command_conf [valOf confT c] [] (finT [.bool]) = Option.bind (bif withinB c.fst (1 : Int) (1000 : Int) then bif withinB c.snd.fst (0 : Int) (1099511627776 : Int) then bif withinB c.snd.snd.fst (0 : Int) (1099511627776 : Int) then some (withinB c.snd.snd.snd (0 : Int) (1099511627776 : Int)) else some false else some false else some false) fun v => some (v, ()) := by kernel_rfl

theorem csame_ev (a b : Cmd) : evFn (env consB1) H.command_Same (LPof []) F.command_Same [valOf cmdT a, valOf cmdT b] [] (finT [.bool]) = Option.bind (bif a.fst == b.fst then bif a.snd.fst == b.snd.fst then bif a.snd.snd.fst == b.snd.snd.fst then bif a.snd.snd.snd.snd.fst == b.snd.snd.snd.snd.fst then bif a.snd.snd.snd.snd.snd.fst == b.snd.snd.snd.snd.snd.fst then bif a.snd.snd.snd.snd.snd.snd.fst == b.snd.snd.snd.snd.snd.snd.fst then bif a.snd.snd.snd.snd.snd.snd.snd.fst == b.snd.snd.snd.snd.snd.snd.snd.fst then bif a.snd.snd.snd.snd.snd.snd.snd.snd.fst == b.snd.snd.snd.snd.snd.snd.snd.snd.fst then bif a.snd.snd.snd.snd.snd.snd.snd.snd.snd.fst == b.snd.snd.snd.snd.snd.snd.snd.snd.snd.fst && (a.snd.snd.snd.snd.snd.snd.snd.snd.snd.snd.fst == b.snd.snd.snd.snd.snd.snd.snd.snd.snd.snd.fst && (a.snd.snd.snd.snd.snd.snd.snd.snd.snd.snd.snd.fst == b.snd.snd.snd.snd.snd.snd.snd.snd.snd.snd.snd.fst && (a.snd.snd.snd.snd.snd.snd.snd.snd.snd.snd.snd.snd == b.snd.snd.snd.snd.snd.snd.snd.snd.snd.snd.snd.snd && true))) then some (decide (a.snd.snd.snd.fst = b.snd.snd.snd.fst)) else some false else some false else some false else some false else some false else some false else some false else some false else some false) fun v => some (v, ()) := by kernel_rfl

noncomputable abbrev consB2 : List (FuncId × Con) := [(I.cooperageref10_within, .pure (pureOf [caseWithin10])), (I.cooperageref10_time, .pure (pureOf [caseTime10])), (I.cooperageref10_plain, .pure (pureOf [casePlain])), (I.cooperageref1_Right, .pure (pureOf [caseRight1])), (I.cooperageref1_Valid, .pure (pureOf [caseRValid]))]
theorem consB2_ok : ∀ x ∈ consB2, HoldsC P0 x.1 x.2 := by
  intro x hx
  simp at hx
  rcases hx with rfl | rfl | rfl | rfl | rfl
  · exact ⟨pureOf_holds (by simp; exact within10_ok), C.cooperageref10_within⟩
  · exact ⟨pureOf_holds (by simp; exact time10_ok), C.cooperageref10_time⟩
  · exact ⟨pureOf_holds (by simp; exact plain_ok), C.cooperageref10_plain⟩
  · exact ⟨pureOf_holds (by simp; exact right1_ok), C.cooperageref1_Right⟩
  · exact ⟨pureOf_holds (by simp; exact rvalid_ok), C.cooperageref1_Valid⟩
def caseRecords : PCase := ⟨[.ty (.sl recT)], [.bool], fun x => (fun (a : List Rec) => [(true, (recsB a, ()))]) x.1⟩
theorem records_val (a : List Rec) : evFn (env consB1) H.command_records (LPof []) F.command_records [.vl recT a] [] (finT [.bool]) = some (recsB a, ()) := by
  rw [records_ev]; simp only [and_bif, Option.bind_some]; rfl
theorem records_ok : caseRecords.ok P0 I.command_records := case_ok2 (H := H.command_records) (E := env consB1) (env_ok consB1_ok) glob0 mixed0 G.command_records Bd.command_records (by kernel_rfl) noLoops fun ⟨a, ()⟩ y h hw => by
  obtain ⟨hc, rfl⟩ := pick_pre h
  exact records_val a
def caseConf : PCase := ⟨[.ty confT], [.bool], fun x => (fun (c : Cnf) => [(true, (confB c, ()))]) x.1⟩
theorem conf_val (c : Cnf) : evFn (env consB1) H.command_conf (LPof []) F.command_conf [valOf confT c] [] (finT [.bool]) = some (confB c, ()) := by
  rw [conf_ev]; simp only [and_bif, Option.bind_some]; rfl
theorem conf_ok : caseConf.ok P0 I.command_conf := case_ok2 (H := H.command_conf) (E := env consB1) (env_ok consB1_ok) glob0 mixed0 G.command_conf Bd.command_conf (by kernel_rfl) noLoops fun ⟨c, ()⟩ y h hw => by
  obtain ⟨hc, rfl⟩ := pick_pre h
  exact conf_val c
def caseCsame : PCase := ⟨[.ty cmdT, .ty cmdT], [.bool], fun x => (fun (a b : Cmd) => [(true, (decide (a = b), ()))]) x.1 x.2.1⟩
theorem csame_val (a b : Cmd) : evFn (env consB1) H.command_Same (LPof []) F.command_Same [valOf cmdT a, valOf cmdT b] [] (finT [.bool]) = some (decide (a = b), ()) := by
  rw [csame_ev]; simp only [and_bif, Option.bind_some]; rw [cmd_eq]
theorem csame_ok : caseCsame.ok P0 I.command_Same := case_ok2 (H := H.command_Same) (E := env consB1) (env_ok consB1_ok) glob0 mixed0 G.command_Same Bd.command_Same (by kernel_rfl) noLoops fun ⟨a, b, ()⟩ y h hw => by
  obtain ⟨hc, rfl⟩ := pick_pre h
  exact csame_val a b
noncomputable abbrev consB3 : List (FuncId × Con) := [(I.command_bare, .pure (pureOf [caseBare])), (I.command_within, .pure (pureOf [caseWithin])), (I.command_records, .pure (pureOf [caseRecords])), (I.command_conf, .pure (pureOf [caseConf])), (I.command_Same, .pure (pureOf [caseCsame])), (I.names_Valid, .pure (pureOf [caseValid]))]
theorem consB3_ok : ∀ x ∈ consB3, HoldsC P0 x.1 x.2 := by
  intro x hx
  simp at hx
  rcases hx with rfl | rfl | rfl | rfl | rfl | rfl
  · exact ⟨pureOf_holds (by simp; exact bare_ok), C.command_bare⟩
  · exact ⟨pureOf_holds (by simp; exact within_ok), C.command_within⟩
  · exact ⟨pureOf_holds (by simp; exact records_ok), C.command_records⟩
  · exact ⟨pureOf_holds (by simp; exact conf_ok), C.command_conf⟩
  · exact ⟨pureOf_holds (by simp; exact csame_ok), C.command_Same⟩
  · exact ⟨pureOf_holds (by simp; exact valid_ok), C.names_Valid⟩
theorem cright_ev (c : Cmd) : evFn (env consB3) H.command_Right (LPof []) F.command_Right [valOf cmdT c] [] (finT [.bool]) = Option.bind (bif !(bareC c).snd then some true else some !decide ((bareC c).fst = c)) fun v => bif v then some (false, ()) else bif c.fst == (1 : Int) then Option.bind (bif withinB c.snd.fst (0 : Int) (1099511627776 : Int) then bif withinB c.snd.snd.fst (0 : Int) (1099511627776 : Int) then bif decide (c.snd.fst > (0 : Int)) then some (recsB c.snd.snd.snd.fst) else bif c.snd.snd.fst == (0 : Int) then some (recsB c.snd.snd.snd.fst) else some false else some false else some false) fun v => some (v, ()) else bif c.fst == (2 : Int) then Option.bind (bif withinB c.snd.snd.snd.snd.snd.fst (0 : Int) (1125899906842624 : Int) then some (withinB c.snd.snd.snd.snd.snd.snd.fst (1 : Int) (100 : Int)) else some false) fun v => some (v, ()) else bif c.fst == (3 : Int) then Option.bind (bif withinB c.snd.snd.snd.snd.snd.fst (0 : Int) (1125899906842624 : Int) then some (validL c.snd.snd.snd.snd.fst) else some false) fun v => some (v, ()) else bif c.fst == (4 : Int) then some (validL c.snd.snd.snd.snd.fst, ()) else bif c.fst == (6 : Int) then some (confB c.snd.snd.snd.snd.snd.snd.snd.snd.snd, ()) else bif c.fst == (11 : Int) then Option.bind (bif withinB c.snd.snd.snd.snd.snd.fst (0 : Int) (1125899906842624 : Int) then bif withinB c.snd.snd.fst (0 : Int) (1099511627776 : Int) then some (withinB c.snd.snd.snd.snd.snd.snd.fst (0 : Int) (1099511627776 : Int)) else some false else some false) fun v => some (v, ()) else Option.bind (bif withinB c.snd.snd.snd.snd.snd.snd.snd.fst (-1099511627776 : Int) (1099511627776 : Int) then some (withinB c.snd.snd.snd.snd.snd.fst (0 : Int) (1125899906842624 : Int)) else some false) fun v => some (v, ()) := by kernel_rfl

def caseCright : PCase := ⟨[.ty cmdT], [.bool], fun x => (fun (c : Cmd) => [(true, (rightC c, ()))]) x.1⟩
theorem cright_val (c : Cmd) : evFn (env consB3) H.command_Right (LPof []) F.command_Right [valOf cmdT c] [] (finT [.bool]) = some (rightC c, ()) := by
  rw [cright_ev, ← prog_right]
  simp only [and_bif, or_bif, nand_bif, nor_bif, ors_bif, ors2_bif, oand_bif, selfor, someu_bif, Option.bind_some]
  unfold tailC
  cases (bareC c).2 <;> cases decide ((bareC c).1 = c) <;> rfl
theorem cright_ok : caseCright.ok P0 I.command_Right := case_ok2 (H := H.command_Right) (E := env consB3) (env_ok consB3_ok) glob0 mixed0 G.command_Right Bd.command_Right (by kernel_rfl) noLoops fun ⟨c, ()⟩ y h hw => by
  obtain ⟨hc, rfl⟩ := pick_pre h
  exact cright_val c
end Go.Sim.XS
