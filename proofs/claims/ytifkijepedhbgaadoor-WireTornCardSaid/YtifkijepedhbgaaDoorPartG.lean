/-
  WkF3: the walk of wire.piece. · WkF4: the walks of wire.entries and wire.Read. · WkF5: the walks of what tells right messages and like ones. · WkF6: right messages: the program's word and the document's. · WkF7: the walks of wire.Read and wire.Bytes. · WkF8: a message comes back from its bytes. · WkF9: the laws of chapter 19. · WkFA: the law WireTorn. · LdN: what the rows say of the tables of package utf8 holds of the tables of PlTab.
-/
import Derived.Test.YtifkijepedhbgaaDoorRows
import Derived.OpenShut
import Derived.MakeChecks
import Derived.FnData
import Derived.Test.YtifkijepedhbgaaDoorPartF
namespace Go.Sim
set_option linter.unusedSimpArgs false
set_option linter.unusedVariables false
set_option maxRecDepth 10000
abbrev entT : Ty := .pair (.int .i64) cmdT
abbrev msgT : Ty := .pair (.int .i64) (.pair (.int .i64) (.pair (.int .i64) (.pair (.int .i64) (.pair (.int .i64) (.pair (.int .i64) (.pair (.sl entT) (.pair (.int .i64) (.pair .bool (.pair (.int .i64) (.sl u8T))))))))))
abbrev Ent := Int × Cmd
abbrev Msg := Int × Int × Int × Int × Int × Int × List Ent × Int × Bool × Int × List Int
abbrev msgP : List Pat := [.int .i64, .int .i64, .int .i64, .int .i64, .int .i64, .int .i64, .vl entT, .int .i64, .bool, .int .i64, .vl u8T]
noncomputable abbrev consW1 : List (FuncId × Con) := [(I.command_Bytes, .pure (pureOf [caseBytes]))] ++ consV3
theorem consW1_ok : ∀ x ∈ consW1, HoldsC P0 x.1 x.2 := by
  intro x hx
  rcases List.mem_append.1 hx with hx | hx
  · simp at hx
    subst hx
    exact ⟨pureOf_holds (by simp; exact cbytes_ok), C.command_Bytes⟩
  · exact consV3_ok x hx
theorem wput_rd {R : Type} (p : patsDen msgP) (b : List Int) (l : List Ent) (n i : Int) (K : Ex → St → Option R) : roundK (env consW1) H.wire_put 2 (LPof []) V.wire_put_18 L.wire_put_18 ⟨[(0, .hw 2), (58, .vl entT l), (59, .int .i64 n), (60, .int .i64 i)], [(0, .dead), (1, .arr 11 .bool [] [patsMk msgP p]), (2, .arr 1 u8T b [])], 3⟩ K = bif decide (i < n) then bif decide ((0 : Int) ≤ i) && decide (i < (↑l.length : Int)) then bif decide (b.length ≤ 140737488355000) then bif decide (List.length (b ++ putN (foldV (l.getD i.toNat entT.zero).fst).toNat) + (bytesC (l.getD i.toNat entT.zero).snd).length ≤ 140737488355000) then K Ex.normal { slots := [(0, AV.hw 2), (58, AV.vl ((Ty.int IntKind.i64).pair ((Ty.int IntKind.i64).pair ((Ty.int IntKind.i64).pair ((Ty.int IntKind.i64).pair (recTy.sl.pair (Ty.str.pair ((Ty.int IntKind.i64).pair ((Ty.int IntKind.i64).pair ((Ty.int IntKind.i64).pair ((Ty.int IntKind.u32).pair confTy)))))))))) l), (59, AV.int IntKind.i64 n), (60, AV.int IntKind.i64 (IntKind.i64.wrap (i + (1 : Int))))], objs := [(0, AObj.dead), (1, AObj.arr 11 Ty.bool [] [[AV.int IntKind.i64 p.fst, AV.int IntKind.i64 p.snd.fst, AV.int IntKind.i64 p.snd.snd.fst, AV.int IntKind.i64 p.snd.snd.snd.fst, AV.int IntKind.i64 p.snd.snd.snd.snd.fst, AV.int IntKind.i64 p.snd.snd.snd.snd.snd.fst, AV.vl ((Ty.int IntKind.i64).pair ((Ty.int IntKind.i64).pair ((Ty.int IntKind.i64).pair ((Ty.int IntKind.i64).pair (recTy.sl.pair (Ty.str.pair ((Ty.int IntKind.i64).pair ((Ty.int IntKind.i64).pair ((Ty.int IntKind.i64).pair ((Ty.int IntKind.u32).pair confTy)))))))))) p.snd.snd.snd.snd.snd.snd.fst, AV.int IntKind.i64 p.snd.snd.snd.snd.snd.snd.snd.fst, AV.bool p.snd.snd.snd.snd.snd.snd.snd.snd.fst, AV.int IntKind.i64 p.snd.snd.snd.snd.snd.snd.snd.snd.snd.fst, AV.vl (Ty.int IntKind.u8) p.snd.snd.snd.snd.snd.snd.snd.snd.snd.snd.fst]]), (2, AObj.arr 1 (Ty.int IntKind.u8) (b ++ putN (foldV (l.getD i.toNat entT.zero).fst).toNat ++ putN (bytesC (l.getD i.toNat entT.zero).snd).length ++ bytesC (l.getD i.toNat entT.zero).snd) [])], nx := 3 } else none else none else none else K (Ex.exit 1) { slots := [(0, AV.hw 2), (58, AV.vl ((Ty.int IntKind.i64).pair ((Ty.int IntKind.i64).pair ((Ty.int IntKind.i64).pair ((Ty.int IntKind.i64).pair (recTy.sl.pair (Ty.str.pair ((Ty.int IntKind.i64).pair ((Ty.int IntKind.i64).pair ((Ty.int IntKind.i64).pair ((Ty.int IntKind.u32).pair confTy)))))))))) l), (59, AV.int IntKind.i64 n), (60, AV.int IntKind.i64 i)], objs := [(0, AObj.dead), (1, AObj.arr 11 Ty.bool [] [[AV.int IntKind.i64 p.fst, AV.int IntKind.i64 p.snd.fst, AV.int IntKind.i64 p.snd.snd.fst, AV.int IntKind.i64 p.snd.snd.snd.fst, AV.int IntKind.i64 p.snd.snd.snd.snd.fst, AV.int IntKind.i64 p.snd.snd.snd.snd.snd.fst, AV.vl ((Ty.int IntKind.i64).pair ((Ty.int IntKind.i64).pair ((Ty.int IntKind.i64).pair ((Ty.int IntKind.i64).pair (recTy.sl.pair (Ty.str.pair ((Ty.int IntKind.i64).pair ((Ty.int IntKind.i64).pair ((Ty.int IntKind.i64).pair ((Ty.int IntKind.u32).pair confTy)))))))))) p.snd.snd.snd.snd.snd.snd.fst, AV.int IntKind.i64 p.snd.snd.snd.snd.snd.snd.snd.fst, AV.bool p.snd.snd.snd.snd.snd.snd.snd.snd.fst, AV.int IntKind.i64 p.snd.snd.snd.snd.snd.snd.snd.snd.snd.fst, AV.vl (Ty.int IntKind.u8) p.snd.snd.snd.snd.snd.snd.snd.snd.snd.snd.fst]]), (2, AObj.arr 1 (Ty.int IntKind.u8) b [])], nx := 3 } := by kernel_rfl

def putE (b : List Int) (e : Ent) : List Int := b ++ putN (foldV e.1).toNat ++ putN (bytesC e.2).length ++ bytesC e.2
theorem putE_len {e : Ent} (h : wfT entT e) (b : List Int) : (putE b e).length ≤ b.length + 140020 := by
  have h1 := putI_len h.1
  have h2 := bytesC_len e.2 h.2
  have h3 := putN_len (n := (bytesC e.2).length) (by omega)
  have h1 : (putN (foldV e.1).toNat).length ≤ 10 := h1
  unfold putE
  simp only [List.length_append]
  omega
def wputSt (p : patsDen msgP) (b : List Int) (l : List Ent) (i : Nat) : St := ⟨[(0, .hw 2), (58, .vl entT l), (59, .int .i64 l.length), (60, .int .i64 i)], [(0, .dead), (1, .arr 11 .bool [] [patsMk msgP p]), (2, .arr 1 u8T b [])], 3⟩
theorem wput_rounds {R : Type} (K : Ex → St → Option R) (p : patsDen msgP) (l : List Ent) (hm : l.length ≤ 9223372036854775807) : ∀ (r : List Ent) (i : Nat) (b : List Int), l.drop i = r → i ≤ l.length → (∀ e ∈ r, wfT entT e) → b.length + 140020 * r.length ≤ 140737488350000 →
    ∃ m, rounds (env consW1) H.wire_put 2 (LPof []) V.wire_put_18 L.wire_put_18 m (wputSt p b l i) K = K (.exit 1) (wputSt p (r.foldl putE b) l l.length)
  | [], i, b, hr, hl, hw, hb => by
    have : i = l.length := by have := congrArg List.length hr; simp at this; omega
    refine ⟨1, ?_⟩
    rw [rounds_succ']
    refine (wput_rd p b l _ _ _).trans ?_
    rw [cond_neg (by omega), this]
    rfl
  | c :: r, i, b, hr, hl, hw, hb => by
    have hlt : i < l.length := by have := congrArg List.length hr; simp at this; omega
    have hc : l.getD i entT.zero = c := by
      have := congrArg (fun l => l.getD 0 entT.zero) hr
      simpa [List.getD_eq_getElem?_getD] using this
    have hr' : l.drop (i + 1) = r := by rw [show l.drop (i + 1) = (l.drop i).drop 1 by rw [List.drop_drop], hr]; rfl
    rw [List.length_cons] at hb
    have hcw := hw c (by simp)
    have hlen := putE_len hcw b
    obtain ⟨m, hm'⟩ := wput_rounds K p l hm r (i + 1) (putE b c) hr' (by omega) (fun e he => hw e (List.mem_cons_of_mem _ he)) (by omega)
    refine ⟨m + 1, ?_⟩
    rw [rounds_succ']
    refine (wput_rd p b l _ _ _).trans ?_
    have h1 : (putN (foldV c.1).toNat).length ≤ 10 := putI_len hcw.1
    have h2 : (bytesC c.2).length ≤ 140000 := bytesC_len c.2 hcw.2
    rw [cond_pos (by omega), cond_pos2 (by omega) (by omega), Int.toNat_natCast, hc, cond_pos (by omega), cond_pos (by simp only [List.length_append]; omega), wrap64 (by omega) (by omega)]
    exact hm'
abbrev wputLC : LoopC := LoopC.of ⟨[(0, .lit (.hw 2)), (58, .vl entT), (59, .int .i64), (60, .int .i64)], [.dead, .box 11 [msgP], .arr 1 u8T []]⟩
    (fun x => decide (x.1.2.2.1 = (List.length x.1.2.1 : Int)) && decide (x.1.2.2.2.1 = 0) && decide ((List.length x.2.2.2.1.1) + 140020 * List.length x.1.2.1 ≤ 140737488350000)) fun x => [(true, .exit 1, wputSt x.2.2.1.1 (List.foldl putE x.2.2.2.1.1 x.1.2.1) x.1.2.1 (List.length x.1.2.1))]
theorem wput_lok : LoopOK P0 H.wire_put 2 L.wire_put_18 wputLC :=
  loop_ok_of (env_ok consW1_ok) glob0 mixed0 noLoops V.wire_put_18 (by decide) fun ⟨⟨_, l, n, i, _⟩, _, ⟨p, _⟩, ⟨b, _⟩, _⟩ h hw => by
    simp only [Bool.and_eq_true, decide_eq_true_eq] at h
    obtain ⟨⟨rfl, rfl⟩, h3⟩ := h
    exact wput_rounds _ p l hw.1.2.1.1 l 0 b rfl (by omega) hw.1.2.1.2 h3
noncomputable def wputLP (R : Type) (k0 : Nat) : Loops R := cond (Nat.beq k0 2) (LPof [(18, wputLC)]) noLP
theorem wputLP_good (R : Type) (k0 : Nat) : LoopsGood P0 H.wire_put k0 (wputLP R k0) B.wire_put := by
  unfold wputLP
  cases h : Nat.beq k0 2 with
  | false => exact noLP_good
  | true =>
    obtain rfl := Nat.eq_of_beq_eq_true h
    exact loops_good (tab := [(18, wputLC)]) (by kernel_rfl) (fun x hx => by simp at hx; subst hx; exact wput_lok)
noncomputable abbrev consW2 : List (FuncId × Con) := [(I.wire_fields, inl (env []) H.wire_fields F.wire_fields (fun R _ => noLP)), (I.wire_put, inl (env consW1) H.wire_put F.wire_put wputLP)] ++ consW1
theorem consW2_ok : ∀ x ∈ consW2, HoldsC P0 x.1 x.2 := by
  intro x hx
  rcases List.mem_append.1 hx with hx | hx
  · simp at hx
    rcases hx with rfl | rfl
    · exact inl_ok (env_ok env_nil) glob0 mixed0 G.wire_fields Bd.wire_fields C.wire_fields (fun R k0 => noLP_good)
    · exact inl_ok (env_ok consW1_ok) glob0 mixed0 G.wire_put Bd.wire_put C.wire_put wputLP_good
  · exact consW1_ok x hx
theorem wpiece_ev (m : Msg) : evFn (env consW2) H.wire_piece (loopsF (env consW2) H.wire_piece 0 B.wire_piece 13) F.wire_piece [valOf msgT m] [] (finT [.sl u8T]) = bif decide (List.length ([] ++ putN (foldV m.fst).toNat) ≤ 140737488355000) then bif decide (List.length ([] ++ putN (foldV m.fst).toNat ++ putN (foldV m.snd.fst).toNat) ≤ 140737488355000) then bif decide (List.length ([] ++ putN (foldV m.fst).toNat ++ putN (foldV m.snd.fst).toNat ++ putN (foldV m.snd.snd.fst).toNat) ≤ 140737488355000) then bif decide (List.length ([] ++ putN (foldV m.fst).toNat ++ putN (foldV m.snd.fst).toNat ++ putN (foldV m.snd.snd.fst).toNat ++ putN (foldV m.snd.snd.snd.fst).toNat) ≤ 140737488355000) then bif decide (List.length ([] ++ putN (foldV m.fst).toNat ++ putN (foldV m.snd.fst).toNat ++ putN (foldV m.snd.snd.fst).toNat ++ putN (foldV m.snd.snd.snd.fst).toNat ++ putN (foldV m.snd.snd.snd.snd.fst).toNat) ≤ 140737488355000) then bif decide (List.length ([] ++ putN (foldV m.fst).toNat ++ putN (foldV m.snd.fst).toNat ++ putN (foldV m.snd.snd.fst).toNat ++ putN (foldV m.snd.snd.snd.fst).toNat ++ putN (foldV m.snd.snd.snd.snd.fst).toNat ++ putN (foldV m.snd.snd.snd.snd.snd.fst).toNat) ≤ 140737488355000) then bif decide ((↑(List.length m.snd.snd.snd.snd.snd.snd.fst) : Int) = (↑(List.length m.snd.snd.snd.snd.snd.snd.fst) : Int)) && true && decide (List.length ([] ++ putN (foldV m.fst).toNat ++ putN (foldV m.snd.fst).toNat ++ putN (foldV m.snd.snd.fst).toNat ++ putN (foldV m.snd.snd.snd.fst).toNat ++ putN (foldV m.snd.snd.snd.snd.fst).toNat ++ putN (foldV m.snd.snd.snd.snd.snd.fst).toNat ++ putN (IntKind.u64.wrap (↑(List.length m.snd.snd.snd.snd.snd.snd.fst) : Int)).toNat) + 140020 * List.length m.snd.snd.snd.snd.snd.snd.fst ≤ 140737488350000) && true then bif decide ((List.foldl putE ([] ++ putN (foldV m.fst).toNat ++ putN (foldV m.snd.fst).toNat ++ putN (foldV m.snd.snd.fst).toNat ++ putN (foldV m.snd.snd.snd.fst).toNat ++ putN (foldV m.snd.snd.snd.snd.fst).toNat ++ putN (foldV m.snd.snd.snd.snd.snd.fst).toNat ++ putN (IntKind.u64.wrap (↑(List.length m.snd.snd.snd.snd.snd.snd.fst) : Int)).toNat) m.snd.snd.snd.snd.snd.snd.fst).length ≤ 140737488355000) then bif m.snd.snd.snd.snd.snd.snd.snd.snd.fst then bif decide ((List.foldl putE ([] ++ putN (foldV m.fst).toNat ++ putN (foldV m.snd.fst).toNat ++ putN (foldV m.snd.snd.fst).toNat ++ putN (foldV m.snd.snd.snd.fst).toNat ++ putN (foldV m.snd.snd.snd.snd.fst).toNat ++ putN (foldV m.snd.snd.snd.snd.snd.fst).toNat ++ putN (IntKind.u64.wrap (↑(List.length m.snd.snd.snd.snd.snd.snd.fst) : Int)).toNat) m.snd.snd.snd.snd.snd.snd.fst ++ putN (foldV m.snd.snd.snd.snd.snd.snd.snd.fst).toNat ++ [(1 : Int)]).length * 1 ≤ 140737488355328) then bif decide ((List.foldl putE ([] ++ putN (foldV m.fst).toNat ++ putN (foldV m.snd.fst).toNat ++ putN (foldV m.snd.snd.fst).toNat ++ putN (foldV m.snd.snd.snd.fst).toNat ++ putN (foldV m.snd.snd.snd.snd.fst).toNat ++ putN (foldV m.snd.snd.snd.snd.snd.fst).toNat ++ putN (IntKind.u64.wrap (↑(List.length m.snd.snd.snd.snd.snd.snd.fst) : Int)).toNat) m.snd.snd.snd.snd.snd.snd.fst ++ putN (foldV m.snd.snd.snd.snd.snd.snd.snd.fst).toNat ++ [(1 : Int)]).length ≤ 140737488355000) then bif decide (List.length (List.foldl putE ([] ++ putN (foldV m.fst).toNat ++ putN (foldV m.snd.fst).toNat ++ putN (foldV m.snd.snd.fst).toNat ++ putN (foldV m.snd.snd.snd.fst).toNat ++ putN (foldV m.snd.snd.snd.snd.fst).toNat ++ putN (foldV m.snd.snd.snd.snd.snd.fst).toNat ++ putN (IntKind.u64.wrap (↑(List.length m.snd.snd.snd.snd.snd.snd.fst) : Int)).toNat) m.snd.snd.snd.snd.snd.snd.fst ++ putN (foldV m.snd.snd.snd.snd.snd.snd.snd.fst).toNat ++ [(1 : Int)] ++ putN (foldV m.snd.snd.snd.snd.snd.snd.snd.snd.snd.fst).toNat) + List.length m.snd.snd.snd.snd.snd.snd.snd.snd.snd.snd ≤ 140737488355000) then some (List.foldl putE ([] ++ putN (foldV m.fst).toNat ++ putN (foldV m.snd.fst).toNat ++ putN (foldV m.snd.snd.fst).toNat ++ putN (foldV m.snd.snd.snd.fst).toNat ++ putN (foldV m.snd.snd.snd.snd.fst).toNat ++ putN (foldV m.snd.snd.snd.snd.snd.fst).toNat ++ putN (IntKind.u64.wrap (↑(List.length m.snd.snd.snd.snd.snd.snd.fst) : Int)).toNat) m.snd.snd.snd.snd.snd.snd.fst ++ putN (foldV m.snd.snd.snd.snd.snd.snd.snd.fst).toNat ++ [(1 : Int)] ++ putN (foldV m.snd.snd.snd.snd.snd.snd.snd.snd.snd.fst).toNat ++ putN (List.length m.snd.snd.snd.snd.snd.snd.snd.snd.snd.snd) ++ m.snd.snd.snd.snd.snd.snd.snd.snd.snd.snd, ()) else none else none else none else bif decide ((List.foldl putE ([] ++ putN (foldV m.fst).toNat ++ putN (foldV m.snd.fst).toNat ++ putN (foldV m.snd.snd.fst).toNat ++ putN (foldV m.snd.snd.snd.fst).toNat ++ putN (foldV m.snd.snd.snd.snd.fst).toNat ++ putN (foldV m.snd.snd.snd.snd.snd.fst).toNat ++ putN (IntKind.u64.wrap (↑(List.length m.snd.snd.snd.snd.snd.snd.fst) : Int)).toNat) m.snd.snd.snd.snd.snd.snd.fst ++ putN (foldV m.snd.snd.snd.snd.snd.snd.snd.fst).toNat ++ [(0 : Int)]).length * 1 ≤ 140737488355328) then bif decide ((List.foldl putE ([] ++ putN (foldV m.fst).toNat ++ putN (foldV m.snd.fst).toNat ++ putN (foldV m.snd.snd.fst).toNat ++ putN (foldV m.snd.snd.snd.fst).toNat ++ putN (foldV m.snd.snd.snd.snd.fst).toNat ++ putN (foldV m.snd.snd.snd.snd.snd.fst).toNat ++ putN (IntKind.u64.wrap (↑(List.length m.snd.snd.snd.snd.snd.snd.fst) : Int)).toNat) m.snd.snd.snd.snd.snd.snd.fst ++ putN (foldV m.snd.snd.snd.snd.snd.snd.snd.fst).toNat ++ [(0 : Int)]).length ≤ 140737488355000) then bif decide (List.length (List.foldl putE ([] ++ putN (foldV m.fst).toNat ++ putN (foldV m.snd.fst).toNat ++ putN (foldV m.snd.snd.fst).toNat ++ putN (foldV m.snd.snd.snd.fst).toNat ++ putN (foldV m.snd.snd.snd.snd.fst).toNat ++ putN (foldV m.snd.snd.snd.snd.snd.fst).toNat ++ putN (IntKind.u64.wrap (↑(List.length m.snd.snd.snd.snd.snd.snd.fst) : Int)).toNat) m.snd.snd.snd.snd.snd.snd.fst ++ putN (foldV m.snd.snd.snd.snd.snd.snd.snd.fst).toNat ++ [(0 : Int)] ++ putN (foldV m.snd.snd.snd.snd.snd.snd.snd.snd.snd.fst).toNat) + List.length m.snd.snd.snd.snd.snd.snd.snd.snd.snd.snd ≤ 140737488355000) then some (List.foldl putE ([] ++ putN (foldV m.fst).toNat ++ putN (foldV m.snd.fst).toNat ++ putN (foldV m.snd.snd.fst).toNat ++ putN (foldV m.snd.snd.snd.fst).toNat ++ putN (foldV m.snd.snd.snd.snd.fst).toNat ++ putN (foldV m.snd.snd.snd.snd.snd.fst).toNat ++ putN (IntKind.u64.wrap (↑(List.length m.snd.snd.snd.snd.snd.snd.fst) : Int)).toNat) m.snd.snd.snd.snd.snd.snd.fst ++ putN (foldV m.snd.snd.snd.snd.snd.snd.snd.fst).toNat ++ [(0 : Int)] ++ putN (foldV m.snd.snd.snd.snd.snd.snd.snd.snd.snd.fst).toNat ++ putN (List.length m.snd.snd.snd.snd.snd.snd.snd.snd.snd.snd) ++ m.snd.snd.snd.snd.snd.snd.snd.snd.snd.snd, ()) else none else none else none else none else none else none else none else none else none else none else none := by kernel_rfl

def pieceE (m : Msg) : List Int := (List.foldl putE (putN (foldV m.1).toNat ++ putN (foldV m.2.1).toNat ++ putN (foldV m.2.2.1).toNat ++ putN (foldV m.2.2.2.1).toNat ++ putN (foldV m.2.2.2.2.1).toNat ++ putN (foldV m.2.2.2.2.2.1).toNat ++ putN (List.length m.2.2.2.2.2.2.1)) m.2.2.2.2.2.2.1) ++
  putN (foldV m.2.2.2.2.2.2.2.1).toNat ++ [bif m.2.2.2.2.2.2.2.2.1 then 1 else 0] ++ putN (foldV m.2.2.2.2.2.2.2.2.2.1).toNat ++ putN (List.length m.2.2.2.2.2.2.2.2.2.2) ++ m.2.2.2.2.2.2.2.2.2.2
theorem foldE_len : ∀ (l : List Ent) (b : List Int), (∀ e ∈ l, wfT entT e) → (l.foldl putE b).length ≤ b.length + 140020 * l.length
  | [], b, _ => by simp
  | e :: l, b, h => by
    have h1 := putE_len (h e (by simp)) b
    have h2 := foldE_len l (putE b e) (fun x hx => h x (List.mem_cons_of_mem _ hx))
    simp only [List.foldl_cons, List.length_cons]
    omega
def caseWpiece : PCase := ⟨[.ty msgT], [.sl u8T], fun x => (fun (m : Msg) => [(decide (List.length m.2.2.2.2.2.2.1 ≤ 100000) && decide (List.length m.2.2.2.2.2.2.2.2.2.2 ≤ 1000000000), (pieceE m, ()))]) x.1⟩
theorem wpiece_val (m : Msg) (hc : (decide (List.length m.2.2.2.2.2.2.1 ≤ 100000) && decide (List.length m.2.2.2.2.2.2.2.2.2.2 ≤ 1000000000)) = true) (hw : wfT msgT m) : evFn (env consW2) H.wire_piece (loopsF (env consW2) H.wire_piece 0 B.wire_piece 13) F.wire_piece [valOf msgT m] [] (finT [.sl u8T]) = some (pieceE m, ()) := by
  simp only [Bool.and_eq_true, decide_eq_true_eq] at hc
  obtain ⟨m1, m2, m3, m4, m5, m6, l, m8, ok, m10, d⟩ := m
  obtain ⟨w1, w2, w3, w4, w5, w6, w7, w8, w9, w10, w11⟩ := hw
  have h1 : (putN (foldV m1).toNat).length ≤ 10 := putI_len w1
  have h2 : (putN (foldV m2).toNat).length ≤ 10 := putI_len w2
  have h3 : (putN (foldV m3).toNat).length ≤ 10 := putI_len w3
  have h4 : (putN (foldV m4).toNat).length ≤ 10 := putI_len w4
  have h5 : (putN (foldV m5).toNat).length ≤ 10 := putI_len w5
  have h6 : (putN (foldV m6).toNat).length ≤ 10 := putI_len w6
  have h8 : (putN (foldV m8).toNat).length ≤ 10 := putI_len w8
  have h10 : (putN (foldV m10).toNat).length ≤ 10 := putI_len w10
  have hl : ∀ e ∈ l, wfT entT e := w7.2
  rw [wpiece_ev]
  unfold pieceE
  simp only at hc ⊢
  have hn := putN_len (n := l.length) (by omega)
  rw [wrapu64 (by omega) (by omega), Int.toNat_natCast]
  simp only [List.nil_append]
  have hf := foldE_len l (putN (foldV m1).toNat ++ putN (foldV m2).toNat ++ putN (foldV m3).toNat ++ putN (foldV m4).toNat ++ putN (foldV m5).toNat ++ putN (foldV m6).toNat ++ putN l.length) hl
  simp only [List.length_append] at hf
  simp only [decide_true, Bool.and_true, Bool.true_and]
  rw [cond_pos (by first | omega | (simp only [List.length_append, List.length_nil, List.length_cons]; omega)), cond_pos (by first | omega | (simp only [List.length_append, List.length_nil, List.length_cons]; omega)), cond_pos (by first | omega | (simp only [List.length_append, List.length_nil, List.length_cons]; omega)), cond_pos (by first | omega | (simp only [List.length_append, List.length_nil, List.length_cons]; omega)), cond_pos (by first | omega | (simp only [List.length_append, List.length_nil, List.length_cons]; omega)), cond_pos (by first | omega | (simp only [List.length_append, List.length_nil, List.length_cons]; omega)), cond_pos (by first | omega | (simp only [List.length_append, List.length_nil, List.length_cons]; omega)), cond_pos (by first | omega | (simp only [List.length_append, List.length_nil, List.length_cons]; omega))]
  cases ok with
  | true =>
    simp only [cond_true]
    rw [cond_pos (by first | omega | (simp only [List.length_append, List.length_nil, List.length_cons]; omega)), cond_pos (by first | omega | (simp only [List.length_append, List.length_nil, List.length_cons]; omega)), cond_pos (by first | omega | (simp only [List.length_append, List.length_nil, List.length_cons]; omega))]
  | false =>
    simp only [cond_false]
    rw [cond_pos (by first | omega | (simp only [List.length_append, List.length_nil, List.length_cons]; omega)), cond_pos (by first | omega | (simp only [List.length_append, List.length_nil, List.length_cons]; omega)), cond_pos (by first | omega | (simp only [List.length_append, List.length_nil, List.length_cons]; omega))]
theorem wpiece_ok : caseWpiece.ok P0 I.wire_piece := case_ok2 (H := H.wire_piece) (E := env consW2) (env_ok consW2_ok) glob0 mixed0 G.wire_piece Bd.wire_piece (by kernel_rfl) (loopsF_good (env_ok consW2_ok) glob0 mixed0 (by kernel_rfl) 13) fun ⟨m, ()⟩ y h hw => by
  obtain ⟨hc, rfl⟩ := pick_pre h
  exact wpiece_val m hc hw.1
end Go.Sim
namespace Go.Sim
set_option linter.unusedSimpArgs false
set_option linter.unusedVariables false
set_option maxRecDepth 10000
noncomputable abbrev consW3 : List (FuncId × Con) := [(I.command_Read, .pure (pureOf [caseRead]))] ++ consV3
theorem consW3_ok : ∀ x ∈ consW3, HoldsC P0 x.1 x.2 := by
  intro x hx
  rcases List.mem_append.1 hx with hx | hx
  · simp at hx
    subst hx
    exact ⟨pureOf_holds (by simp; exact cread_ok), C.command_Read⟩
  · exact consV3_ok x hx
theorem went_rd {R : Type} (b : List Int) (e : Int) (xs : List Ent) (n i : Int) (K : Ex → St → Option R) : roundK (env consW3) H.wire_entries 1 (LPof []) V.wire_entries_3 L.wire_entries_3 ⟨[(0, .ptr 0 (.tl 0) 0), (3, .hw 1), (9, .int .i64 n), (10, .int .i64 i)], [(0, .arr 2 .bool [] [[.vl u8T b, .int .i64 e]]), (1, .log entT xs)], 2⟩ K = bif decide (i < n) then bif decide ((numP (b, e)).snd.fst.length ≤ 140737488355328) then bif decide ((bytesP (numP (b, e)).snd).fst.length ≤ 140737488355328) then bif decide ((xs ++ [(unfoldV (numP (b, e)).fst, (readC (bytesP (numP (b, e)).snd).fst).fst)]).length * 136 ≤ 140737488355328) then K Ex.normal { slots := [(0, AV.ptr 0 (Elt.tl 0) 0), (3, AV.hw 1), (9, AV.int IntKind.i64 n), (10, AV.int IntKind.i64 (IntKind.i64.wrap (i + (1 : Int))))], objs := [(0, AObj.arr 2 Ty.bool [] [[AV.vl (Ty.int IntKind.u8) (bytesP (numP (b, e)).snd).snd.fst, AV.int IntKind.i64 (bif (bytesP (numP (b, e)).snd).snd.snd == (0 : (Pat.int IntKind.i64).den) then (readC (bytesP (numP (b, e)).snd).fst).snd else (bytesP (numP (b, e)).snd).snd.snd)]]), (1, AObj.log ((Ty.int IntKind.i64).pair ((Ty.int IntKind.i64).pair ((Ty.int IntKind.i64).pair ((Ty.int IntKind.i64).pair (recTy.sl.pair (Ty.str.pair ((Ty.int IntKind.i64).pair ((Ty.int IntKind.i64).pair ((Ty.int IntKind.i64).pair ((Ty.int IntKind.u32).pair confTy)))))))))) (xs ++ [(unfoldV (numP (b, e)).fst, (readC (bytesP (numP (b, e)).snd).fst).fst)]))], nx := 2 } else none else none else none else K (Ex.exit 0) { slots := [(0, AV.ptr 0 (Elt.tl 0) 0), (3, AV.hw 1), (9, AV.int IntKind.i64 n), (10, AV.int IntKind.i64 i)], objs := [(0, AObj.arr 2 Ty.bool [] [[AV.vl (Ty.int IntKind.u8) b, AV.int IntKind.i64 e]]), (1, AObj.log ((Ty.int IntKind.i64).pair ((Ty.int IntKind.i64).pair ((Ty.int IntKind.i64).pair ((Ty.int IntKind.i64).pair (recTy.sl.pair (Ty.str.pair ((Ty.int IntKind.i64).pair ((Ty.int IntKind.i64).pair ((Ty.int IntKind.i64).pair ((Ty.int IntKind.u32).pair confTy)))))))))) xs)], nx := 2 } := by kernel_rfl

abbrev RdE := List Int × Int × List Ent
def stepE (s : RdE) : RdE :=
  let n := numP (s.1, s.2.1)
  let t := bytesP n.2
  let r := readC t.1
  (t.2.1, (bif t.2.2 == 0 then r.2 else t.2.2), s.2.2 ++ [(unfoldV n.1, r.1)])
def itE : Nat → RdE → RdE
  | 0, s => s
  | n + 1, s => itE n (stepE s)
theorem bytesV_len (b : List Int) (e : Int) : (bytesV b e).1.length ≤ b.length ∧ (bytesV b e).2.1.length ≤ b.length := by
  have h := numV_len b e
  unfold bytesV
  cases (numV b e).2.2 == 0 with
  | false => simp only [cond_false, List.length_nil]; omega
  | true =>
    cases decide ((numV b e).1 > ((numV b e).2.1.length : Int)) with
    | true => simp only [cond_true, List.length_nil]; omega
    | false => simp only [cond_true, cond_false, List.length_take, List.length_drop]; omega
theorem numP_len (s : List Int × Int) : (numP s).2.1.length ≤ s.1.length := numV_len s.1 s.2
theorem bytesP_len (s : List Int × Int) : (bytesP s).1.length ≤ s.1.length ∧ (bytesP s).2.1.length ≤ s.1.length := bytesV_len s.1 s.2
theorem stepE_len (s : RdE) : (stepE s).1.length ≤ s.1.length ∧ (stepE s).2.2.length = s.2.2.length + 1 := by
  have h1 := numP_len (s.1, s.2.1)
  have h2 := bytesP_len (numP (s.1, s.2.1)).2
  exact ⟨Nat.le_trans h2.2 h1, by simp [stepE]⟩
def wentSt (s : RdE) (n i : Int) : St := ⟨[(0, .ptr 0 (.tl 0) 0), (3, .hw 1), (9, .int .i64 n), (10, .int .i64 i)], [(0, .arr 2 .bool [] [[.vl u8T s.1, .int .i64 s.2.1]]), (1, .log entT s.2.2)], 2⟩
theorem went_rounds {R : Type} (K : Ex → St → Option R) (n : Nat) (hn : n ≤ 1000) : ∀ (k i : Nat) (s : RdE), i + k = n → s.1.length ≤ 140737488355328 → s.2.2.length ≤ i →
    ∃ m, rounds (env consW3) H.wire_entries 1 (LPof []) V.wire_entries_3 L.wire_entries_3 m (wentSt s n i) K = K (.exit 0) (wentSt (itE k s) n n)
  | 0, i, s, hi, hb, hx => by
    refine ⟨1, ?_⟩
    rw [rounds_succ']
    refine (went_rd s.1 s.2.1 s.2.2 _ _ _).trans ?_
    rw [cond_neg (by omega), show (i : Int) = (n : Int) from by omega]
    rfl
  | k + 1, i, s, hi, hb, hx => by
    have hl := stepE_len s
    have h1 : (numP (s.1, s.2.1)).2.1.length ≤ s.1.length := numP_len (s.1, s.2.1)
    have h2 := bytesP_len (numP (s.1, s.2.1)).2
    obtain ⟨m, hm⟩ := went_rounds K n hn k (i + 1) (stepE s) (by omega) (by omega) (by omega)
    refine ⟨m + 1, ?_⟩
    rw [rounds_succ']
    refine (went_rd s.1 s.2.1 s.2.2 _ _ _).trans ?_
    rw [cond_pos (by omega), cond_pos (by omega), cond_pos (by omega), cond_pos (by simp only [List.length_append, List.length_cons, List.length_nil]; omega), wrap64 (by omega) (by omega)]
    exact hm
abbrev wentLC : LoopC := LoopC.of ⟨[(0, .lit (.ptr 0 (.tl 0) 0)), (3, .lit (.hw 1)), (9, .int .i64), (10, .int .i64)], [.box 2 [[.vl u8T, .int .i64]], .log entT]⟩
    (fun x => decide (x.1.2.2.2.1 = 0) && decide (0 ≤ x.1.2.2.1) && decide (x.1.2.2.1 ≤ 1000) && decide (List.length x.2.2.1 = 0) && decide (List.length x.2.1.1.1 ≤ 140737488355328))
    fun x => [(true, .exit 0, wentSt (itE x.1.2.2.1.toNat (x.2.1.1.1, x.2.1.1.2.1, x.2.2.1)) x.1.2.2.1 x.1.2.2.1)]
theorem went_go (s : RdE) (n : Int) (h0 : 0 ≤ n) (hn : n ≤ 1000) (hx : s.2.2.length = 0) (hb : s.1.length ≤ 140737488355328) :
    ∃ m, rounds (env consW3) H.wire_entries 1 (LPof []) V.wire_entries_3 L.wire_entries_3 m (wentSt s n 0) (fun e s => some (e, s)) = some (Ex.exit 0, wentSt (itE n.toNat s) n n) := by
  obtain ⟨k, rfl⟩ : ∃ k : Nat, n = k := ⟨n.toNat, by omega⟩
  exact went_rounds (fun e s => some (e, s)) k (by omega) k 0 s (by omega) hb (by omega)
theorem went_lok : LoopOK P0 H.wire_entries 1 L.wire_entries_3 wentLC :=
  loop_ok_of (env_ok consW3_ok) glob0 mixed0 noLoops V.wire_entries_3 (by decide) fun ⟨⟨_, _, n, i, _⟩, ⟨⟨b, e, _⟩, _⟩, xs, _⟩ h hw => by
    simp only [Bool.and_eq_true, decide_eq_true_eq] at h
    obtain ⟨⟨⟨⟨rfl, h1⟩, h2⟩, h3⟩, h4⟩ := h
    exact went_go (b, e, xs) n h1 h2 h3 h4
theorem went_ev (b : List Int) (e : Int) : evFn (env consW3) H.wire_entries (LPof [(3, wentLC)]) F.wire_entries [.ptr 0 (.tl 0) 0] [.arr 2 .bool [] [[.vl u8T b, .int .i64 e]]] (finV (.vl entT) [.box 2 [[.vl u8T, .int .i64]]] 1) = bif decide ((0 : (Pat.int IntKind.i64).den) ≤ bif decide ((9 : Int) < (countP (b, e)).fst) then (9 : Int) else (countP (b, e)).fst) && decide ((bif decide ((9 : Int) < (countP (b, e)).fst) then (9 : Int) else (countP (b, e)).fst) ≤ (1000 : (Pat.int IntKind.i64).den)) && true && decide ((countP (b, e)).snd.fst.length ≤ 140737488355328) && true then some ((itE (bif decide ((9 : Int) < (countP (b, e)).fst) then (9 : Int) else (countP (b, e)).fst).toNat ((countP (b, e)).snd.fst, (countP (b, e)).snd.snd, [])).snd.snd, (((itE (bif decide ((9 : Int) < (countP (b, e)).fst) then (9 : Int) else (countP (b, e)).fst).toNat ((countP (b, e)).snd.fst, (countP (b, e)).snd.snd, [])).fst, (itE (bif decide ((9 : Int) < (countP (b, e)).fst) then (9 : Int) else (countP (b, e)).fst).toNat ((countP (b, e)).snd.fst, (countP (b, e)).snd.snd, [])).snd.fst, ()), ()), ()) else none := by kernel_rfl

def entsP (s : List Int × Int) : List Ent × List Int × Int :=
  let r := itE (bif decide (9 < (countP s).1) then 9 else (countP s).1).toNat ((countP s).2.1, (countP s).2.2, [])
  (r.2.2, r.1, r.2.1)
theorem countP_nonneg (s : List Int × Int) : 0 ≤ (countP s).1 := countV_nonneg s.1 s.2
theorem countP_len (s : List Int × Int) : (countP s).2.1.length ≤ s.1.length := by
  have h := numV_len s.1 s.2
  unfold countP countV
  cases (numV s.1 s.2).2.2 == 0 with
  | false => exact h
  | true => cases decide ((numV s.1 s.2).1 > ((numV s.1 s.2).2.1.length : Int)) <;> exact h
def caseWent : VCase := ⟨[.lit (.ptr 0 (.tl 0) 0)], [.box 2 [[.vl u8T, .int .i64]]], .vl entT, [.box 2 [[.vl u8T, .int .i64]]], fun ⟨_, ()⟩ ⟨⟨⟨b, e, ()⟩, ()⟩, ()⟩ => [(decide (b.length ≤ 140737488355328), ((entsP (b, e)).1, ((((entsP (b, e)).2.1, (entsP (b, e)).2.2, ()), ()), ())))]⟩
theorem went_val (b : List Int) (e : Int) (hc : (decide (b.length ≤ 140737488355328)) = true) : evFn (env consW3) H.wire_entries (LPof [(3, wentLC)]) F.wire_entries [.ptr 0 (.tl 0) 0] [.arr 2 .bool [] [[.vl u8T b, .int .i64 e]]] (finV (.vl entT) [.box 2 [[.vl u8T, .int .i64]]] 1) = some ((entsP (b, e)).1, ((((entsP (b, e)).2.1, (entsP (b, e)).2.2, ()), ()), ())) := by
  have hb := of_decide_eq_true hc
  have h0 := countP_nonneg (b, e)
  have h1 : (countP (b, e)).2.1.length ≤ b.length := countP_len (b, e)
  rw [went_ev]
  unfold entsP
  simp only
  have hn : 0 ≤ (bif decide (9 < (countP (b, e)).1) then (9 : Int) else (countP (b, e)).1) ∧ (bif decide (9 < (countP (b, e)).1) then (9 : Int) else (countP (b, e)).1) ≤ 1000 := by
    by_cases h : (9 : Int) < (countP (b, e)).1
    · simp [h]
    · simp only [h, decide_false, cond_false]; omega
  have h2 : (countP (b, e)).2.1.length ≤ 140737488355328 := by omega
  simp only [hn.1, hn.2, h2, decide_true, Bool.and_true, cond_true]
theorem went_ok : caseWent.e.ok P0 I.wire_entries := vcase_ok (c := caseWent) (H := H.wire_entries) (E := env consW3) (env_ok consW3_ok) glob0 mixed0 G.wire_entries Bd.wire_entries (by kernel_rfl) (loops_good (tab := [(3, wentLC)]) (by kernel_rfl) (fun x hx => by simp at hx; subst hx; exact went_lok)) fun ⟨_, ()⟩ ⟨⟨⟨b, e, ()⟩, ()⟩, ()⟩ r h hw1 hw2 => by
  obtain ⟨hc, rfl⟩ := pick_pre h
  exact went_val b e hc
end Go.Sim
namespace Go.Sim
set_option linter.unusedSimpArgs false
set_option linter.unusedVariables false
set_option maxRecDepth 10000
theorem wnum_ev (n : Int) : evFn (env []) H.wire_number (LPof []) F.wire_number [.int .i64 n] [] (finT [.bool]) = Option.bind (bif decide (n ≥ (0 : Int)) then some (decide (n ≤ (1125899906842624 : Int))) else some false) fun v => some (v, ()) := by kernel_rfl

theorem wid_ev (n : Int) : evFn (env []) H.wire_id (LPof []) F.wire_id [.int .i64 n] [] (finT [.bool]) = Option.bind (bif decide (n ≥ (1 : Int)) then some (decide (n ≤ (7 : Int))) else some false) fun v => some (v, ()) := by kernel_rfl

theorem within19_ev (n : Int) : evFn (env []) H.cooperagelaw19_within (LPof []) F.cooperagelaw19_within [.int .i64 n] [] (finT [.bool]) = Option.bind (bif decide (n ≥ (0 : Int)) then some (decide (n ≤ (1125899906842624 : Int))) else some false) fun v => some (v, ()) := by kernel_rfl

def caseWnum : PCase := ⟨[.ty (.int .i64)], [.bool], fun x => (fun (n : Int) => [(true, (withinB n 0 1125899906842624, ()))]) x.1⟩
theorem wnum_val (n : Int) : evFn (env []) H.wire_number (LPof []) F.wire_number [.int .i64 n] [] (finT [.bool]) = some (withinB n 0 1125899906842624, ()) := by
  rw [wnum_ev]; simp only [and_bif, Option.bind_some]; rfl
theorem wnum_ok : caseWnum.ok P0 I.wire_number := case_ok2 (H := H.wire_number) (E := env []) (env_ok env_nil) glob0 mixed0 G.wire_number Bd.wire_number (by kernel_rfl) noLoops fun ⟨n, ()⟩ y h hw => by
  obtain ⟨hc, rfl⟩ := pick_pre h
  exact wnum_val n
def caseWid : PCase := ⟨[.ty (.int .i64)], [.bool], fun x => (fun (n : Int) => [(true, (withinB n 1 7, ()))]) x.1⟩
theorem wid_val (n : Int) : evFn (env []) H.wire_id (LPof []) F.wire_id [.int .i64 n] [] (finT [.bool]) = some (withinB n 1 7, ()) := by
  rw [wid_ev]; simp only [and_bif, Option.bind_some]; rfl
theorem wid_ok : caseWid.ok P0 I.wire_id := case_ok2 (H := H.wire_id) (E := env []) (env_ok env_nil) glob0 mixed0 G.wire_id Bd.wire_id (by kernel_rfl) noLoops fun ⟨n, ()⟩ y h hw => by
  obtain ⟨hc, rfl⟩ := pick_pre h
  exact wid_val n
def caseWithin19 : PCase := ⟨[.ty (.int .i64)], [.bool], fun x => (fun (n : Int) => [(true, (withinB n 0 1125899906842624, ()))]) x.1⟩
theorem within19_val (n : Int) : evFn (env []) H.cooperagelaw19_within (LPof []) F.cooperagelaw19_within [.int .i64 n] [] (finT [.bool]) = some (withinB n 0 1125899906842624, ()) := by
  rw [within19_ev]; simp only [and_bif, Option.bind_some]; rfl
theorem within19_ok : caseWithin19.ok P0 I.cooperagelaw19_within := case_ok2 (H := H.cooperagelaw19_within) (E := env []) (env_ok env_nil) glob0 mixed0 G.cooperagelaw19_within Bd.cooperagelaw19_within (by kernel_rfl) noLoops fun ⟨n, ()⟩ y h hw => by
  obtain ⟨hc, rfl⟩ := pick_pre h
  exact within19_val n
noncomputable abbrev consX1 : List (FuncId × Con) := [(I.wire_number, .pure (pureOf [caseWnum])), (I.wire_id, .pure (pureOf [caseWid])), (I.cooperagelaw19_within, .pure (pureOf [caseWithin19])), (I.command_Right, .pure (pureOf [caseCright])), (I.command_Same, .pure (pureOf [caseCsame])), (I.cooperageref10_Same, .pure (pureOf [caseSame10])), (I.cooperageref10_Right, .pure (pureOf [caseRright])), (I.cooperagelaw10_Big, .pure (pureOf [caseBig])), (I.bytes_Equal, .pure (pureOf [caseBeq]))]
theorem consX1_ok : ∀ x ∈ consX1, HoldsC P0 x.1 x.2 := by
  intro x hx
  simp at hx
  rcases hx with rfl | rfl | rfl | rfl | rfl | rfl | rfl | rfl | rfl
  · exact ⟨pureOf_holds (by simp; exact wnum_ok), C.wire_number⟩
  · exact ⟨pureOf_holds (by simp; exact wid_ok), C.wire_id⟩
  · exact ⟨pureOf_holds (by simp; exact within19_ok), C.cooperagelaw19_within⟩
  · exact ⟨pureOf_holds (by simp; exact cright_ok), C.command_Right⟩
  · exact ⟨pureOf_holds (by simp; exact csame_ok), C.command_Same⟩
  · exact ⟨pureOf_holds (by simp; exact same10_ok), C.cooperageref10_Same⟩
  · exact ⟨pureOf_holds (by simp; exact rright_ok), C.cooperageref10_Right⟩
  · exact ⟨pureOf_holds (by simp; exact big_ok), C.cooperagelaw10_Big⟩
  · exact ⟨pureOf_holds (by simp; exact beq_ok), C.bytes_Equal⟩
theorem wr1_ev (e : Ent) : evFn (env consX1) H.wire_Right_1 (LPof []) F.wire_Right_1 [valOf entT e] [] (finT [.bool]) = Option.bind (bif !withinB e.fst (0 : Int) (1125899906842624 : Int) then some true else some !rightC e.snd) fun v => some (v, ()) := by kernel_rfl

theorem ws1_ev (a b : Ent) : evFn (env consX1) H.wire_Same_1 (LPof []) F.wire_Same_1 [valOf entT a, valOf entT b] [] (finT [.bool]) = Option.bind (bif a.fst == b.fst then some (decide (a.snd = b.snd)) else some false) fun v => some (v, ()) := by kernel_rfl

def badE (e : Ent) : Bool := !withinB e.1 0 1125899906842624 || !rightC e.2
def caseWr1 : PCase := ⟨[.ty entT], [.bool], fun x => (fun (e : Ent) => [(true, (badE e, ()))]) x.1⟩
theorem wr1_val (e : Ent) : evFn (env consX1) H.wire_Right_1 (LPof []) F.wire_Right_1 [valOf entT e] [] (finT [.bool]) = some (badE e, ()) := by
  rw [wr1_ev]; simp only [or_bif, Option.bind_some]; rfl
theorem wr1_ok : caseWr1.ok P0 I.wire_Right_1 := case_ok2 (H := H.wire_Right_1) (E := env consX1) (env_ok consX1_ok) glob0 mixed0 G.wire_Right_1 Bd.wire_Right_1 (by kernel_rfl) noLoops fun ⟨e, ()⟩ y h hw => by
  obtain ⟨hc, rfl⟩ := pick_pre h
  exact wr1_val e
def caseWs1 : PCase := ⟨[.ty entT, .ty entT], [.bool], fun x => (fun (a b : Ent) => [(true, (decide (a = b), ()))]) x.1 x.2.1⟩
theorem ws1_val (a b : Ent) : evFn (env consX1) H.wire_Same_1 (LPof []) F.wire_Same_1 [valOf entT a, valOf entT b] [] (finT [.bool]) = some (decide (a = b), ()) := by
  rw [ws1_ev]; simp only [and_bif, Option.bind_some]
  refine congrArg (fun q => some (q, ())) ?_
  obtain ⟨a1, a2⟩ := a
  obtain ⟨b1, b2⟩ := b
  apply Bool.eq_iff_iff.2
  simp only [Bool.and_eq_true, beq_iff_eq, decide_eq_true_eq, Prod.mk.injEq]
theorem ws1_ok : caseWs1.ok P0 I.wire_Same_1 := case_ok2 (H := H.wire_Same_1) (E := env consX1) (env_ok consX1_ok) glob0 mixed0 G.wire_Same_1 Bd.wire_Same_1 (by kernel_rfl) noLoops fun ⟨a, b, ()⟩ y h hw => by
  obtain ⟨hc, rfl⟩ := pick_pre h
  exact ws1_val a b
noncomputable abbrev consX2 : List (FuncId × Con) := [(I.wire_Right_1, .pure (pureOf [caseWr1])), (I.wire_Same_1, .pure (pureOf [caseWs1]))] ++ consX1
theorem consX2_ok : ∀ x ∈ consX2, HoldsC P0 x.1 x.2 := by
  intro x hx
  rcases List.mem_append.1 hx with hx | hx
  · simp at hx
    rcases hx with rfl | rfl
    · exact ⟨pureOf_holds (by simp; exact wr1_ok), C.wire_Right_1⟩
    · exact ⟨pureOf_holds (by simp; exact ws1_ok), C.wire_Same_1⟩
  · exact consX1_ok x hx
theorem widx_rd {R : Type} (a : List Ent) (f n i : Int) (K : Ex → St → Option R) : roundK (env consX2) H.slices_IndexFunc_api_Entry_api_Entry 0 (LPof []) V.slices_IndexFunc_api_Entry_api_Entry_2 L.slices_IndexFunc_api_Entry_api_Entry_2 ⟨[(0, .vl entT a), (1, .fn (.func I.wire_Right_1) [] []), (4, .int .i64 f), (7, .int .i64 n), (8, .int .i64 i)], [], 0⟩ K = bif decide (i < n) then bif decide ((0 : Int) ≤ i) && decide (i < (↑a.length : Int)) then bif badE (a.getD i.toNat entT.zero) then K Ex.ret { slots := [(0, AV.vl ((Ty.int IntKind.i64).pair ((Ty.int IntKind.i64).pair ((Ty.int IntKind.i64).pair ((Ty.int IntKind.i64).pair (recTy.sl.pair (Ty.str.pair ((Ty.int IntKind.i64).pair ((Ty.int IntKind.i64).pair ((Ty.int IntKind.i64).pair ((Ty.int IntKind.u32).pair confTy)))))))))) a), (1, AV.fn (Fn.func 67) [] []), (4, AV.int IntKind.i64 i), (7, AV.int IntKind.i64 n), (8, AV.int IntKind.i64 i)], objs := [], nx := 0 } else K Ex.normal { slots := [(0, AV.vl ((Ty.int IntKind.i64).pair ((Ty.int IntKind.i64).pair ((Ty.int IntKind.i64).pair ((Ty.int IntKind.i64).pair (recTy.sl.pair (Ty.str.pair ((Ty.int IntKind.i64).pair ((Ty.int IntKind.i64).pair ((Ty.int IntKind.i64).pair ((Ty.int IntKind.u32).pair confTy)))))))))) a), (1, AV.fn (Fn.func 67) [] []), (4, AV.int IntKind.i64 f), (7, AV.int IntKind.i64 n), (8, AV.int IntKind.i64 (IntKind.i64.wrap (i + (1 : Int))))], objs := [], nx := 0 } else none else K (Ex.exit 0) { slots := [(0, AV.vl ((Ty.int IntKind.i64).pair ((Ty.int IntKind.i64).pair ((Ty.int IntKind.i64).pair ((Ty.int IntKind.i64).pair (recTy.sl.pair (Ty.str.pair ((Ty.int IntKind.i64).pair ((Ty.int IntKind.i64).pair ((Ty.int IntKind.i64).pair ((Ty.int IntKind.u32).pair confTy)))))))))) a), (1, AV.fn (Fn.func 67) [] []), (4, AV.int IntKind.i64 f), (7, AV.int IntKind.i64 n), (8, AV.int IntKind.i64 i)], objs := [], nx := 0 } := by kernel_rfl

theorem weqf_rd {R : Type} (a b : List Ent) (f : Bool) (n i : Int) (K : Ex → St → Option R) : roundK (env consX2) H.slices_EqualFunc_api_Entry_api_Entry_api_Entry_api_Entry 0 (LPof []) V.slices_EqualFunc_api_Entry_api_Entry_api_Entry_api_Entry_4 L.slices_EqualFunc_api_Entry_api_Entry_api_Entry_api_Entry_4 ⟨[(1, .vl entT b), (2, .fn (.func I.wire_Same_1) [] []), (6, .bool f), (15, .vl entT a), (16, .int .i64 n), (17, .int .i64 i)], [], 0⟩ K = bif decide (i < n) then bif decide ((0 : Int) ≤ i) && decide (i < (↑a.length : Int)) then bif decide ((0 : Int) ≤ i) && decide (i < (↑b.length : Int)) then bif !decide (a.getD i.toNat entT.zero = b.getD i.toNat entT.zero) then K Ex.ret { slots := [(1, AV.vl ((Ty.int IntKind.i64).pair ((Ty.int IntKind.i64).pair ((Ty.int IntKind.i64).pair ((Ty.int IntKind.i64).pair (recTy.sl.pair (Ty.str.pair ((Ty.int IntKind.i64).pair ((Ty.int IntKind.i64).pair ((Ty.int IntKind.i64).pair ((Ty.int IntKind.u32).pair confTy)))))))))) b), (2, AV.fn (Fn.func 79) [] []), (6, AV.bool false), (15, AV.vl ((Ty.int IntKind.i64).pair ((Ty.int IntKind.i64).pair ((Ty.int IntKind.i64).pair ((Ty.int IntKind.i64).pair (recTy.sl.pair (Ty.str.pair ((Ty.int IntKind.i64).pair ((Ty.int IntKind.i64).pair ((Ty.int IntKind.i64).pair ((Ty.int IntKind.u32).pair confTy)))))))))) a), (16, AV.int IntKind.i64 n), (17, AV.int IntKind.i64 i)], objs := [], nx := 0 } else K Ex.normal { slots := [(1, AV.vl ((Ty.int IntKind.i64).pair ((Ty.int IntKind.i64).pair ((Ty.int IntKind.i64).pair ((Ty.int IntKind.i64).pair (recTy.sl.pair (Ty.str.pair ((Ty.int IntKind.i64).pair ((Ty.int IntKind.i64).pair ((Ty.int IntKind.i64).pair ((Ty.int IntKind.u32).pair confTy)))))))))) b), (2, AV.fn (Fn.func 79) [] []), (6, AV.bool f), (15, AV.vl ((Ty.int IntKind.i64).pair ((Ty.int IntKind.i64).pair ((Ty.int IntKind.i64).pair ((Ty.int IntKind.i64).pair (recTy.sl.pair (Ty.str.pair ((Ty.int IntKind.i64).pair ((Ty.int IntKind.i64).pair ((Ty.int IntKind.i64).pair ((Ty.int IntKind.u32).pair confTy)))))))))) a), (16, AV.int IntKind.i64 n), (17, AV.int IntKind.i64 (IntKind.i64.wrap (i + (1 : Int))))], objs := [], nx := 0 } else none else none else K (Ex.exit 0) { slots := [(1, AV.vl ((Ty.int IntKind.i64).pair ((Ty.int IntKind.i64).pair ((Ty.int IntKind.i64).pair ((Ty.int IntKind.i64).pair (recTy.sl.pair (Ty.str.pair ((Ty.int IntKind.i64).pair ((Ty.int IntKind.i64).pair ((Ty.int IntKind.i64).pair ((Ty.int IntKind.u32).pair confTy)))))))))) b), (2, AV.fn (Fn.func 79) [] []), (6, AV.bool f), (15, AV.vl ((Ty.int IntKind.i64).pair ((Ty.int IntKind.i64).pair ((Ty.int IntKind.i64).pair ((Ty.int IntKind.i64).pair (recTy.sl.pair (Ty.str.pair ((Ty.int IntKind.i64).pair ((Ty.int IntKind.i64).pair ((Ty.int IntKind.i64).pair ((Ty.int IntKind.u32).pair confTy)))))))))) a), (16, AV.int IntKind.i64 n), (17, AV.int IntKind.i64 i)], objs := [], nx := 0 } := by kernel_rfl

theorem sent_rd {R : Type} (a b : List Ent) (f : Bool) (i : Int) (K : Ex → St → Option R) : roundK (env consX2) H.cooperageref17_SameEntries 0 (LPof []) V.cooperageref17_SameEntries_4 L.cooperageref17_SameEntries_4 ⟨[(0, .vl entT a), (1, .vl entT b), (4, .bool f), (5, .int .i64 i)], [], 0⟩ K = bif decide (i < (↑a.length : Int)) then Option.bind (bif decide ((0 : Int) ≤ i) && decide (i < (↑a.length : Int)) then bif decide ((0 : Int) ≤ i) && decide (i < (↑b.length : Int)) then bif (a.getD i.toNat entT.zero).fst != (b.getD i.toNat entT.zero).fst then some true else bif decide ((0 : Int) ≤ i) && decide (i < (↑a.length : Int)) then bif decide ((0 : Int) ≤ i) && decide (i < (↑b.length : Int)) then some !decide ((a.getD i.toNat entT.zero).snd = (b.getD i.toNat entT.zero).snd) else none else none else none else none) fun v => bif v then K Ex.ret { slots := [(0, AV.vl ((Ty.int IntKind.i64).pair ((Ty.int IntKind.i64).pair ((Ty.int IntKind.i64).pair ((Ty.int IntKind.i64).pair (recTy.sl.pair (Ty.str.pair ((Ty.int IntKind.i64).pair ((Ty.int IntKind.i64).pair ((Ty.int IntKind.i64).pair ((Ty.int IntKind.u32).pair confTy)))))))))) a), (1, AV.vl ((Ty.int IntKind.i64).pair ((Ty.int IntKind.i64).pair ((Ty.int IntKind.i64).pair ((Ty.int IntKind.i64).pair (recTy.sl.pair (Ty.str.pair ((Ty.int IntKind.i64).pair ((Ty.int IntKind.i64).pair ((Ty.int IntKind.i64).pair ((Ty.int IntKind.u32).pair confTy)))))))))) b), (4, AV.bool false), (5, AV.int IntKind.i64 i)], objs := [], nx := 0 } else K Ex.normal { slots := [(0, AV.vl ((Ty.int IntKind.i64).pair ((Ty.int IntKind.i64).pair ((Ty.int IntKind.i64).pair ((Ty.int IntKind.i64).pair (recTy.sl.pair (Ty.str.pair ((Ty.int IntKind.i64).pair ((Ty.int IntKind.i64).pair ((Ty.int IntKind.i64).pair ((Ty.int IntKind.u32).pair confTy)))))))))) a), (1, AV.vl ((Ty.int IntKind.i64).pair ((Ty.int IntKind.i64).pair ((Ty.int IntKind.i64).pair ((Ty.int IntKind.i64).pair (recTy.sl.pair (Ty.str.pair ((Ty.int IntKind.i64).pair ((Ty.int IntKind.i64).pair ((Ty.int IntKind.i64).pair ((Ty.int IntKind.u32).pair confTy)))))))))) b), (4, AV.bool f), (5, AV.int IntKind.i64 (IntKind.i64.wrap (i + (1 : Int))))], objs := [], nx := 0 } else K (Ex.exit 0) { slots := [(0, AV.vl ((Ty.int IntKind.i64).pair ((Ty.int IntKind.i64).pair ((Ty.int IntKind.i64).pair ((Ty.int IntKind.i64).pair (recTy.sl.pair (Ty.str.pair ((Ty.int IntKind.i64).pair ((Ty.int IntKind.i64).pair ((Ty.int IntKind.i64).pair ((Ty.int IntKind.u32).pair confTy)))))))))) a), (1, AV.vl ((Ty.int IntKind.i64).pair ((Ty.int IntKind.i64).pair ((Ty.int IntKind.i64).pair ((Ty.int IntKind.i64).pair (recTy.sl.pair (Ty.str.pair ((Ty.int IntKind.i64).pair ((Ty.int IntKind.i64).pair ((Ty.int IntKind.i64).pair ((Ty.int IntKind.u32).pair confTy)))))))))) b), (4, AV.bool f), (5, AV.int IntKind.i64 i)], objs := [], nx := 0 } := by kernel_rfl

theorem wright_rd {R : Type} (m : Msg) (f : Bool) (i : Int) (K : Ex → St → Option R) : roundK (env consX2) H.cooperagelaw19_right 0 (LPof []) V.cooperagelaw19_right_13 L.cooperagelaw19_right_13 ⟨[(1, .ptr 0 (.tl 0) 0), (2, .bool f), (8, .int .i64 i)], [(0, .arr 11 .bool [] [enc msgT m])], 1⟩ K = bif decide (i < (↑(List.length m.snd.snd.snd.snd.snd.snd.fst) : Int)) then Option.bind (bif decide ((0 : Int) ≤ i) && decide (i < (↑(List.length m.snd.snd.snd.snd.snd.snd.fst) : Int)) then bif !withinB (List.getD m.snd.snd.snd.snd.snd.snd.fst i.toNat entT.zero).fst (0 : Int) (1125899906842624 : Int) then some true else bif decide ((0 : Int) ≤ i) && decide (i < (↑(List.length m.snd.snd.snd.snd.snd.snd.fst) : Int)) then some !rightC (List.getD m.snd.snd.snd.snd.snd.snd.fst i.toNat entT.zero).snd else none else none) fun v => bif v then K Ex.ret { slots := [(1, AV.ptr 0 (Elt.tl 0) 0), (2, AV.bool false), (8, AV.int IntKind.i64 i)], objs := [(0, AObj.arr 11 Ty.bool [] [[AV.int IntKind.i64 m.fst, AV.int IntKind.i64 m.snd.fst, AV.int IntKind.i64 m.snd.snd.fst, AV.int IntKind.i64 m.snd.snd.snd.fst, AV.int IntKind.i64 m.snd.snd.snd.snd.fst, AV.int IntKind.i64 m.snd.snd.snd.snd.snd.fst, AV.vl ((Ty.int IntKind.i64).pair ((Ty.int IntKind.i64).pair ((Ty.int IntKind.i64).pair ((Ty.int IntKind.i64).pair (recTy.sl.pair (Ty.str.pair ((Ty.int IntKind.i64).pair ((Ty.int IntKind.i64).pair ((Ty.int IntKind.i64).pair ((Ty.int IntKind.u32).pair confTy)))))))))) m.snd.snd.snd.snd.snd.snd.fst, AV.int IntKind.i64 m.snd.snd.snd.snd.snd.snd.snd.fst, AV.bool m.snd.snd.snd.snd.snd.snd.snd.snd.fst, AV.int IntKind.i64 m.snd.snd.snd.snd.snd.snd.snd.snd.snd.fst, AV.vl (Ty.int IntKind.u8) m.snd.snd.snd.snd.snd.snd.snd.snd.snd.snd]])], nx := 1 } else K Ex.normal { slots := [(1, AV.ptr 0 (Elt.tl 0) 0), (2, AV.bool f), (8, AV.int IntKind.i64 (IntKind.i64.wrap (i + (1 : Int))))], objs := [(0, AObj.arr 11 Ty.bool [] [[AV.int IntKind.i64 m.fst, AV.int IntKind.i64 m.snd.fst, AV.int IntKind.i64 m.snd.snd.fst, AV.int IntKind.i64 m.snd.snd.snd.fst, AV.int IntKind.i64 m.snd.snd.snd.snd.fst, AV.int IntKind.i64 m.snd.snd.snd.snd.snd.fst, AV.vl ((Ty.int IntKind.i64).pair ((Ty.int IntKind.i64).pair ((Ty.int IntKind.i64).pair ((Ty.int IntKind.i64).pair (recTy.sl.pair (Ty.str.pair ((Ty.int IntKind.i64).pair ((Ty.int IntKind.i64).pair ((Ty.int IntKind.i64).pair ((Ty.int IntKind.u32).pair confTy)))))))))) m.snd.snd.snd.snd.snd.snd.fst, AV.int IntKind.i64 m.snd.snd.snd.snd.snd.snd.snd.fst, AV.bool m.snd.snd.snd.snd.snd.snd.snd.snd.fst, AV.int IntKind.i64 m.snd.snd.snd.snd.snd.snd.snd.snd.snd.fst, AV.vl (Ty.int IntKind.u8) m.snd.snd.snd.snd.snd.snd.snd.snd.snd.snd]])], nx := 1 } else K (Ex.exit 0) { slots := [(1, AV.ptr 0 (Elt.tl 0) 0), (2, AV.bool f), (8, AV.int IntKind.i64 i)], objs := [(0, AObj.arr 11 Ty.bool [] [[AV.int IntKind.i64 m.fst, AV.int IntKind.i64 m.snd.fst, AV.int IntKind.i64 m.snd.snd.fst, AV.int IntKind.i64 m.snd.snd.snd.fst, AV.int IntKind.i64 m.snd.snd.snd.snd.fst, AV.int IntKind.i64 m.snd.snd.snd.snd.snd.fst, AV.vl ((Ty.int IntKind.i64).pair ((Ty.int IntKind.i64).pair ((Ty.int IntKind.i64).pair ((Ty.int IntKind.i64).pair (recTy.sl.pair (Ty.str.pair ((Ty.int IntKind.i64).pair ((Ty.int IntKind.i64).pair ((Ty.int IntKind.i64).pair ((Ty.int IntKind.u32).pair confTy)))))))))) m.snd.snd.snd.snd.snd.snd.fst, AV.int IntKind.i64 m.snd.snd.snd.snd.snd.snd.snd.fst, AV.bool m.snd.snd.snd.snd.snd.snd.snd.snd.fst, AV.int IntKind.i64 m.snd.snd.snd.snd.snd.snd.snd.snd.snd.fst, AV.vl (Ty.int IntKind.u8) m.snd.snd.snd.snd.snd.snd.snd.snd.snd.snd]])], nx := 1 } := by kernel_rfl

theorem wbig_rd {R : Type} (m : Msg) (f : Bool) (i : Int) (K : Ex → St → Option R) : roundK (env consX2) H.cooperagelaw19_Big 0 (LPof []) V.cooperagelaw19_Big_2 L.cooperagelaw19_Big_2 ⟨[(1, .ptr 0 (.tl 0) 0), (2, .bool f), (3, .int .i64 i)], [(0, .arr 11 .bool [] [enc msgT m])], 1⟩ K = bif decide (i < (↑(List.length m.snd.snd.snd.snd.snd.snd.fst) : Int)) then bif decide ((0 : Int) ≤ i) && decide (i < (↑(List.length m.snd.snd.snd.snd.snd.snd.fst) : Int)) then Option.bind (bif bigC (List.getD m.snd.snd.snd.snd.snd.snd.fst i.toNat entT.zero).snd then some true else bif decide ((0 : Int) ≤ i) && decide (i < (↑(List.length m.snd.snd.snd.snd.snd.snd.fst) : Int)) then bif decide ((↑(List.length (List.getD m.snd.snd.snd.snd.snd.snd.fst i.toNat entT.zero).snd.snd.snd.snd.fst) : Int) > (6 : Int)) then some true else some (decide (i > (12 : Int))) else none) fun v => bif v then K Ex.ret { slots := [(1, AV.ptr 0 (Elt.tl 0) 0), (2, AV.bool true), (3, AV.int IntKind.i64 i)], objs := [(0, AObj.arr 11 Ty.bool [] [[AV.int IntKind.i64 m.fst, AV.int IntKind.i64 m.snd.fst, AV.int IntKind.i64 m.snd.snd.fst, AV.int IntKind.i64 m.snd.snd.snd.fst, AV.int IntKind.i64 m.snd.snd.snd.snd.fst, AV.int IntKind.i64 m.snd.snd.snd.snd.snd.fst, AV.vl ((Ty.int IntKind.i64).pair ((Ty.int IntKind.i64).pair ((Ty.int IntKind.i64).pair ((Ty.int IntKind.i64).pair (recTy.sl.pair (Ty.str.pair ((Ty.int IntKind.i64).pair ((Ty.int IntKind.i64).pair ((Ty.int IntKind.i64).pair ((Ty.int IntKind.u32).pair confTy)))))))))) m.snd.snd.snd.snd.snd.snd.fst, AV.int IntKind.i64 m.snd.snd.snd.snd.snd.snd.snd.fst, AV.bool m.snd.snd.snd.snd.snd.snd.snd.snd.fst, AV.int IntKind.i64 m.snd.snd.snd.snd.snd.snd.snd.snd.snd.fst, AV.vl (Ty.int IntKind.u8) m.snd.snd.snd.snd.snd.snd.snd.snd.snd.snd]])], nx := 1 } else K Ex.normal { slots := [(1, AV.ptr 0 (Elt.tl 0) 0), (2, AV.bool f), (3, AV.int IntKind.i64 (IntKind.i64.wrap (i + (1 : Int))))], objs := [(0, AObj.arr 11 Ty.bool [] [[AV.int IntKind.i64 m.fst, AV.int IntKind.i64 m.snd.fst, AV.int IntKind.i64 m.snd.snd.fst, AV.int IntKind.i64 m.snd.snd.snd.fst, AV.int IntKind.i64 m.snd.snd.snd.snd.fst, AV.int IntKind.i64 m.snd.snd.snd.snd.snd.fst, AV.vl ((Ty.int IntKind.i64).pair ((Ty.int IntKind.i64).pair ((Ty.int IntKind.i64).pair ((Ty.int IntKind.i64).pair (recTy.sl.pair (Ty.str.pair ((Ty.int IntKind.i64).pair ((Ty.int IntKind.i64).pair ((Ty.int IntKind.i64).pair ((Ty.int IntKind.u32).pair confTy)))))))))) m.snd.snd.snd.snd.snd.snd.fst, AV.int IntKind.i64 m.snd.snd.snd.snd.snd.snd.snd.fst, AV.bool m.snd.snd.snd.snd.snd.snd.snd.snd.fst, AV.int IntKind.i64 m.snd.snd.snd.snd.snd.snd.snd.snd.snd.fst, AV.vl (Ty.int IntKind.u8) m.snd.snd.snd.snd.snd.snd.snd.snd.snd.snd]])], nx := 1 } else none else K (Ex.exit 0) { slots := [(1, AV.ptr 0 (Elt.tl 0) 0), (2, AV.bool f), (3, AV.int IntKind.i64 i)], objs := [(0, AObj.arr 11 Ty.bool [] [[AV.int IntKind.i64 m.fst, AV.int IntKind.i64 m.snd.fst, AV.int IntKind.i64 m.snd.snd.fst, AV.int IntKind.i64 m.snd.snd.snd.fst, AV.int IntKind.i64 m.snd.snd.snd.snd.fst, AV.int IntKind.i64 m.snd.snd.snd.snd.snd.fst, AV.vl ((Ty.int IntKind.i64).pair ((Ty.int IntKind.i64).pair ((Ty.int IntKind.i64).pair ((Ty.int IntKind.i64).pair (recTy.sl.pair (Ty.str.pair ((Ty.int IntKind.i64).pair ((Ty.int IntKind.i64).pair ((Ty.int IntKind.i64).pair ((Ty.int IntKind.u32).pair confTy)))))))))) m.snd.snd.snd.snd.snd.snd.fst, AV.int IntKind.i64 m.snd.snd.snd.snd.snd.snd.snd.fst, AV.bool m.snd.snd.snd.snd.snd.snd.snd.snd.fst, AV.int IntKind.i64 m.snd.snd.snd.snd.snd.snd.snd.snd.snd.fst, AV.vl (Ty.int IntKind.u8) m.snd.snd.snd.snd.snd.snd.snd.snd.snd.snd]])], nx := 1 } := by kernel_rfl

def atE (q : Ent → Bool) (l : List Ent) (i : Nat) : Bool := q (l.getD i entT.zero)
def difE (a b : List Ent) (i : Nat) : Bool := !(decide (a.getD i entT.zero = b.getD i entT.zero))
def widxSt (a : List Ent) (f n : Int) (i : Nat) : St := ⟨[(0, .vl entT a), (1, .fn (.func I.wire_Right_1) [] []), (4, .int .i64 f), (7, .int .i64 n), (8, .int .i64 i)], [], 0⟩
abbrev widxLC : LoopC := LoopC.of ⟨[(0, .vl entT), (1, .fn I.wire_Right_1 []), (4, .int .i64), (7, .int .i64), (8, .int .i64)], []⟩ (fun x => decide (x.1.2.2.2.1 = (List.length x.1.1 : Int)) && decide (x.1.2.2.2.2.1 = (0 : Int)))
    fun x => [((firstFrom (atE badE x.1.1) 0 (List.length x.1.1)).isSome, .ret, widxSt x.1.1 ((firstFrom (atE badE x.1.1) 0 (List.length x.1.1)).getD 0 : Nat) (List.length x.1.1) ((firstFrom (atE badE x.1.1) 0 (List.length x.1.1)).getD 0)), (true, .exit 0, widxSt x.1.1 x.1.2.2.1 (List.length x.1.1) (List.length x.1.1))]
theorem widx_lok : LoopOK P0 H.slices_IndexFunc_api_Entry_api_Entry 0 L.slices_IndexFunc_api_Entry_api_Entry_2 widxLC :=
  loop_ok_of (env_ok consX2_ok) glob0 mixed0 noLoops V.slices_IndexFunc_api_Entry_api_Entry_2 (by decide) fun ⟨⟨a, _, f, n, i, _⟩, _⟩ h hw => by
    simp only [Bool.and_eq_true, decide_eq_true_eq] at h
    obtain ⟨h3, h2⟩ := h
    subst h2; subst h3
    have hm : List.length a ≤ maxL := hw.1.1.1
    unfold maxL at hm
    refine ⟨_, Eq.trans (search_rounds (S := widxSt a f (List.length a)) (T := fun i => widxSt a i (List.length a) i) (p := atE badE a) (n := List.length a) (e1 := .ret) (e2 := .exit 0) (s2 := widxSt a f (List.length a) (List.length a)) (by simp) (by simp) (fun i hi K => ?_) (fun K => ?_) _ (List.length a) 0 (by omega)) search_pick⟩
    · unfold widxSt
      rw [widx_rd, cond_pos (by omega), cond_pos2 (by omega) (by omega), Int.toNat_natCast, wrap64 (by omega) (by omega)]
      rfl
    · unfold widxSt
      rw [widx_rd, cond_neg (by omega)]
def weqfSt (a b : List Ent) (f : Bool) (n : Int) (i : Nat) : St := ⟨[(1, .vl entT b), (2, .fn (.func I.wire_Same_1) [] []), (6, .bool f), (15, .vl entT a), (16, .int .i64 n), (17, .int .i64 i)], [], 0⟩
abbrev weqfLC : LoopC := LoopC.of ⟨[(1, .vl entT), (2, .fn I.wire_Same_1 []), (6, .bool), (15, .vl entT), (16, .int .i64), (17, .int .i64)], []⟩ (fun x => decide (List.length x.1.1 = List.length x.1.2.2.2.1) && decide (x.1.2.2.2.2.1 = (List.length x.1.2.2.2.1 : Int)) && decide (x.1.2.2.2.2.2.1 = (0 : Int)))
    fun x => [((firstFrom (difE x.1.2.2.2.1 x.1.1) 0 (List.length x.1.2.2.2.1)).isSome, .ret, weqfSt x.1.2.2.2.1 x.1.1 false (List.length x.1.2.2.2.1) ((firstFrom (difE x.1.2.2.2.1 x.1.1) 0 (List.length x.1.2.2.2.1)).getD 0)), (true, .exit 0, weqfSt x.1.2.2.2.1 x.1.1 x.1.2.2.1 (List.length x.1.2.2.2.1) (List.length x.1.2.2.2.1))]
theorem weqf_lok : LoopOK P0 H.slices_EqualFunc_api_Entry_api_Entry_api_Entry_api_Entry 0 L.slices_EqualFunc_api_Entry_api_Entry_api_Entry_api_Entry_4 weqfLC :=
  loop_ok_of (env_ok consX2_ok) glob0 mixed0 noLoops V.slices_EqualFunc_api_Entry_api_Entry_api_Entry_api_Entry_4 (by decide) fun ⟨⟨b, _, f, a, n, i, _⟩, _⟩ h hw => by
    simp only [Bool.and_eq_true, decide_eq_true_eq] at h
    obtain ⟨⟨h1, h3⟩, h2⟩ := h
    subst h2; subst h3
    have hm : List.length a ≤ maxL := hw.1.2.2.2.1.1
    unfold maxL at hm
    refine ⟨_, Eq.trans (search_rounds (S := weqfSt a b f (List.length a)) (T := weqfSt a b false (List.length a)) (p := difE a b) (n := List.length a) (e1 := .ret) (e2 := .exit 0) (s2 := weqfSt a b f (List.length a) (List.length a)) (by simp) (by simp) (fun i hi K => ?_) (fun K => ?_) _ (List.length a) 0 (by omega)) search_pick⟩
    · unfold weqfSt
      rw [weqf_rd, cond_pos (by omega), cond_pos2 (by omega) (by omega), cond_pos2 (by omega) (by omega), Int.toNat_natCast, wrap64 (by omega) (by omega)]
      rfl
    · unfold weqfSt
      rw [weqf_rd, cond_neg (by omega)]
def sentSt (a b : List Ent) (f : Bool) (i : Nat) : St := ⟨[(0, .vl entT a), (1, .vl entT b), (4, .bool f), (5, .int .i64 i)], [], 0⟩
abbrev sentLC : LoopC := LoopC.of ⟨[(0, .vl entT), (1, .vl entT), (4, .bool), (5, .int .i64)], []⟩ (fun x => decide (List.length x.1.2.1 = List.length x.1.1) && decide (x.1.2.2.2.1 = (0 : Int)))
    fun x => [((firstFrom (difE x.1.1 x.1.2.1) 0 (List.length x.1.1)).isSome, .ret, sentSt x.1.1 x.1.2.1 false ((firstFrom (difE x.1.1 x.1.2.1) 0 (List.length x.1.1)).getD 0)), (true, .exit 0, sentSt x.1.1 x.1.2.1 x.1.2.2.1 (List.length x.1.1))]
theorem ent_dif (a b : Ent) : (bif a.1 != b.1 then some true else some !decide (a.2 = b.2)) = some !decide (a = b) := by
  obtain ⟨a1, a2⟩ := a
  obtain ⟨b1, b2⟩ := b
  have e : decide ((a1, a2) = (b1, b2)) = ((a1 == b1) && decide (a2 = b2)) := by
    apply Bool.eq_iff_iff.2
    simp only [decide_eq_true_eq, Bool.and_eq_true, beq_iff_eq, Prod.mk.injEq]
  rw [e]
  unfold bne
  simp only
  cases a1 == b1 <;> rfl
theorem sent_lok : LoopOK P0 H.cooperageref17_SameEntries 0 L.cooperageref17_SameEntries_4 sentLC :=
  loop_ok_of (env_ok consX2_ok) glob0 mixed0 noLoops V.cooperageref17_SameEntries_4 (by decide) fun ⟨⟨a, b, f, i, _⟩, _⟩ h hw => by
    simp only [Bool.and_eq_true, decide_eq_true_eq] at h
    obtain ⟨h1, h2⟩ := h
    subst h2
    have hm : List.length a ≤ maxL := hw.1.1.1
    unfold maxL at hm
    refine ⟨_, Eq.trans (search_rounds (S := sentSt a b f) (T := sentSt a b false) (p := difE a b) (n := List.length a) (e1 := .ret) (e2 := .exit 0) (s2 := sentSt a b f (List.length a)) (by simp) (by simp) (fun i hi K => ?_) (fun K => ?_) _ (List.length a) 0 (by omega)) search_pick⟩
    · unfold sentSt
      rw [sent_rd, cond_pos (by omega), cond_pos2 (by omega) (by omega), cond_pos2 (by omega) (by omega), cond_pos2 (by omega) (by omega), cond_pos2 (by omega) (by omega), Int.toNat_natCast, ent_dif, wrap64 (by omega) (by omega)]
      rfl
    · unfold sentSt
      rw [sent_rd, cond_neg (by omega)]
def wrSt (y : patsDen msgP) (f : Bool) (i : Nat) : St := ⟨[(1, .ptr 0 (.tl 0) 0), (2, .bool f), (8, .int .i64 i)], [(0, .arr 11 .bool [] [patsMk msgP y])], 1⟩
abbrev wrLC : LoopC := LoopC.of ⟨[(1, .lit (.ptr 0 (.tl 0) 0)), (2, .bool), (8, .int .i64)], [.box 11 [msgP]]⟩ (fun x => decide (x.1.2.2.1 = (0 : Int)))
    fun x => [((firstFrom (atE badE x.2.1.1.2.2.2.2.2.2.1) 0 (List.length x.2.1.1.2.2.2.2.2.2.1)).isSome, .ret, wrSt x.2.1.1 false ((firstFrom (atE badE x.2.1.1.2.2.2.2.2.2.1) 0 (List.length x.2.1.1.2.2.2.2.2.2.1)).getD 0)),
      (true, .exit 0, wrSt x.2.1.1 x.1.2.1 (List.length x.2.1.1.2.2.2.2.2.2.1))]
theorem wr_lok : LoopOK P0 H.cooperagelaw19_right 0 L.cooperagelaw19_right_13 wrLC :=
  loop_ok_of (env_ok consX2_ok) glob0 mixed0 noLoops V.cooperagelaw19_right_13 (by decide) fun ⟨⟨_, f, i, _⟩, ⟨⟨m1, m2, m3, m4, m5, m6, r, m8, ok, m10, d, _⟩, _⟩, _⟩ h hw => by
    obtain rfl := of_decide_eq_true h
    have hm : List.length r ≤ maxL := hw.2.1.1.2.2.2.2.2.2.1.1
    unfold maxL at hm
    have rd := fun (f : Bool) (i : Int) (K : Ex → St → Option (Ex × St)) => wright_rd (m1, m2, m3, m4, m5, m6, r, m8, ok, m10, d) f i K
    refine ⟨_, Eq.trans (search_rounds (S := wrSt (m1, m2, m3, m4, m5, m6, r, m8, ok, m10, d, ()) f) (T := wrSt (m1, m2, m3, m4, m5, m6, r, m8, ok, m10, d, ()) false) (p := atE badE r) (n := List.length r) (e1 := .ret) (e2 := .exit 0) (s2 := wrSt (m1, m2, m3, m4, m5, m6, r, m8, ok, m10, d, ()) f (List.length r)) (by simp) (by simp) (fun i hi K => ?_) (fun K => ?_) _ (List.length r) 0 (by omega)) search_pick⟩
    · refine (rd f i K).trans ?_
      simp only
      rw [cond_pos (by omega), cond_pos2 (by omega) (by omega), cond_pos2 (by omega) (by omega), or_bif, Int.toNat_natCast, wrap64 (by omega) (by omega)]
      rfl
    · refine (rd f _ K).trans ?_
      rw [cond_neg (by simp)]
      rfl
def bigAt (l : List Ent) (i : Nat) : Bool := bigC (l.getD i entT.zero).2 || (decide (((List.length (l.getD i entT.zero).2.2.2.2.1 : Nat) : Int) > 6) || decide ((i : Int) > 12))
def wbSt (y : patsDen msgP) (f : Bool) (i : Nat) : St := ⟨[(1, .ptr 0 (.tl 0) 0), (2, .bool f), (3, .int .i64 i)], [(0, .arr 11 .bool [] [patsMk msgP y])], 1⟩
abbrev wbLC : LoopC := LoopC.of ⟨[(1, .lit (.ptr 0 (.tl 0) 0)), (2, .bool), (3, .int .i64)], [.box 11 [msgP]]⟩ (fun x => decide (x.1.2.2.1 = (0 : Int)))
    fun x => [((firstFrom (bigAt x.2.1.1.2.2.2.2.2.2.1) 0 (List.length x.2.1.1.2.2.2.2.2.2.1)).isSome, .ret, wbSt x.2.1.1 true ((firstFrom (bigAt x.2.1.1.2.2.2.2.2.2.1) 0 (List.length x.2.1.1.2.2.2.2.2.2.1)).getD 0)),
      (true, .exit 0, wbSt x.2.1.1 x.1.2.1 (List.length x.2.1.1.2.2.2.2.2.2.1))]
theorem or3_bif {a b c : Bool} : (bif a then some true else bif b then some true else some c) = some (a || (b || c)) := by cases a <;> cases b <;> rfl
theorem wb_lok : LoopOK P0 H.cooperagelaw19_Big 0 L.cooperagelaw19_Big_2 wbLC :=
  loop_ok_of (env_ok consX2_ok) glob0 mixed0 noLoops V.cooperagelaw19_Big_2 (by decide) fun ⟨⟨_, f, i, _⟩, ⟨⟨m1, m2, m3, m4, m5, m6, r, m8, ok, m10, d, _⟩, _⟩, _⟩ h hw => by
    obtain rfl := of_decide_eq_true h
    have hm : List.length r ≤ maxL := hw.2.1.1.2.2.2.2.2.2.1.1
    unfold maxL at hm
    have rd := fun (f : Bool) (i : Int) (K : Ex → St → Option (Ex × St)) => wbig_rd (m1, m2, m3, m4, m5, m6, r, m8, ok, m10, d) f i K
    refine ⟨_, Eq.trans (search_rounds (S := wbSt (m1, m2, m3, m4, m5, m6, r, m8, ok, m10, d, ()) f) (T := wbSt (m1, m2, m3, m4, m5, m6, r, m8, ok, m10, d, ()) true) (p := bigAt r) (n := List.length r) (e1 := .ret) (e2 := .exit 0) (s2 := wbSt (m1, m2, m3, m4, m5, m6, r, m8, ok, m10, d, ()) f (List.length r)) (by simp) (by simp) (fun i hi K => ?_) (fun K => ?_) _ (List.length r) 0 (by omega)) search_pick⟩
    · refine (rd f i K).trans ?_
      simp only
      rw [cond_pos (by omega), cond_pos2 (by omega) (by omega), cond_pos2 (by omega) (by omega), or3_bif, Int.toNat_natCast, wrap64 (by omega) (by omega)]
      rfl
    · refine (rd f _ K).trans ?_
      rw [cond_neg (by simp)]
      rfl
theorem widx_ev (a : List Ent) : evFn (env consX2) H.slices_IndexFunc_api_Entry_api_Entry (LPof [(2, widxLC)]) F.slices_IndexFunc_api_Entry_api_Entry [.vl entT a, .fn (.func I.wire_Right_1) [] []] [] (finT [.int .i64]) = bif decide ((↑a.length : Int) = (↑a.length : Int)) && true && (firstFrom (atE badE a) 0 a.length).isSome then some ((↑((firstFrom (atE badE a) 0 a.length).getD 0) : Int), ()) else bif decide ((↑a.length : Int) = (↑a.length : Int)) && true && true then some ((-1 : Int), ()) else none := by kernel_rfl

theorem weqf_ev (a b : List Ent) : evFn (env consX2) H.slices_EqualFunc_api_Entry_api_Entry_api_Entry_api_Entry (LPof [(4, weqfLC)]) F.slices_EqualFunc_api_Entry_api_Entry_api_Entry_api_Entry [.vl entT a, .vl entT b, .fn (.func I.wire_Same_1) [] []] [] (finT [.bool]) = bif (↑a.length : Int) != (↑b.length : Int) then some (false, ()) else bif decide (b.length = a.length) && decide ((↑a.length : Int) = (↑a.length : Int)) && true && (firstFrom (difE a b) 0 a.length).isSome then some (false, ()) else bif decide (b.length = a.length) && decide ((↑a.length : Int) = (↑a.length : Int)) && true && true then some (true, ()) else none := by kernel_rfl

theorem sent_ev (a b : List Ent) : evFn (env consX2) H.cooperageref17_SameEntries (LPof [(4, sentLC)]) F.cooperageref17_SameEntries [.vl entT a, .vl entT b] [] (finT [.bool]) = bif (↑a.length : Int) != (↑b.length : Int) then some (false, ()) else bif decide (b.length = a.length) && true && (firstFrom (difE a b) 0 a.length).isSome then some (false, ()) else bif decide (b.length = a.length) && true && true then some (true, ()) else none := by kernel_rfl

theorem wbig_ev (m : Msg) : evFn (env consX2) H.cooperagelaw19_Big (LPof [(2, wbLC)]) F.cooperagelaw19_Big [valOf msgT m] [] (finT [.bool]) = bif (firstFrom (bigAt m.snd.snd.snd.snd.snd.snd.fst) 0 (List.length m.snd.snd.snd.snd.snd.snd.fst)).isSome then some (true, ()) else some (decide ((↑(List.length m.snd.snd.snd.snd.snd.snd.snd.snd.snd.snd) : Int) > (500 : Int)), ()) := by kernel_rfl

theorem wrl_ev (m : Msg) : evFn (env consX2) H.cooperagelaw19_right (LPof [(13, wrLC)]) F.cooperagelaw19_right [valOf msgT m] [] (finT [.bool]) = Option.bind (bif decide (m.fst < (1 : Int)) then some true else bif decide (m.fst > (7 : Int)) then some true else bif decide (m.snd.fst < (1 : Int)) then some true else bif decide (m.snd.fst > (7 : Int)) then some true else bif decide (m.snd.snd.fst < (1 : Int)) then some true else bif decide (m.snd.snd.fst > (7 : Int)) then some true else bif !withinB m.snd.snd.snd.fst (0 : Int) (1125899906842624 : Int) then some true else bif !withinB m.snd.snd.snd.snd.fst (0 : Int) (1125899906842624 : Int) then some true else bif !withinB m.snd.snd.snd.snd.snd.fst (0 : Int) (1125899906842624 : Int) then some true else bif !withinB m.snd.snd.snd.snd.snd.snd.snd.fst (0 : Int) (1125899906842624 : Int) then some true else some !withinB m.snd.snd.snd.snd.snd.snd.snd.snd.snd.fst (0 : Int) (1125899906842624 : Int)) fun v => bif v then some (false, ()) else Option.bind (bif m.fst == (1 : Int) then some true else some (m.fst == (3 : Int))) fun v => Option.bind (bif m.fst == (2 : Int) then some true else bif m.fst == (4 : Int) then some true else some (m.fst == (6 : Int))) fun v_1 => Option.bind (bif !v then bif !m.fst == (5 : Int) then bif !m.fst == (7 : Int) then bif m.snd.snd.snd.snd.fst != (0 : Int) then some true else bif m.snd.snd.snd.snd.snd.fst != (0 : Int) then some true else bif !m.fst == (5 : Int) then bif decide ((↑(List.length m.snd.snd.snd.snd.snd.snd.fst) : Int) > (0 : Int)) then some true else bif m.snd.snd.snd.snd.snd.snd.snd.fst != (0 : Int) then some true else bif !v_1 then bif m.snd.snd.snd.snd.snd.snd.snd.snd.fst then some true else bif m.fst != (6 : Int) then bif m.snd.snd.snd.snd.snd.snd.snd.snd.snd.fst != (0 : Int) then some true else bif !m.fst == (7 : Int) then some (decide ((↑(List.length m.snd.snd.snd.snd.snd.snd.snd.snd.snd.snd) : Int) > (0 : Int))) else some false else bif !m.fst == (7 : Int) then some (decide ((↑(List.length m.snd.snd.snd.snd.snd.snd.snd.snd.snd.snd) : Int) > (0 : Int))) else some false else bif m.fst != (6 : Int) then bif m.snd.snd.snd.snd.snd.snd.snd.snd.snd.fst != (0 : Int) then some true else bif !m.fst == (7 : Int) then some (decide ((↑(List.length m.snd.snd.snd.snd.snd.snd.snd.snd.snd.snd) : Int) > (0 : Int))) else some false else bif !m.fst == (7 : Int) then some (decide ((↑(List.length m.snd.snd.snd.snd.snd.snd.snd.snd.snd.snd) : Int) > (0 : Int))) else some false else bif !v_1 then bif m.snd.snd.snd.snd.snd.snd.snd.snd.fst then some true else bif m.fst != (6 : Int) then bif m.snd.snd.snd.snd.snd.snd.snd.snd.snd.fst != (0 : Int) then some true else bif !m.fst == (7 : Int) then some (decide ((↑(List.length m.snd.snd.snd.snd.snd.snd.snd.snd.snd.snd) : Int) > (0 : Int))) else some false else bif !m.fst == (7 : Int) then some (decide ((↑(List.length m.snd.snd.snd.snd.snd.snd.snd.snd.snd.snd) : Int) > (0 : Int))) else some false else bif m.fst != (6 : Int) then bif m.snd.snd.snd.snd.snd.snd.snd.snd.snd.fst != (0 : Int) then some true else bif !m.fst == (7 : Int) then some (decide ((↑(List.length m.snd.snd.snd.snd.snd.snd.snd.snd.snd.snd) : Int) > (0 : Int))) else some false else bif !m.fst == (7 : Int) then some (decide ((↑(List.length m.snd.snd.snd.snd.snd.snd.snd.snd.snd.snd) : Int) > (0 : Int))) else some false else bif !m.fst == (5 : Int) then bif decide ((↑(List.length m.snd.snd.snd.snd.snd.snd.fst) : Int) > (0 : Int)) then some true else bif m.snd.snd.snd.snd.snd.snd.snd.fst != (0 : Int) then some true else bif !v_1 then bif m.snd.snd.snd.snd.snd.snd.snd.snd.fst then some true else bif m.fst != (6 : Int) then bif m.snd.snd.snd.snd.snd.snd.snd.snd.snd.fst != (0 : Int) then some true else bif !m.fst == (7 : Int) then some (decide ((↑(List.length m.snd.snd.snd.snd.snd.snd.snd.snd.snd.snd) : Int) > (0 : Int))) else some false else bif !m.fst == (7 : Int) then some (decide ((↑(List.length m.snd.snd.snd.snd.snd.snd.snd.snd.snd.snd) : Int) > (0 : Int))) else some false else bif m.fst != (6 : Int) then bif m.snd.snd.snd.snd.snd.snd.snd.snd.snd.fst != (0 : Int) then some true else bif !m.fst == (7 : Int) then some (decide ((↑(List.length m.snd.snd.snd.snd.snd.snd.snd.snd.snd.snd) : Int) > (0 : Int))) else some false else bif !m.fst == (7 : Int) then some (decide ((↑(List.length m.snd.snd.snd.snd.snd.snd.snd.snd.snd.snd) : Int) > (0 : Int))) else some false else bif !v_1 then bif m.snd.snd.snd.snd.snd.snd.snd.snd.fst then some true else bif m.fst != (6 : Int) then bif m.snd.snd.snd.snd.snd.snd.snd.snd.snd.fst != (0 : Int) then some true else bif !m.fst == (7 : Int) then some (decide ((↑(List.length m.snd.snd.snd.snd.snd.snd.snd.snd.snd.snd) : Int) > (0 : Int))) else some false else bif !m.fst == (7 : Int) then some (decide ((↑(List.length m.snd.snd.snd.snd.snd.snd.snd.snd.snd.snd) : Int) > (0 : Int))) else some false else bif m.fst != (6 : Int) then bif m.snd.snd.snd.snd.snd.snd.snd.snd.snd.fst != (0 : Int) then some true else bif !m.fst == (7 : Int) then some (decide ((↑(List.length m.snd.snd.snd.snd.snd.snd.snd.snd.snd.snd) : Int) > (0 : Int))) else some false else bif !m.fst == (7 : Int) then some (decide ((↑(List.length m.snd.snd.snd.snd.snd.snd.snd.snd.snd.snd) : Int) > (0 : Int))) else some false else bif !m.fst == (5 : Int) then bif decide ((↑(List.length m.snd.snd.snd.snd.snd.snd.fst) : Int) > (0 : Int)) then some true else bif m.snd.snd.snd.snd.snd.snd.snd.fst != (0 : Int) then some true else bif !v_1 then bif m.snd.snd.snd.snd.snd.snd.snd.snd.fst then some true else bif m.fst != (6 : Int) then bif m.snd.snd.snd.snd.snd.snd.snd.snd.snd.fst != (0 : Int) then some true else bif !m.fst == (7 : Int) then some (decide ((↑(List.length m.snd.snd.snd.snd.snd.snd.snd.snd.snd.snd) : Int) > (0 : Int))) else some false else bif !m.fst == (7 : Int) then some (decide ((↑(List.length m.snd.snd.snd.snd.snd.snd.snd.snd.snd.snd) : Int) > (0 : Int))) else some false else bif m.fst != (6 : Int) then bif m.snd.snd.snd.snd.snd.snd.snd.snd.snd.fst != (0 : Int) then some true else bif !m.fst == (7 : Int) then some (decide ((↑(List.length m.snd.snd.snd.snd.snd.snd.snd.snd.snd.snd) : Int) > (0 : Int))) else some false else bif !m.fst == (7 : Int) then some (decide ((↑(List.length m.snd.snd.snd.snd.snd.snd.snd.snd.snd.snd) : Int) > (0 : Int))) else some false else bif !v_1 then bif m.snd.snd.snd.snd.snd.snd.snd.snd.fst then some true else bif m.fst != (6 : Int) then bif m.snd.snd.snd.snd.snd.snd.snd.snd.snd.fst != (0 : Int) then some true else bif !m.fst == (7 : Int) then some (decide ((↑(List.length m.snd.snd.snd.snd.snd.snd.snd.snd.snd.snd) : Int) > (0 : Int))) else some false else bif !m.fst == (7 : Int) then some (decide ((↑(List.length m.snd.snd.snd.snd.snd.snd.snd.snd.snd.snd) : Int) > (0 : Int))) else some false else bif m.fst != (6 : Int) then bif m.snd.snd.snd.snd.snd.snd.snd.snd.snd.fst != (0 : Int) then some true else bif !m.fst == (7 : Int) then some (decide ((↑(List.length m.snd.snd.snd.snd.snd.snd.snd.snd.snd.snd) : Int) > (0 : Int))) else some false else bif !m.fst == (7 : Int) then some (decide ((↑(List.length m.snd.snd.snd.snd.snd.snd.snd.snd.snd.snd) : Int) > (0 : Int))) else some false else bif !m.fst == (5 : Int) then bif decide ((↑(List.length m.snd.snd.snd.snd.snd.snd.fst) : Int) > (0 : Int)) then some true else bif m.snd.snd.snd.snd.snd.snd.snd.fst != (0 : Int) then some true else bif !v_1 then bif m.snd.snd.snd.snd.snd.snd.snd.snd.fst then some true else bif m.fst != (6 : Int) then bif m.snd.snd.snd.snd.snd.snd.snd.snd.snd.fst != (0 : Int) then some true else bif !m.fst == (7 : Int) then some (decide ((↑(List.length m.snd.snd.snd.snd.snd.snd.snd.snd.snd.snd) : Int) > (0 : Int))) else some false else bif !m.fst == (7 : Int) then some (decide ((↑(List.length m.snd.snd.snd.snd.snd.snd.snd.snd.snd.snd) : Int) > (0 : Int))) else some false else bif m.fst != (6 : Int) then bif m.snd.snd.snd.snd.snd.snd.snd.snd.snd.fst != (0 : Int) then some true else bif !m.fst == (7 : Int) then some (decide ((↑(List.length m.snd.snd.snd.snd.snd.snd.snd.snd.snd.snd) : Int) > (0 : Int))) else some false else bif !m.fst == (7 : Int) then some (decide ((↑(List.length m.snd.snd.snd.snd.snd.snd.snd.snd.snd.snd) : Int) > (0 : Int))) else some false else bif !v_1 then bif m.snd.snd.snd.snd.snd.snd.snd.snd.fst then some true else bif m.fst != (6 : Int) then bif m.snd.snd.snd.snd.snd.snd.snd.snd.snd.fst != (0 : Int) then some true else bif !m.fst == (7 : Int) then some (decide ((↑(List.length m.snd.snd.snd.snd.snd.snd.snd.snd.snd.snd) : Int) > (0 : Int))) else some false else bif !m.fst == (7 : Int) then some (decide ((↑(List.length m.snd.snd.snd.snd.snd.snd.snd.snd.snd.snd) : Int) > (0 : Int))) else some false else bif m.fst != (6 : Int) then bif m.snd.snd.snd.snd.snd.snd.snd.snd.snd.fst != (0 : Int) then some true else bif !m.fst == (7 : Int) then some (decide ((↑(List.length m.snd.snd.snd.snd.snd.snd.snd.snd.snd.snd) : Int) > (0 : Int))) else some false else bif !m.fst == (7 : Int) then some (decide ((↑(List.length m.snd.snd.snd.snd.snd.snd.snd.snd.snd.snd) : Int) > (0 : Int))) else some false) fun v => bif v then some (false, ()) else bif decide ((↑(List.length m.snd.snd.snd.snd.snd.snd.fst) : Int) > (8 : Int)) then some (false, ()) else bif (firstFrom (atE badE m.snd.snd.snd.snd.snd.snd.fst) 0 (List.length m.snd.snd.snd.snd.snd.snd.fst)).isSome then some (false, ()) else some (true, ()) := by kernel_rfl

theorem wbare_ev (m : Msg) : evFn (env consX2) H.wire_bare (LPof []) F.wire_bare [valOf msgT m] [] (finT [msgT, .bool]) = Option.bind (bif m.fst == (1 : Int) then some (m.fst == (1 : Int), ()) else some (m.fst == (3 : Int), ())) fun v => bif v.fst then some ((m.fst, m.snd.fst, m.snd.snd.fst, m.snd.snd.snd.fst, m.snd.snd.snd.snd.fst, m.snd.snd.snd.snd.snd.fst, [], (0 : Int), false, (0 : Int), []), true, ()) else Option.bind (bif m.fst == (2 : Int) then some (m.fst == (2 : Int), ()) else some (m.fst == (4 : Int), ())) fun v => bif v.fst then some ((m.fst, m.snd.fst, m.snd.snd.fst, m.snd.snd.snd.fst, (0 : Int), (0 : Int), [], (0 : Int), m.snd.snd.snd.snd.snd.snd.snd.snd.fst, (0 : Int), []), true, ()) else bif m.fst == (5 : Int) then some ((m.fst, m.snd.fst, m.snd.snd.fst, m.snd.snd.snd.fst, m.snd.snd.snd.snd.fst, m.snd.snd.snd.snd.snd.fst, m.snd.snd.snd.snd.snd.snd.fst, m.snd.snd.snd.snd.snd.snd.snd.fst, false, (0 : Int), []), true, ()) else bif m.fst == (6 : Int) then some ((m.fst, m.snd.fst, m.snd.snd.fst, m.snd.snd.snd.fst, (0 : Int), (0 : Int), [], (0 : Int), m.snd.snd.snd.snd.snd.snd.snd.snd.fst, m.snd.snd.snd.snd.snd.snd.snd.snd.snd.fst, []), true, ()) else bif m.fst == (7 : Int) then some ((m.fst, m.snd.fst, m.snd.snd.fst, m.snd.snd.snd.fst, m.snd.snd.snd.snd.fst, m.snd.snd.snd.snd.snd.fst, [], (0 : Int), false, (0 : Int), m.snd.snd.snd.snd.snd.snd.snd.snd.snd.snd), true, ()) else some ((m.fst, m.snd.fst, m.snd.snd.fst, m.snd.snd.snd.fst, (0 : Int), (0 : Int), [], (0 : Int), false, (0 : Int), []), false, ()) := by kernel_rfl

def emptyK (m : Msg) : Bool := (m.1 == 1 || m.1 == 3 || m.1 == 5 || m.1 == 7 || (m.2.2.2.2.1 == 0 && m.2.2.2.2.2.1 == 0)) && (m.1 == 5 || (decide (m.2.2.2.2.2.2.1 = []) && m.2.2.2.2.2.2.2.1 == 0)) && (m.1 == 2 || m.1 == 4 || m.1 == 6 || !m.2.2.2.2.2.2.2.2.1) &&
  (m.1 == 6 || m.2.2.2.2.2.2.2.2.2.1 == 0) && (m.1 == 7 || decide (m.2.2.2.2.2.2.2.2.2.2 = []))
def rightL (m : Msg) : Bool := withinB m.1 1 7 && withinB m.2.1 1 7 && withinB m.2.2.1 1 7 && withinB m.2.2.2.1 0 1125899906842624 && withinB m.2.2.2.2.1 0 1125899906842624 && withinB m.2.2.2.2.2.1 0 1125899906842624 && withinB m.2.2.2.2.2.2.2.1 0 1125899906842624 &&
  withinB m.2.2.2.2.2.2.2.2.2.1 0 1125899906842624 && emptyK m && decide (((List.length m.2.2.2.2.2.2.1 : Nat) : Int) ≤ 8) && !List.any m.2.2.2.2.2.2.1 badE
theorem any_atE (q : Ent → Bool) (l : List Ent) : (firstFrom (atE q l) 0 l.length).isSome = l.any q := firstFrom_any0 (q := q) (d := entT.zero) l
def caseSentries : PCase := ⟨[.ty (.sl entT), .ty (.sl entT)], [.bool], fun x => (fun (a b : List Ent) => [(true, (decide (a = b), ()))]) x.1 x.2.1⟩
theorem sent_val (a b : List Ent) : evFn (env consX2) H.cooperageref17_SameEntries (LPof [(4, sentLC)]) F.cooperageref17_SameEntries [.vl entT a, .vl entT b] [] (finT [.bool]) = some (decide (a = b), ()) := by
  rw [sent_ev]
  by_cases h : b.length = a.length
  · have h1 : ((a.length : Int) != (b.length : Int)) = false := by simp; omega
    have := firstFrom_eq (q := fun a b => decide (a = b)) (fun _ _ => rfl) entT.zero h
    unfold difE
    rw [h1, this, decide_eq_true h]
    cases decide (a = b) <;> rfl
  · have h1 : ((a.length : Int) != (b.length : Int)) = true := by simp; omega
    have h2 : a ≠ b := fun e => h (by rw [e])
    rw [h1, decide_eq_false h2]; rfl
theorem sent_ok : caseSentries.ok P0 I.cooperageref17_SameEntries := case_ok2 (H := H.cooperageref17_SameEntries) (E := env consX2) (env_ok consX2_ok) glob0 mixed0 G.cooperageref17_SameEntries Bd.cooperageref17_SameEntries (by kernel_rfl) (loops_good (tab := [(4, sentLC)]) (by kernel_rfl) (fun x hx => by simp at hx; subst hx; exact sent_lok)) fun ⟨a, b, ()⟩ y h hw => by
  obtain ⟨hc, rfl⟩ := pick_pre h
  exact sent_val a b
def caseWeqf : PCase := ⟨[.ty (.sl entT), .ty (.sl entT), .fn I.wire_Same_1 []], [.bool], fun x => (fun (a b : List Ent) (u : Unit) => [(true, (decide (a = b), ()))]) x.1 x.2.1 x.2.2.1⟩
theorem weqf_val (a b : List Ent) (u : Unit) : evFn (env consX2) H.slices_EqualFunc_api_Entry_api_Entry_api_Entry_api_Entry (LPof [(4, weqfLC)]) F.slices_EqualFunc_api_Entry_api_Entry_api_Entry_api_Entry [.vl entT a, .vl entT b, .fn (.func I.wire_Same_1) [] []] [] (finT [.bool]) = some (decide (a = b), ()) := by
  rw [weqf_ev]
  by_cases h : b.length = a.length
  · have h1 : ((a.length : Int) != (b.length : Int)) = false := by simp; omega
    have := firstFrom_eq (q := fun a b => decide (a = b)) (fun _ _ => rfl) entT.zero h
    unfold difE
    rw [h1, this, decide_eq_true h]
    simp only [decide_true, Bool.true_and, Bool.and_true]
    cases decide (a = b) <;> rfl
  · have h1 : ((a.length : Int) != (b.length : Int)) = true := by simp; omega
    have h2 : a ≠ b := fun e => h (by rw [e])
    rw [h1, decide_eq_false h2]; rfl
theorem weqf_ok : caseWeqf.ok P0 I.slices_EqualFunc_api_Entry_api_Entry_api_Entry_api_Entry := case_ok2 (H := H.slices_EqualFunc_api_Entry_api_Entry_api_Entry_api_Entry) (E := env consX2) (env_ok consX2_ok) glob0 mixed0 G.slices_EqualFunc_api_Entry_api_Entry_api_Entry_api_Entry Bd.slices_EqualFunc_api_Entry_api_Entry_api_Entry_api_Entry (by kernel_rfl) (loops_good (tab := [(4, weqfLC)]) (by kernel_rfl) (fun x hx => by simp at hx; subst hx; exact weqf_lok)) fun ⟨a, b, u, ()⟩ y h hw => by
  obtain ⟨hc, rfl⟩ := pick_pre h
  exact weqf_val a b u
def idxE (a : List Ent) : Int := bif (firstFrom (atE badE a) 0 a.length).isSome then ((firstFrom (atE badE a) 0 a.length).getD 0 : Nat) else -1
def caseWidx : PCase := ⟨[.ty (.sl entT), .fn I.wire_Right_1 []], [.int .i64], fun x => (fun (a : List Ent) (u : Unit) => [(true, (idxE a, ()))]) x.1 x.2.1⟩
theorem widx_val (a : List Ent) (u : Unit) : evFn (env consX2) H.slices_IndexFunc_api_Entry_api_Entry (LPof [(2, widxLC)]) F.slices_IndexFunc_api_Entry_api_Entry [.vl entT a, .fn (.func I.wire_Right_1) [] []] [] (finT [.int .i64]) = some (idxE a, ()) := by
  rw [widx_ev]
  unfold idxE
  simp only [decide_true, Bool.true_and, Bool.and_true]
  cases (firstFrom (atE badE a) 0 a.length).isSome <;> rfl
theorem widx_ok : caseWidx.ok P0 I.slices_IndexFunc_api_Entry_api_Entry := case_ok2 (H := H.slices_IndexFunc_api_Entry_api_Entry) (E := env consX2) (env_ok consX2_ok) glob0 mixed0 G.slices_IndexFunc_api_Entry_api_Entry Bd.slices_IndexFunc_api_Entry_api_Entry (by kernel_rfl) (loops_good (tab := [(2, widxLC)]) (by kernel_rfl) (fun x hx => by simp at hx; subst hx; exact widx_lok)) fun ⟨a, u, ()⟩ y h hw => by
  obtain ⟨hc, rfl⟩ := pick_pre h
  exact widx_val a u
noncomputable abbrev consX3 : List (FuncId × Con) := [(I.slices_IndexFunc_api_Entry_api_Entry, .pure (pureOf [caseWidx])), (I.slices_EqualFunc_api_Entry_api_Entry_api_Entry_api_Entry, .pure (pureOf [caseWeqf])), (I.cooperageref17_SameEntries, .pure (pureOf [caseSentries]))] ++ consX2
theorem consX3_ok : ∀ x ∈ consX3, HoldsC P0 x.1 x.2 := by
  intro x hx
  rcases List.mem_append.1 hx with hx | hx
  · simp at hx
    rcases hx with rfl | rfl | rfl
    · exact ⟨pureOf_holds (by simp; exact widx_ok), C.slices_IndexFunc_api_Entry_api_Entry⟩
    · exact ⟨pureOf_holds (by simp; exact weqf_ok), C.slices_EqualFunc_api_Entry_api_Entry_api_Entry_api_Entry⟩
    · exact ⟨pureOf_holds (by simp; exact sent_ok), C.cooperageref17_SameEntries⟩
  · exact consX2_ok x hx
theorem whas_ev (a : List Ent) : evFn (env consX3) H.slices_ContainsFunc_api_Entry_api_Entry (LPof []) F.slices_ContainsFunc_api_Entry_api_Entry [.vl entT a, .fn (.func I.wire_Right_1) [] []] [] (finT [.bool]) = some (decide (idxE a ≥ (0 : Int)), ()) := by kernel_rfl

def caseWhas : PCase := ⟨[.ty (.sl entT), .fn I.wire_Right_1 []], [.bool], fun x => (fun (a : List Ent) (u : Unit) => [(true, (a.any badE, ()))]) x.1 x.2.1⟩
theorem whas_val (a : List Ent) (u : Unit) : evFn (env consX3) H.slices_ContainsFunc_api_Entry_api_Entry (LPof []) F.slices_ContainsFunc_api_Entry_api_Entry [.vl entT a, .fn (.func I.wire_Right_1) [] []] [] (finT [.bool]) = some (a.any badE, ()) := by
  rw [whas_ev, ← any_atE]
  unfold idxE
  cases firstFrom (atE badE a) 0 a.length with
  | none => rfl
  | some j =>
    have : decide (((j : Nat) : Int) ≥ 0) = true := by simp
    simp [this]
theorem whas_ok : caseWhas.ok P0 I.slices_ContainsFunc_api_Entry_api_Entry := case_ok2 (H := H.slices_ContainsFunc_api_Entry_api_Entry) (E := env consX3) (env_ok consX3_ok) glob0 mixed0 G.slices_ContainsFunc_api_Entry_api_Entry Bd.slices_ContainsFunc_api_Entry_api_Entry (by kernel_rfl) noLoops fun ⟨a, u, ()⟩ y h hw => by
  obtain ⟨hc, rfl⟩ := pick_pre h
  exact whas_val a u
def bigM (m : Msg) : Bool := (firstFrom (bigAt m.2.2.2.2.2.2.1) 0 (List.length m.2.2.2.2.2.2.1)).isSome || decide (((List.length m.2.2.2.2.2.2.2.2.2.2 : Nat) : Int) > 500)
def caseWbig : PCase := ⟨[.ty msgT], [.bool], fun x => (fun (m : Msg) => [(true, (bigM m, ()))]) x.1⟩
theorem wbig_val (m : Msg) : evFn (env consX2) H.cooperagelaw19_Big (LPof [(2, wbLC)]) F.cooperagelaw19_Big [valOf msgT m] [] (finT [.bool]) = some (bigM m, ()) := by
  rw [wbig_ev]
  unfold bigM
  cases (firstFrom (bigAt m.2.2.2.2.2.2.1) 0 (List.length m.2.2.2.2.2.2.1)).isSome <;> rfl
theorem wbig_ok : caseWbig.ok P0 I.cooperagelaw19_Big := case_ok2 (H := H.cooperagelaw19_Big) (E := env consX2) (env_ok consX2_ok) glob0 mixed0 G.cooperagelaw19_Big Bd.cooperagelaw19_Big (by kernel_rfl) (loops_good (tab := [(2, wbLC)]) (by kernel_rfl) (fun x hx => by simp at hx; subst hx; exact wb_lok)) fun ⟨m, ()⟩ y h hw => by
  obtain ⟨hc, rfl⟩ := pick_pre h
  exact wbig_val m
def bareM (m : Msg) : Msg × Bool :=
  bif m.1 == 1 || m.1 == 3 then ((m.1, m.2.1, m.2.2.1, m.2.2.2.1, m.2.2.2.2.1, m.2.2.2.2.2.1, [], 0, false, 0, []), true)
  else bif m.1 == 2 || m.1 == 4 then ((m.1, m.2.1, m.2.2.1, m.2.2.2.1, 0, 0, [], 0, m.2.2.2.2.2.2.2.2.1, 0, []), true)
  else bif m.1 == 5 then ((m.1, m.2.1, m.2.2.1, m.2.2.2.1, m.2.2.2.2.1, m.2.2.2.2.2.1, m.2.2.2.2.2.2.1, m.2.2.2.2.2.2.2.1, false, 0, []), true)
  else bif m.1 == 6 then ((m.1, m.2.1, m.2.2.1, m.2.2.2.1, 0, 0, [], 0, m.2.2.2.2.2.2.2.2.1, m.2.2.2.2.2.2.2.2.2.1, []), true)
  else bif m.1 == 7 then ((m.1, m.2.1, m.2.2.1, m.2.2.2.1, m.2.2.2.2.1, m.2.2.2.2.2.1, [], 0, false, 0, m.2.2.2.2.2.2.2.2.2.2), true)
  else ((m.1, m.2.1, m.2.2.1, m.2.2.2.1, 0, 0, [], 0, false, 0, []), false)
def caseWbare : PCase := ⟨[.ty msgT], [msgT, .bool], fun x => (fun (m : Msg) => [(true, ((bareM m).1, (bareM m).2, ()))]) x.1⟩
theorem wbare_val (m : Msg) : evFn (env consX2) H.wire_bare (LPof []) F.wire_bare [valOf msgT m] [] (finT [msgT, .bool]) = some ((bareM m).1, (bareM m).2, ()) := by
  rw [wbare_ev, sw2_bif, sw2_bif]
  simp only [Option.bind_some]
  unfold bareM
  cases m.1 == 1 || m.1 == 3 with
  | true => rfl
  | false =>
  cases m.1 == 2 || m.1 == 4 with
  | true => rfl
  | false =>
  cases m.1 == 5 with
  | true => rfl
  | false =>
  cases m.1 == 6 with
  | true => rfl
  | false =>
  cases m.1 == 7 <;> rfl
theorem wbare_ok : caseWbare.ok P0 I.wire_bare := case_ok2 (H := H.wire_bare) (E := env consX2) (env_ok consX2_ok) glob0 mixed0 G.wire_bare Bd.wire_bare (by kernel_rfl) noLoops fun ⟨m, ()⟩ y h hw => by
  obtain ⟨hc, rfl⟩ := pick_pre h
  exact wbare_val m
theorem wsame_ev (a b : Msg) : evFn (env consX3) H.wire_Same (LPof []) F.wire_Same [valOf msgT a, valOf msgT b] [] (finT [.bool]) = Option.bind (bif a.fst == b.fst then bif a.snd.fst == b.snd.fst then bif a.snd.snd.fst == b.snd.snd.fst then bif a.snd.snd.snd.fst == b.snd.snd.snd.fst then bif a.snd.snd.snd.snd.fst == b.snd.snd.snd.snd.fst then bif a.snd.snd.snd.snd.snd.fst == b.snd.snd.snd.snd.snd.fst then bif a.snd.snd.snd.snd.snd.snd.snd.fst == b.snd.snd.snd.snd.snd.snd.snd.fst then bif a.snd.snd.snd.snd.snd.snd.snd.snd.fst == b.snd.snd.snd.snd.snd.snd.snd.snd.fst then bif a.snd.snd.snd.snd.snd.snd.snd.snd.snd.fst == b.snd.snd.snd.snd.snd.snd.snd.snd.snd.fst then bif ofBytes a.snd.snd.snd.snd.snd.snd.snd.snd.snd.snd == ofBytes b.snd.snd.snd.snd.snd.snd.snd.snd.snd.snd then some (decide (a.snd.snd.snd.snd.snd.snd.fst = b.snd.snd.snd.snd.snd.snd.fst)) else some false else some false else some false else some false else some false else some false else some false else some false else some false else some false) fun v => some (v, ()) := by kernel_rfl

theorem rsame_ev (a b : Msg) : evFn (env consX3) H.cooperageref17_SameMessage (LPof []) F.cooperageref17_SameMessage [valOf msgT a, valOf msgT b] [] (finT [.bool]) = Option.bind (bif a.fst == b.fst then bif a.snd.fst == b.snd.fst then bif a.snd.snd.fst == b.snd.snd.fst then bif a.snd.snd.snd.fst == b.snd.snd.snd.fst then bif a.snd.snd.snd.snd.fst == b.snd.snd.snd.snd.fst then bif a.snd.snd.snd.snd.snd.fst == b.snd.snd.snd.snd.snd.fst then bif decide (a.snd.snd.snd.snd.snd.snd.fst = b.snd.snd.snd.snd.snd.snd.fst) then bif a.snd.snd.snd.snd.snd.snd.snd.fst == b.snd.snd.snd.snd.snd.snd.snd.fst then bif a.snd.snd.snd.snd.snd.snd.snd.snd.fst == b.snd.snd.snd.snd.snd.snd.snd.snd.fst then some (a.snd.snd.snd.snd.snd.snd.snd.snd.snd.fst == b.snd.snd.snd.snd.snd.snd.snd.snd.snd.fst) else some false else some false else some false else some false else some false else some false else some false else some false else some false) fun v => some (v, ()) := by kernel_rfl

def sameMs (a b : Msg) : Bool := a.1 == b.1 && (a.2.1 == b.2.1 && (a.2.2.1 == b.2.2.1 && (a.2.2.2.1 == b.2.2.2.1 && (a.2.2.2.2.1 == b.2.2.2.2.1 && (a.2.2.2.2.2.1 == b.2.2.2.2.2.1 && (decide (a.2.2.2.2.2.2.1 = b.2.2.2.2.2.2.1) && (a.2.2.2.2.2.2.2.1 == b.2.2.2.2.2.2.2.1 &&
  (a.2.2.2.2.2.2.2.2.1 == b.2.2.2.2.2.2.2.2.1 && a.2.2.2.2.2.2.2.2.2.1 == b.2.2.2.2.2.2.2.2.2.1))))))))
def sameW (a b : Msg) : Bool := sameMs a b && ofBytes a.2.2.2.2.2.2.2.2.2.2 == ofBytes b.2.2.2.2.2.2.2.2.2.2
def caseWsame : PCase := ⟨[.ty msgT, .ty msgT], [.bool], fun x => (fun (a b : Msg) => [(true, (sameW a b, ()))]) x.1 x.2.1⟩
theorem wsame_val (a b : Msg) : evFn (env consX3) H.wire_Same (LPof []) F.wire_Same [valOf msgT a, valOf msgT b] [] (finT [.bool]) = some (sameW a b, ()) := by
  rw [wsame_ev]
  simp only [and_bif, Option.bind_some]
  refine congrArg (fun q => some (q, ())) ?_
  unfold sameW sameMs
  cases decide (a.2.2.2.2.2.2.1 = b.2.2.2.2.2.2.1) <;> simp only [Bool.and_true, Bool.and_false, Bool.true_and, Bool.false_and, Bool.and_assoc]
theorem wsame_ok : caseWsame.ok P0 I.wire_Same := case_ok2 (H := H.wire_Same) (E := env consX3) (env_ok consX3_ok) glob0 mixed0 G.wire_Same Bd.wire_Same (by kernel_rfl) noLoops fun ⟨a, b, ()⟩ y h hw => by
  obtain ⟨hc, rfl⟩ := pick_pre h
  exact wsame_val a b
def caseRsame : PCase := ⟨[.ty msgT, .ty msgT], [.bool], fun x => (fun (a b : Msg) => [(true, (sameMs a b, ()))]) x.1 x.2.1⟩
theorem rsame_val (a b : Msg) : evFn (env consX3) H.cooperageref17_SameMessage (LPof []) F.cooperageref17_SameMessage [valOf msgT a, valOf msgT b] [] (finT [.bool]) = some (sameMs a b, ()) := by
  rw [rsame_ev]
  simp only [and_bif, Option.bind_some]
  rfl
theorem rsame_ok : caseRsame.ok P0 I.cooperageref17_SameMessage := case_ok2 (H := H.cooperageref17_SameMessage) (E := env consX3) (env_ok consX3_ok) glob0 mixed0 G.cooperageref17_SameMessage Bd.cooperageref17_SameMessage (by kernel_rfl) noLoops fun ⟨a, b, ()⟩ y h hw => by
  obtain ⟨hc, rfl⟩ := pick_pre h
  exact rsame_val a b
noncomputable abbrev consX4 : List (FuncId × Con) := [(I.slices_ContainsFunc_api_Entry_api_Entry, .pure (pureOf [caseWhas])), (I.wire_bare, .pure (pureOf [caseWbare])), (I.wire_Same, .pure (pureOf [caseWsame])), (I.cooperageref17_SameMessage, .pure (pureOf [caseRsame]))] ++ consX3
theorem consX4_ok : ∀ x ∈ consX4, HoldsC P0 x.1 x.2 := by
  intro x hx
  rcases List.mem_append.1 hx with hx | hx
  · simp at hx
    rcases hx with rfl | rfl | rfl | rfl
    · exact ⟨pureOf_holds (by simp; exact whas_ok), C.slices_ContainsFunc_api_Entry_api_Entry⟩
    · exact ⟨pureOf_holds (by simp; exact wbare_ok), C.wire_bare⟩
    · exact ⟨pureOf_holds (by simp; exact wsame_ok), C.wire_Same⟩
    · exact ⟨pureOf_holds (by simp; exact rsame_ok), C.cooperageref17_SameMessage⟩
  · exact consX3_ok x hx
theorem wright_ev (m : Msg) : evFn (env consX4) H.wire_Right (LPof []) F.wire_Right [valOf msgT m] [] (finT [.bool]) = Option.bind (bif (bareM m).snd then bif sameW (bareM m).fst m then bif withinB m.snd.fst (1 : Int) (7 : Int) then bif withinB m.snd.snd.fst (1 : Int) (7 : Int) then bif withinB m.snd.snd.snd.fst (0 : Int) (1125899906842624 : Int) then bif withinB m.snd.snd.snd.snd.fst (0 : Int) (1125899906842624 : Int) then bif withinB m.snd.snd.snd.snd.snd.fst (0 : Int) (1125899906842624 : Int) then bif withinB m.snd.snd.snd.snd.snd.snd.snd.fst (0 : Int) (1125899906842624 : Int) then bif withinB m.snd.snd.snd.snd.snd.snd.snd.snd.snd.fst (0 : Int) (1125899906842624 : Int) then bif decide ((↑(List.length m.snd.snd.snd.snd.snd.snd.snd.snd.snd.snd) : Int) ≤ (8388608 : Int)) then bif decide ((↑(List.length m.snd.snd.snd.snd.snd.snd.fst) : Int) ≤ (8 : Int)) then some !List.any m.snd.snd.snd.snd.snd.snd.fst badE else some false else some false else some false else some false else some false else some false else some false else some false else some false else some false else some false) fun v => some (v, ()) := by kernel_rfl

def rightM (m : Msg) : Bool := (bareM m).2 && (sameW (bareM m).1 m && (withinB m.2.1 1 7 && (withinB m.2.2.1 1 7 && (withinB m.2.2.2.1 0 1125899906842624 && (withinB m.2.2.2.2.1 0 1125899906842624 && (withinB m.2.2.2.2.2.1 0 1125899906842624 && (withinB m.2.2.2.2.2.2.2.1 0 1125899906842624 &&
  (withinB m.2.2.2.2.2.2.2.2.2.1 0 1125899906842624 && (decide (((List.length m.2.2.2.2.2.2.2.2.2.2 : Nat) : Int) ≤ 8388608) && (decide (((List.length m.2.2.2.2.2.2.1 : Nat) : Int) ≤ 8) && !List.any m.2.2.2.2.2.2.1 badE))))))))))
def caseWright : PCase := ⟨[.ty msgT], [.bool], fun x => (fun (m : Msg) => [(true, (rightM m, ()))]) x.1⟩
theorem wright_val (m : Msg) : evFn (env consX4) H.wire_Right (LPof []) F.wire_Right [valOf msgT m] [] (finT [.bool]) = some (rightM m, ()) := by
  rw [wright_ev]
  simp only [and_bif, Option.bind_some]
  rfl
theorem wright_ok : caseWright.ok P0 I.wire_Right := case_ok2 (H := H.wire_Right) (E := env consX4) (env_ok consX4_ok) glob0 mixed0 G.wire_Right Bd.wire_Right (by kernel_rfl) noLoops fun ⟨m, ()⟩ y h hw => by
  obtain ⟨hc, rfl⟩ := pick_pre h
  exact wright_val m
end Go.Sim
namespace Go.Sim
set_option linter.unusedSimpArgs false
set_option linter.unusedVariables false
set_option maxRecDepth 10000
theorem beq_nil {l : List Int} : (ofBytes [] == ofBytes l) = decide (l = []) := by cases l <;> simp [ofBytes]
theorem within_kind {k : Int} (h1 : ¬ k = 1) (h2 : ¬ k = 2) (h3 : ¬ k = 3) (h4 : ¬ k = 4) (h5 : ¬ k = 5) (h6 : ¬ k = 6) (h7 : ¬ k = 7) : withinB k 1 7 = false := by
  unfold withinB
  by_cases h : k ≥ 1 <;> by_cases g : k ≤ 7 <;> simp [h, g]
  omega
theorem rightM_eq (m : Msg) : rightM m = (rightL m && decide (((List.length m.2.2.2.2.2.2.2.2.2.2 : Nat) : Int) ≤ 8388608)) := by
  obtain ⟨m1, m2, m3, m4, m5, m6, l, m8, ok, m10, d⟩ := m
  unfold rightM rightL bareM sameW sameMs emptyK
  simp only
  by_cases e1 : m1 = 1
  · subst e1
    simp only [Int.reduceBEq, Bool.or_true, Bool.true_or, Bool.or_false, Bool.false_or, cond_true, cond_false, beq_self_eq_true, Bool.true_and, Bool.false_and, decide_true, beq_nil, show withinB 1 1 7 = true from rfl]
    grind
  by_cases e2 : m1 = 2
  · subst e2
    simp only [Int.reduceBEq, Bool.or_true, Bool.true_or, Bool.or_false, Bool.false_or, cond_true, cond_false, beq_self_eq_true, Bool.true_and, Bool.false_and, decide_true, beq_nil, show withinB 2 1 7 = true from rfl]
    grind
  by_cases e3 : m1 = 3
  · subst e3
    simp only [Int.reduceBEq, Bool.or_true, Bool.true_or, Bool.or_false, Bool.false_or, cond_true, cond_false, beq_self_eq_true, Bool.true_and, Bool.false_and, decide_true, beq_nil, show withinB 3 1 7 = true from rfl]
    grind
  by_cases e4 : m1 = 4
  · subst e4
    simp only [Int.reduceBEq, Bool.or_true, Bool.true_or, Bool.or_false, Bool.false_or, cond_true, cond_false, beq_self_eq_true, Bool.true_and, Bool.false_and, decide_true, beq_nil, show withinB 4 1 7 = true from rfl]
    grind
  by_cases e5 : m1 = 5
  · subst e5
    simp only [Int.reduceBEq, Bool.or_true, Bool.true_or, Bool.or_false, Bool.false_or, cond_true, cond_false, beq_self_eq_true, Bool.true_and, Bool.false_and, decide_true, beq_nil, show withinB 5 1 7 = true from rfl]
    grind
  by_cases e6 : m1 = 6
  · subst e6
    simp only [Int.reduceBEq, Bool.or_true, Bool.true_or, Bool.or_false, Bool.false_or, cond_true, cond_false, beq_self_eq_true, Bool.true_and, Bool.false_and, decide_true, beq_nil, show withinB 6 1 7 = true from rfl]
    grind
  by_cases e7 : m1 = 7
  · subst e7
    simp only [Int.reduceBEq, Bool.or_true, Bool.true_or, Bool.or_false, Bool.false_or, cond_true, cond_false, beq_self_eq_true, Bool.true_and, Bool.false_and, decide_true, beq_nil, show withinB 7 1 7 = true from rfl]
    grind
  have q1 : (m1 == 1) = false := by simpa using e1
  have q2 : (m1 == 2) = false := by simpa using e2
  have q3 : (m1 == 3) = false := by simpa using e3
  have q4 : (m1 == 4) = false := by simpa using e4
  have q5 : (m1 == 5) = false := by simpa using e5
  have q6 : (m1 == 6) = false := by simpa using e6
  have q7 : (m1 == 7) = false := by simpa using e7
  simp only [q1, q2, q3, q4, q5, q6, q7, Bool.or_self, cond_false, within_kind e1 e2 e3 e4 e5 e6 e7, Bool.false_and]
theorem pos_nil {α : Type} [DecidableEq α] (l : List α) : decide (((l.length : Nat) : Int) > 0) = !decide (l = []) := by cases l <;> simp
theorem rfu2 {a : Bool} {x : Option (Bool × Unit)} {b : Bool} (h : x = some (b, ())) : (bif a then some (false, ()) else x) = some (!a && b, ()) := by rw [h]; cases a <;> rfl
theorem gt_le (a b : Int) : decide (a > b) = !decide (a ≤ b) := by by_cases h : a > b <;> simp [h] <;> omega
theorem lt_ge (a b : Int) : decide (a < b) = !decide (a ≥ b) := by by_cases h : a < b <;> simp [h] <;> omega
def caseWrl : PCase := ⟨[.ty msgT], [.bool], fun x => (fun (m : Msg) => [(true, (rightL m, ()))]) x.1⟩
theorem wrl_val (m : Msg) : evFn (env consX2) H.cooperagelaw19_right (LPof [(13, wrLC)]) F.cooperagelaw19_right [valOf msgT m] [] (finT [.bool]) = some (rightL m, ()) := by
  rw [wrl_ev]
  obtain ⟨m1, m2, m3, m4, m5, m6, l, m8, ok, m10, d⟩ := m
  simp only [any_atE, pos_nil]
  unfold rightL emptyK
  simp only
  by_cases e1 : m1 = 1
  · subst e1
    simp only [or_bif, Option.bind_some, Int.reduceLT, Int.reduceGT, decide_false, Int.reduceBEq, Bool.or_true, Bool.true_or, Bool.or_false, Bool.false_or, cond_true, cond_false, beq_self_eq_true, Bool.true_and, Bool.false_and, decide_true, beq_nil, Bool.not_true, Bool.not_false, bne, rfu_bif, gt_le, lt_ge, show withinB 1 1 7 = true from rfl]
    unfold withinB
    refine congrArg (fun q => some (q, ())) ?_
    simp only [Bool.not_or, Bool.not_not]
    apply Bool.eq_iff_iff.2
    simp only [Bool.and_eq_true]
    grind
  by_cases e2 : m1 = 2
  · subst e2
    simp only [or_bif, Option.bind_some, Int.reduceLT, Int.reduceGT, decide_false, Int.reduceBEq, Bool.or_true, Bool.true_or, Bool.or_false, Bool.false_or, cond_true, cond_false, beq_self_eq_true, Bool.true_and, Bool.false_and, decide_true, beq_nil, Bool.not_true, Bool.not_false, bne, rfu_bif, gt_le, lt_ge, show withinB 2 1 7 = true from rfl]
    unfold withinB
    refine congrArg (fun q => some (q, ())) ?_
    simp only [Bool.not_or, Bool.not_not]
    apply Bool.eq_iff_iff.2
    simp only [Bool.and_eq_true]
    grind
  by_cases e3 : m1 = 3
  · subst e3
    simp only [or_bif, Option.bind_some, Int.reduceLT, Int.reduceGT, decide_false, Int.reduceBEq, Bool.or_true, Bool.true_or, Bool.or_false, Bool.false_or, cond_true, cond_false, beq_self_eq_true, Bool.true_and, Bool.false_and, decide_true, beq_nil, Bool.not_true, Bool.not_false, bne, rfu_bif, gt_le, lt_ge, show withinB 3 1 7 = true from rfl]
    unfold withinB
    refine congrArg (fun q => some (q, ())) ?_
    simp only [Bool.not_or, Bool.not_not]
    apply Bool.eq_iff_iff.2
    simp only [Bool.and_eq_true]
    grind
  by_cases e4 : m1 = 4
  · subst e4
    simp only [or_bif, Option.bind_some, Int.reduceLT, Int.reduceGT, decide_false, Int.reduceBEq, Bool.or_true, Bool.true_or, Bool.or_false, Bool.false_or, cond_true, cond_false, beq_self_eq_true, Bool.true_and, Bool.false_and, decide_true, beq_nil, Bool.not_true, Bool.not_false, bne, rfu_bif, gt_le, lt_ge, show withinB 4 1 7 = true from rfl]
    unfold withinB
    refine congrArg (fun q => some (q, ())) ?_
    simp only [Bool.not_or, Bool.not_not]
    apply Bool.eq_iff_iff.2
    simp only [Bool.and_eq_true]
    grind
  by_cases e5 : m1 = 5
  · subst e5
    simp only [or_bif, Option.bind_some, Int.reduceLT, Int.reduceGT, decide_false, Int.reduceBEq, Bool.or_true, Bool.true_or, Bool.or_false, Bool.false_or, cond_true, cond_false, beq_self_eq_true, Bool.true_and, Bool.false_and, decide_true, beq_nil, Bool.not_true, Bool.not_false, bne, rfu_bif, gt_le, lt_ge, show withinB 5 1 7 = true from rfl]
    unfold withinB
    refine congrArg (fun q => some (q, ())) ?_
    simp only [Bool.not_or, Bool.not_not]
    apply Bool.eq_iff_iff.2
    simp only [Bool.and_eq_true]
    grind
  by_cases e6 : m1 = 6
  · subst e6
    simp only [or_bif, Option.bind_some, Int.reduceLT, Int.reduceGT, decide_false, Int.reduceBEq, Bool.or_true, Bool.true_or, Bool.or_false, Bool.false_or, cond_true, cond_false, beq_self_eq_true, Bool.true_and, Bool.false_and, decide_true, beq_nil, Bool.not_true, Bool.not_false, bne, rfu_bif, gt_le, lt_ge, show withinB 6 1 7 = true from rfl]
    unfold withinB
    refine congrArg (fun q => some (q, ())) ?_
    simp only [Bool.not_or, Bool.not_not]
    apply Bool.eq_iff_iff.2
    simp only [Bool.and_eq_true]
    grind
  by_cases e7 : m1 = 7
  · subst e7
    simp only [or_bif, Option.bind_some, Int.reduceLT, Int.reduceGT, decide_false, Int.reduceBEq, Bool.or_true, Bool.true_or, Bool.or_false, Bool.false_or, cond_true, cond_false, beq_self_eq_true, Bool.true_and, Bool.false_and, decide_true, beq_nil, Bool.not_true, Bool.not_false, bne, rfu_bif, gt_le, lt_ge, show withinB 7 1 7 = true from rfl]
    unfold withinB
    refine congrArg (fun q => some (q, ())) ?_
    simp only [Bool.not_or, Bool.not_not]
    apply Bool.eq_iff_iff.2
    simp only [Bool.and_eq_true]
    grind
  rw [within_kind e1 e2 e3 e4 e5 e6 e7]
  have : decide (m1 < 1) = true ∨ decide (m1 < 1) = false ∧ decide (m1 > 7) = true := by
    by_cases h : m1 < 1
    · exact .inl (by simpa using h)
    · exact .inr ⟨by simpa using h, by simp; omega⟩
  rcases this with h | ⟨h, g⟩
  · rw [h]; rfl
  · rw [h, g]; rfl
theorem wrl_ok : caseWrl.ok P0 I.cooperagelaw19_right := case_ok2 (H := H.cooperagelaw19_right) (E := env consX2) (env_ok consX2_ok) glob0 mixed0 G.cooperagelaw19_right Bd.cooperagelaw19_right (by kernel_rfl) (loops_good (tab := [(13, wrLC)]) (by kernel_rfl) (fun x hx => by simp at hx; subst hx; exact wr_lok)) fun ⟨m, ()⟩ y h hw => by
  obtain ⟨hc, rfl⟩ := pick_pre h
  exact wrl_val m
end Go.Sim
namespace Go.Sim
set_option linter.unusedSimpArgs false
set_option linter.unusedVariables false
set_option maxRecDepth 10000
noncomputable abbrev consY1 : List (FuncId × Con) := [(I.wire_entries, .eff (effOf [caseWent.e]))] ++ consV3
theorem consY1_ok : ∀ x ∈ consY1, HoldsC P0 x.1 x.2 := by
  intro x hx
  rcases List.mem_append.1 hx with hx | hx
  · simp at hx
    subst hx
    exact ⟨fun args objs r objs2 h _ => effOf_holds (by simp; exact went_ok) args objs r objs2 h, C.wire_entries⟩
  · exact consV3_ok x hx
noncomputable abbrev consY2 : List (FuncId × Con) := [(I.wire_fields, inl (env []) H.wire_fields F.wire_fields (fun R _ => noLP)), (I.wire_get, inl (env consY1) H.wire_get F.wire_get (fun R _ => noLP))] ++ consV3
theorem consY2_ok : ∀ x ∈ consY2, HoldsC P0 x.1 x.2 := by
  intro x hx
  rcases List.mem_append.1 hx with hx | hx
  · simp at hx
    rcases hx with rfl | rfl
    · exact inl_ok (env_ok env_nil) glob0 mixed0 G.wire_fields Bd.wire_fields C.wire_fields (fun R k0 => noLP_good)
    · exact inl_ok (env_ok consY1_ok) glob0 mixed0 G.wire_get Bd.wire_get C.wire_get (fun R k0 => noLP_good)
  · exact consV3_ok x hx
noncomputable abbrev consY3 : List (FuncId × Con) := [(I.frame_Get, .pure (pureOf [caseFget])), (I.frame_Put, .pure (pureOf [caseFput])), (I.wire_Right, .pure (pureOf [caseWright])), (I.wire_piece, .pure (pureOf [caseWpiece])), (I.bytes_Equal, .pure (pureOf [caseBeq]))] ++ consY2
theorem consY3_ok : ∀ x ∈ consY3, HoldsC P0 x.1 x.2 := by
  intro x hx
  rcases List.mem_append.1 hx with hx | hx
  · simp at hx
    rcases hx with rfl | rfl | rfl | rfl | rfl
    · exact ⟨pureOf_holds (by simp; exact fget_ok), C.frame_Get⟩
    · exact ⟨pureOf_holds (by simp; exact fput_ok), C.frame_Put⟩
    · exact ⟨pureOf_holds (by simp; exact wright_ok), C.wire_Right⟩
    · exact ⟨pureOf_holds (by simp; exact wpiece_ok), C.wire_piece⟩
    · exact ⟨pureOf_holds (by simp; exact beq_ok), C.bytes_Equal⟩
  · exact consY2_ok x hx
theorem wbytes_ev (m : Msg) : evFn (env consY3) H.wire_Bytes (LPof []) F.wire_Bytes [valOf msgT m] [] (finT [.sl u8T]) = bif !rightM m then some ([], ()) else bif decide (m.snd.snd.snd.snd.snd.snd.fst.length ≤ 100000) && decide (m.snd.snd.snd.snd.snd.snd.snd.snd.snd.snd.length ≤ 1000000000) then bif decide (0 + (pieceE m).length ≤ 140737488350000) then some ([] ++ frameE (pieceE m), ()) else none else none := by kernel_rfl

theorem wread_ev (b : List Int) : evFn (env consY3) H.wire_Read (loopsF (env consY3) H.wire_Read 0 B.wire_Read 13) F.wire_Read [.vl u8T b] [] (finT [msgT, .int .i64]) = bif (getF b).snd.snd != (0 : Int) then some (((0 : Int), (0 : Int), (0 : Int), (0 : Int), (0 : Int), (0 : Int), [], (0 : Int), false, (0 : Int), []), (getF b).snd.snd, ()) else bif decide ((numP (numP (numP (numP (numP (numP ((getF b).fst, (0 : (Pat.int IntKind.i64).den))).snd).snd).snd).snd).snd).snd.fst.length ≤ 140737488355328) then bif decide ((numP (numP (numP (entsP (numP (numP (numP (numP (numP (numP ((getF b).fst, (0 : (Pat.int IntKind.i64).den))).snd).snd).snd).snd).snd).snd).snd).snd).snd).snd.fst.length ≤ 140737488355328) then bif decide ((↑(bytesP (numP (numP (numP (entsP (numP (numP (numP (numP (numP (numP ((getF b).fst, (0 : (Pat.int IntKind.i64).den))).snd).snd).snd).snd).snd).snd).snd).snd).snd).snd).fst.length : Int) > (0 : Int)) then bif (getF b).snd.fst != (↑b.length : Int) then some (((0 : Int), (0 : Int), (0 : Int), (0 : Int), (0 : Int), (0 : Int), [], (0 : Int), false, (0 : Int), []), (2 : Int), ()) else bif !((bytesP (numP (numP (numP (entsP (numP (numP (numP (numP (numP (numP ((getF b).fst, (0 : (Pat.int IntKind.i64).den))).snd).snd).snd).snd).snd).snd).snd).snd).snd).snd).snd.snd == (0 : (Pat.int IntKind.i64).den) && (↑(bytesP (numP (numP (numP (entsP (numP (numP (numP (numP (numP (numP ((getF b).fst, (0 : (Pat.int IntKind.i64).den))).snd).snd).snd).snd).snd).snd).snd).snd).snd).snd).snd.fst.length : Int) == (0 : Int)) then some (((0 : Int), (0 : Int), (0 : Int), (0 : Int), (0 : Int), (0 : Int), [], (0 : Int), false, (0 : Int), []), (2 : Int), ()) else bif !rightM (unfoldV (numP ((getF b).fst, (0 : (Pat.int IntKind.i64).den))).fst, unfoldV (numP (numP ((getF b).fst, (0 : (Pat.int IntKind.i64).den))).snd).fst, unfoldV (numP (numP (numP ((getF b).fst, (0 : (Pat.int IntKind.i64).den))).snd).snd).fst, unfoldV (numP (numP (numP (numP ((getF b).fst, (0 : (Pat.int IntKind.i64).den))).snd).snd).snd).fst, unfoldV (numP (numP (numP (numP (numP ((getF b).fst, (0 : (Pat.int IntKind.i64).den))).snd).snd).snd).snd).fst, unfoldV (numP (numP (numP (numP (numP (numP ((getF b).fst, (0 : (Pat.int IntKind.i64).den))).snd).snd).snd).snd).snd).fst, (entsP (numP (numP (numP (numP (numP (numP ((getF b).fst, (0 : (Pat.int IntKind.i64).den))).snd).snd).snd).snd).snd).snd).fst, unfoldV (numP (entsP (numP (numP (numP (numP (numP (numP ((getF b).fst, (0 : (Pat.int IntKind.i64).den))).snd).snd).snd).snd).snd).snd).snd).fst, (numP (numP (entsP (numP (numP (numP (numP (numP (numP ((getF b).fst, (0 : (Pat.int IntKind.i64).den))).snd).snd).snd).snd).snd).snd).snd).snd).fst == (1 : Int), unfoldV (numP (numP (numP (entsP (numP (numP (numP (numP (numP (numP ((getF b).fst, (0 : (Pat.int IntKind.i64).den))).snd).snd).snd).snd).snd).snd).snd).snd).snd).fst, (bytesP (numP (numP (numP (entsP (numP (numP (numP (numP (numP (numP ((getF b).fst, (0 : (Pat.int IntKind.i64).den))).snd).snd).snd).snd).snd).snd).snd).snd).snd).snd).fst) then some (((0 : Int), (0 : Int), (0 : Int), (0 : Int), (0 : Int), (0 : Int), [], (0 : Int), false, (0 : Int), []), (2 : Int), ()) else bif decide ((entsP (numP (numP (numP (numP (numP (numP ((getF b).fst, (0 : (Pat.int IntKind.i64).den))).snd).snd).snd).snd).snd).snd).fst.length ≤ 100000) && decide ((bytesP (numP (numP (numP (entsP (numP (numP (numP (numP (numP (numP ((getF b).fst, (0 : (Pat.int IntKind.i64).den))).snd).snd).snd).snd).snd).snd).snd).snd).snd).snd).fst.length ≤ 1000000000) then bif !ofBytes (pieceE (unfoldV (numP ((getF b).fst, (0 : (Pat.int IntKind.i64).den))).fst, unfoldV (numP (numP ((getF b).fst, (0 : (Pat.int IntKind.i64).den))).snd).fst, unfoldV (numP (numP (numP ((getF b).fst, (0 : (Pat.int IntKind.i64).den))).snd).snd).fst, unfoldV (numP (numP (numP (numP ((getF b).fst, (0 : (Pat.int IntKind.i64).den))).snd).snd).snd).fst, unfoldV (numP (numP (numP (numP (numP ((getF b).fst, (0 : (Pat.int IntKind.i64).den))).snd).snd).snd).snd).fst, unfoldV (numP (numP (numP (numP (numP (numP ((getF b).fst, (0 : (Pat.int IntKind.i64).den))).snd).snd).snd).snd).snd).fst, (entsP (numP (numP (numP (numP (numP (numP ((getF b).fst, (0 : (Pat.int IntKind.i64).den))).snd).snd).snd).snd).snd).snd).fst, unfoldV (numP (entsP (numP (numP (numP (numP (numP (numP ((getF b).fst, (0 : (Pat.int IntKind.i64).den))).snd).snd).snd).snd).snd).snd).snd).fst, (numP (numP (entsP (numP (numP (numP (numP (numP (numP ((getF b).fst, (0 : (Pat.int IntKind.i64).den))).snd).snd).snd).snd).snd).snd).snd).snd).fst == (1 : Int), unfoldV (numP (numP (numP (entsP (numP (numP (numP (numP (numP (numP ((getF b).fst, (0 : (Pat.int IntKind.i64).den))).snd).snd).snd).snd).snd).snd).snd).snd).snd).fst, (bytesP (numP (numP (numP (entsP (numP (numP (numP (numP (numP (numP ((getF b).fst, (0 : (Pat.int IntKind.i64).den))).snd).snd).snd).snd).snd).snd).snd).snd).snd).snd).fst)) == ofBytes (getF b).fst then some (((0 : Int), (0 : Int), (0 : Int), (0 : Int), (0 : Int), (0 : Int), [], (0 : Int), false, (0 : Int), []), (2 : Int), ()) else some ((unfoldV (numP ((getF b).fst, (0 : (Pat.int IntKind.i64).den))).fst, unfoldV (numP (numP ((getF b).fst, (0 : (Pat.int IntKind.i64).den))).snd).fst, unfoldV (numP (numP (numP ((getF b).fst, (0 : (Pat.int IntKind.i64).den))).snd).snd).fst, unfoldV (numP (numP (numP (numP ((getF b).fst, (0 : (Pat.int IntKind.i64).den))).snd).snd).snd).fst, unfoldV (numP (numP (numP (numP (numP ((getF b).fst, (0 : (Pat.int IntKind.i64).den))).snd).snd).snd).snd).fst, unfoldV (numP (numP (numP (numP (numP (numP ((getF b).fst, (0 : (Pat.int IntKind.i64).den))).snd).snd).snd).snd).snd).fst, (entsP (numP (numP (numP (numP (numP (numP ((getF b).fst, (0 : (Pat.int IntKind.i64).den))).snd).snd).snd).snd).snd).snd).fst, unfoldV (numP (entsP (numP (numP (numP (numP (numP (numP ((getF b).fst, (0 : (Pat.int IntKind.i64).den))).snd).snd).snd).snd).snd).snd).snd).fst, (numP (numP (entsP (numP (numP (numP (numP (numP (numP ((getF b).fst, (0 : (Pat.int IntKind.i64).den))).snd).snd).snd).snd).snd).snd).snd).snd).fst == (1 : Int), unfoldV (numP (numP (numP (entsP (numP (numP (numP (numP (numP (numP ((getF b).fst, (0 : (Pat.int IntKind.i64).den))).snd).snd).snd).snd).snd).snd).snd).snd).snd).fst, (bytesP (numP (numP (numP (entsP (numP (numP (numP (numP (numP (numP ((getF b).fst, (0 : (Pat.int IntKind.i64).den))).snd).snd).snd).snd).snd).snd).snd).snd).snd).snd).fst), (0 : Int), ()) else none else bif (getF b).snd.fst != (↑b.length : Int) then some (((0 : Int), (0 : Int), (0 : Int), (0 : Int), (0 : Int), (0 : Int), [], (0 : Int), false, (0 : Int), []), (2 : Int), ()) else bif !((bytesP (numP (numP (numP (entsP (numP (numP (numP (numP (numP (numP ((getF b).fst, (0 : (Pat.int IntKind.i64).den))).snd).snd).snd).snd).snd).snd).snd).snd).snd).snd).snd.snd == (0 : (Pat.int IntKind.i64).den) && (↑(bytesP (numP (numP (numP (entsP (numP (numP (numP (numP (numP (numP ((getF b).fst, (0 : (Pat.int IntKind.i64).den))).snd).snd).snd).snd).snd).snd).snd).snd).snd).snd).snd.fst.length : Int) == (0 : Int)) then some (((0 : Int), (0 : Int), (0 : Int), (0 : Int), (0 : Int), (0 : Int), [], (0 : Int), false, (0 : Int), []), (2 : Int), ()) else bif !rightM (unfoldV (numP ((getF b).fst, (0 : (Pat.int IntKind.i64).den))).fst, unfoldV (numP (numP ((getF b).fst, (0 : (Pat.int IntKind.i64).den))).snd).fst, unfoldV (numP (numP (numP ((getF b).fst, (0 : (Pat.int IntKind.i64).den))).snd).snd).fst, unfoldV (numP (numP (numP (numP ((getF b).fst, (0 : (Pat.int IntKind.i64).den))).snd).snd).snd).fst, unfoldV (numP (numP (numP (numP (numP ((getF b).fst, (0 : (Pat.int IntKind.i64).den))).snd).snd).snd).snd).fst, unfoldV (numP (numP (numP (numP (numP (numP ((getF b).fst, (0 : (Pat.int IntKind.i64).den))).snd).snd).snd).snd).snd).fst, (entsP (numP (numP (numP (numP (numP (numP ((getF b).fst, (0 : (Pat.int IntKind.i64).den))).snd).snd).snd).snd).snd).snd).fst, unfoldV (numP (entsP (numP (numP (numP (numP (numP (numP ((getF b).fst, (0 : (Pat.int IntKind.i64).den))).snd).snd).snd).snd).snd).snd).snd).fst, (numP (numP (entsP (numP (numP (numP (numP (numP (numP ((getF b).fst, (0 : (Pat.int IntKind.i64).den))).snd).snd).snd).snd).snd).snd).snd).snd).fst == (1 : Int), unfoldV (numP (numP (numP (entsP (numP (numP (numP (numP (numP (numP ((getF b).fst, (0 : (Pat.int IntKind.i64).den))).snd).snd).snd).snd).snd).snd).snd).snd).snd).fst, []) then some (((0 : Int), (0 : Int), (0 : Int), (0 : Int), (0 : Int), (0 : Int), [], (0 : Int), false, (0 : Int), []), (2 : Int), ()) else bif decide ((entsP (numP (numP (numP (numP (numP (numP ((getF b).fst, (0 : (Pat.int IntKind.i64).den))).snd).snd).snd).snd).snd).snd).fst.length ≤ 100000) && true then bif !ofBytes (pieceE (unfoldV (numP ((getF b).fst, (0 : (Pat.int IntKind.i64).den))).fst, unfoldV (numP (numP ((getF b).fst, (0 : (Pat.int IntKind.i64).den))).snd).fst, unfoldV (numP (numP (numP ((getF b).fst, (0 : (Pat.int IntKind.i64).den))).snd).snd).fst, unfoldV (numP (numP (numP (numP ((getF b).fst, (0 : (Pat.int IntKind.i64).den))).snd).snd).snd).fst, unfoldV (numP (numP (numP (numP (numP ((getF b).fst, (0 : (Pat.int IntKind.i64).den))).snd).snd).snd).snd).fst, unfoldV (numP (numP (numP (numP (numP (numP ((getF b).fst, (0 : (Pat.int IntKind.i64).den))).snd).snd).snd).snd).snd).fst, (entsP (numP (numP (numP (numP (numP (numP ((getF b).fst, (0 : (Pat.int IntKind.i64).den))).snd).snd).snd).snd).snd).snd).fst, unfoldV (numP (entsP (numP (numP (numP (numP (numP (numP ((getF b).fst, (0 : (Pat.int IntKind.i64).den))).snd).snd).snd).snd).snd).snd).snd).fst, (numP (numP (entsP (numP (numP (numP (numP (numP (numP ((getF b).fst, (0 : (Pat.int IntKind.i64).den))).snd).snd).snd).snd).snd).snd).snd).snd).fst == (1 : Int), unfoldV (numP (numP (numP (entsP (numP (numP (numP (numP (numP (numP ((getF b).fst, (0 : (Pat.int IntKind.i64).den))).snd).snd).snd).snd).snd).snd).snd).snd).snd).fst, [])) == ofBytes (getF b).fst then some (((0 : Int), (0 : Int), (0 : Int), (0 : Int), (0 : Int), (0 : Int), [], (0 : Int), false, (0 : Int), []), (2 : Int), ()) else some ((unfoldV (numP ((getF b).fst, (0 : (Pat.int IntKind.i64).den))).fst, unfoldV (numP (numP ((getF b).fst, (0 : (Pat.int IntKind.i64).den))).snd).fst, unfoldV (numP (numP (numP ((getF b).fst, (0 : (Pat.int IntKind.i64).den))).snd).snd).fst, unfoldV (numP (numP (numP (numP ((getF b).fst, (0 : (Pat.int IntKind.i64).den))).snd).snd).snd).fst, unfoldV (numP (numP (numP (numP (numP ((getF b).fst, (0 : (Pat.int IntKind.i64).den))).snd).snd).snd).snd).fst, unfoldV (numP (numP (numP (numP (numP (numP ((getF b).fst, (0 : (Pat.int IntKind.i64).den))).snd).snd).snd).snd).snd).fst, (entsP (numP (numP (numP (numP (numP (numP ((getF b).fst, (0 : (Pat.int IntKind.i64).den))).snd).snd).snd).snd).snd).snd).fst, unfoldV (numP (entsP (numP (numP (numP (numP (numP (numP ((getF b).fst, (0 : (Pat.int IntKind.i64).den))).snd).snd).snd).snd).snd).snd).snd).fst, (numP (numP (entsP (numP (numP (numP (numP (numP (numP ((getF b).fst, (0 : (Pat.int IntKind.i64).den))).snd).snd).snd).snd).snd).snd).snd).snd).fst == (1 : Int), unfoldV (numP (numP (numP (entsP (numP (numP (numP (numP (numP (numP ((getF b).fst, (0 : (Pat.int IntKind.i64).den))).snd).snd).snd).snd).snd).snd).snd).snd).snd).fst, []), (0 : Int), ()) else none else none else none := by kernel_rfl

/-- The message that the bytes seem to be; what is left of them; what was wrong. -/
def candM (p : List Int) : Msg × List Int × Int :=
  let n1 := numP (p, 0)
  let n2 := numP n1.2
  let n3 := numP n2.2
  let n4 := numP n3.2
  let n5 := numP n4.2
  let n6 := numP n5.2
  let es := entsP n6.2
  let n7 := numP es.2
  let o := numP n7.2
  let n9 := numP o.2
  let t := bytesP n9.2
  ((unfoldV n1.1, unfoldV n2.1, unfoldV n3.1, unfoldV n4.1, unfoldV n5.1, unfoldV n6.1, es.1, unfoldV n7.1, o.1 == 1, unfoldV n9.1, t.1), t.2)
abbrev zeroM : Msg := (0, 0, 0, 0, 0, 0, [], 0, false, 0, [])
def judgeM (x : Msg × List Int × Int) (p : List Int) (n len : Int) : Msg × Int :=
  bif n != len then (zeroM, 2) else bif !(x.2.2 == 0 && (((x.2.1.length : Nat) : Int) == 0)) then (zeroM, 2) else bif !rightM x.1 then (zeroM, 2) else bif !(ofBytes (pieceE x.1) == ofBytes p) then (zeroM, 2) else (x.1, 0)
/-- What Read answers. -/
def readM (b : List Int) : Msg × Int := bif (getF b).2.2 != 0 then (zeroM, (getF b).2.2) else judgeM (candM (getF b).1) (getF b).1 (getF b).2.1 (b.length : Int)
theorem rightM_lens {m : Msg} (h : rightM m = true) : List.length m.2.2.2.2.2.2.1 ≤ 8 ∧ List.length m.2.2.2.2.2.2.2.2.2.2 ≤ 8388608 := by
  rw [rightM_eq] at h
  unfold rightL at h
  simp only [Bool.and_eq_true, decide_eq_true_eq] at h
  omega
theorem judgeM_fin (m : Msg) (r : List Int) (e : Int) (p : List Int) (n len : Int) : (bif n != len then some (zeroM, (2 : Int), ()) else bif !(e == 0 && (((r.length : Nat) : Int) == 0)) then some (zeroM, (2 : Int), ()) else bif !rightM m then some (zeroM, (2 : Int), ()) else
    bif decide (List.length m.2.2.2.2.2.2.1 ≤ 100000) && decide (List.length m.2.2.2.2.2.2.2.2.2.2 ≤ 1000000000) then (bif !(ofBytes (pieceE m) == ofBytes p) then some (zeroM, (2 : Int), ()) else some (m, (0 : Int), ())) else none) =
    some ((judgeM (m, r, e) p n len).1, (judgeM (m, r, e) p n len).2, ()) := by
  unfold judgeM
  simp only
  cases n != len with
  | true => rfl
  | false =>
    cases e == 0 && (((r.length : Nat) : Int) == 0) with
    | false => rfl
    | true =>
      cases h : rightM m with
      | false => rfl
      | true =>
        have hl := rightM_lens h
        rw [decide_eq_true (show List.length m.2.2.2.2.2.2.1 ≤ 100000 by omega), decide_eq_true (show List.length m.2.2.2.2.2.2.2.2.2.2 ≤ 1000000000 by omega)]
        cases ofBytes (pieceE m) == ofBytes p <;> rfl
theorem getF_len (b : List Int) : (getF b).1.length ≤ 16777216 := by
  have g1 := getG_nonneg b 0 0
  have g2 := getB_len b
  unfold getF
  simp only
  have g1 : 0 ≤ (getB b).1 := g1
  generalize getB b = g at g1 g2 ⊢
  obtain ⟨x, n, e⟩ := g
  simp only at g1 g2 ⊢
  cases he : e != 0 with
  | true => simp
  | false =>
    by_cases hx : x > 16777216
    · simp [hx]
    · simp only [hx, decide_false, cond_false]
      cases decide ((b.length : Int) - n < 4 + x) with
      | true => simp
      | false =>
        simp only [cond_false]
        cases ofBytes (List.drop n.toNat (List.take (n + 4).toNat b)) == ofBytes (writI (sumI (List.drop (n + 4).toNat (List.take (n + 4 + x).toNat b)))) with
        | false => simp
        | true => simp only [cond_true, List.length_drop, List.length_take]; omega
theorem itE_len : ∀ (k : Nat) (s : RdE), (itE k s).1.length ≤ s.1.length
  | 0, s => Nat.le_refl _
  | k + 1, s => Nat.le_trans (itE_len k (stepE s)) (stepE_len s).1
theorem entsP_len (s : List Int × Int) : (entsP s).2.1.length ≤ s.1.length := by
  unfold entsP
  exact Nat.le_trans (itE_len _ _) (countP_len s)
def caseWread : PCase := ⟨[.ty (.sl u8T)], [msgT, .int .i64], fun x => (fun (b : List Int) => [(true, ((readM b).1, (readM b).2, ()))]) x.1⟩
theorem wread_val (b : List Int) : evFn (env consY3) H.wire_Read (loopsF (env consY3) H.wire_Read 0 B.wire_Read 13) F.wire_Read [.vl u8T b] [] (finT [msgT, .int .i64]) = some ((readM b).1, (readM b).2, ()) := by
  rw [wread_ev]
  unfold readM candM
  simp only
  have hp := getF_len b
  have h1 := numP_len ((getF b).1, 0)
  have h2 := numP_len (numP ((getF b).1, 0)).2
  have h3 := numP_len (numP (numP ((getF b).1, 0)).2).2
  have h4 := numP_len (numP (numP (numP ((getF b).1, 0)).2).2).2
  have h5 := numP_len (numP (numP (numP (numP ((getF b).1, 0)).2).2).2).2
  have h6 := numP_len (numP (numP (numP (numP (numP ((getF b).1, 0)).2).2).2).2).2
  simp only at h1
  have hN6 : (numP (numP (numP (numP (numP (numP ((getF b).1, 0)).2).2).2).2).2).2.1.length ≤ 16777216 := by omega
  have hE := entsP_len (numP (numP (numP (numP (numP (numP ((getF b).1, 0)).2).2).2).2).2).2
  have h7 := numP_len (entsP (numP (numP (numP (numP (numP (numP ((getF b).1, 0)).2).2).2).2).2).2).2
  have h8 := numP_len (numP (entsP (numP (numP (numP (numP (numP (numP ((getF b).1, 0)).2).2).2).2).2).2).2).2
  have h9 := numP_len (numP (numP (entsP (numP (numP (numP (numP (numP (numP ((getF b).1, 0)).2).2).2).2).2).2).2).2).2
  rw [cond_pos (show (numP (numP (numP (numP (numP (numP ((getF b).1, 0)).2).2).2).2).2).2.1.length ≤ 140737488355328 by omega), cond_pos (by omega)]
  cases (getF b).2.2 != 0 with
  | true => rfl
  | false =>
    simp only [cond_false]
    generalize bytesP (numP (numP (numP (entsP (numP (numP (numP (numP (numP (numP ((getF b).1, 0)).2).2).2).2).2).2).2).2).2).2 = t
    obtain ⟨d, r, e⟩ := t
    cases d with
    | nil => exact judgeM_fin (_, _, _, _, _, _, _, _, _, _, []) r e _ _ _
    | cons c d =>
      have hd : decide ((((c :: d).length : Nat) : Int) > 0) = true := by simp
      simp only
      rw [hd]
      exact judgeM_fin (_, _, _, _, _, _, _, _, _, _, c :: d) r e _ _ _
theorem wread_ok : caseWread.ok P0 I.wire_Read := case_ok2 (H := H.wire_Read) (E := env consY3) (env_ok consY3_ok) glob0 mixed0 G.wire_Read Bd.wire_Read (by kernel_rfl) (loopsF_good (env_ok consY3_ok) glob0 mixed0 (by kernel_rfl) 13) fun ⟨b, ()⟩ y h hw => by
  obtain ⟨hc, rfl⟩ := pick_pre h
  exact wread_val b
end Go.Sim
namespace Go.Sim
set_option linter.unusedSimpArgs false
set_option linter.unusedVariables false
set_option maxRecDepth 10000
/-- An entry's bytes. -/
def encE (e : Ent) : List Int := putN (foldV e.1).toNat ++ (putN (bytesC e.2).length ++ bytesC e.2)
theorem putE_eq (b : List Int) (e : Ent) : putE b e = b ++ encE e := by unfold putE encE; simp only [List.append_assoc]
theorem foldE_eq : ∀ (l : List Ent) (b : List Int), l.foldl putE b = b ++ (l.map encE).flatten
  | [], b => by simp
  | e :: l, b => by rw [List.foldl_cons, foldE_eq l, putE_eq]; simp
theorem putN_pos (n : Nat) : 1 ≤ (putN n).length := by unfold putN; simp
theorem encE_pos (e : Ent) : 1 ≤ (encE e).length := by have := putN_pos (foldV e.1).toNat; unfold encE; simp only [List.length_append]; omega
theorem flatE_len : ∀ (l : List Ent), l.length ≤ ((l.map encE).flatten).length
  | [] => by simp
  | e :: l => by have := flatE_len l; have := encE_pos e; simp only [List.map_cons, List.flatten_cons, List.length_append, List.length_cons]; omega
theorem bytesP_raw (d r : List Int) (hl : d.length < 2 ^ 64) : bytesP (putN d.length ++ (d ++ r), 0) = (d, r, 0) := by
  show bytesV _ 0 = _
  unfold bytesV
  rw [numV_put _ _ hl]
  have h : ¬ ((d.length : Nat) : Int) > (((d ++ r).length : Nat) : Int) := by simp only [List.length_append]; omega
  simp only [beq_self_eq_true, cond_true, h, decide_false, cond_false, Int.toNat_natCast]
  rw [List.take_left, List.drop_left]
theorem itE_enc : ∀ (l : List Ent) (xs : List Ent) (rest : List Int), (∀ e ∈ l, badE e = false ∧ wfT entT e) → itE l.length ((l.map encE).flatten ++ rest, 0, xs) = (rest, 0, xs ++ l)
  | [], xs, rest, _ => by simp [itE]
  | e :: l, xs, rest, h => by
    obtain ⟨hb, hw⟩ := h e (by simp)
    have hr : rightC e.2 = true := by
      unfold badE at hb
      simp only [Bool.or_eq_false_iff, Bool.not_eq_false'] at hb
      exact hb.2
    have hl := bytesC_len e.2 hw.2
    have p1 := numP_put (n := e.1) hw.1
    have hs : stepE (((e :: l).map encE).flatten ++ rest, 0, xs) = ((l.map encE).flatten ++ rest, 0, xs ++ [e]) := by
      unfold stepE
      simp only [List.map_cons, List.flatten_cons, List.append_assoc]
      unfold encE
      simp only [List.append_assoc]
      rw [p1]
      simp only
      rw [bytesP_raw _ _ (by omega), read_bytes e.2 hr hw.2]
      simp only [unfold_fold, beq_self_eq_true, cond_true]
    rw [List.length_cons, itE, hs, itE_enc l _ _ (fun x hx => h x (List.mem_cons_of_mem _ hx))]
    simp
theorem entsP_enc (l : List Ent) (rest : List Int) (h8 : l.length ≤ 8) (h : ∀ e ∈ l, badE e = false ∧ wfT entT e) : entsP (putN l.length ++ ((l.map encE).flatten ++ rest), 0) = (l, rest, 0) := by
  have hf := flatE_len l
  have hc : countP (putN l.length ++ ((l.map encE).flatten ++ rest), 0) = ((l.length : Int), (l.map encE).flatten ++ rest, 0) := countV_put l.length _ (by omega) (by simp only [List.length_append]; omega)
  have hi := itE_enc l [] rest h
  unfold entsP
  rw [hc]
  simp only
  rw [cond_neg (by omega), Int.toNat_natCast, hi]
  simp
theorem numP_bool (ok : Bool) (r : List Int) : numP ((bif ok then (1 : Int) else 0) :: r, 0) = ((bif ok then (1 : Int) else 0), r, 0) := by
  cases ok with
  | true => have := numV_put 1 r (by omega); rw [putN_lt (by omega)] at this; exact this
  | false => have := numV_put 0 r (by omega); rw [putN_lt (by omega)] at this; exact this
theorem cand_piece (m : Msg) (hr : rightM m = true) (hw : wfT msgT m) : candM (pieceE m) = (m, [], 0) := by
  have hlen := rightM_lens hr
  obtain ⟨m1, m2, m3, m4, m5, m6, l, m8, ok, m10, d⟩ := m
  obtain ⟨w1, w2, w3, w4, w5, w6, w7, w8, w9, w10, w11⟩ := hw
  have p1 := numP_put (n := m1) w1
  have p2 := numP_put (n := m2) w2
  have p3 := numP_put (n := m3) w3
  have p4 := numP_put (n := m4) w4
  have p5 := numP_put (n := m5) w5
  have p6 := numP_put (n := m6) w6
  have p8 := numP_put (n := m8) w8
  have p10 := numP_put (n := m10) w10
  have hwl : ∀ e ∈ l, wfT entT e := w7.2
  have hbad : ∀ e ∈ l, badE e = false := by
    have := hr
    unfold rightM at this
    simp only [Bool.and_eq_true] at this
    have h := this.2.2.2.2.2.2.2.2.2.2.2
    intro e he
    have h2 : l.any badE = false := by simpa using h
    simpa using List.any_eq_false.1 h2 e he
  have pe := fun rest => entsP_enc l rest hlen.1 (fun e he => ⟨hbad e he, hwl e he⟩)
  have pd := bytesP_raw d [] (by have : d.length ≤ 8388608 := hlen.2; omega)
  rw [List.append_nil] at pd
  unfold candM pieceE
  simp only
  rw [foldE_eq]
  simp only [List.append_assoc, List.cons_append, List.nil_append]
  rw [p1, p2, p3, p4, p5, p6]
  simp only
  rw [pe]
  simp only
  rw [p8]
  simp only
  rw [numP_bool]
  simp only
  rw [p10]
  simp only
  rw [pd]
  simp only [unfold_fold]
  cases ok <;> rfl
theorem pieceE_len (m : Msg) (hr : rightM m = true) (hw : wfT msgT m) : (pieceE m).length ≤ 10000000 := by
  have hlen := rightM_lens hr
  obtain ⟨m1, m2, m3, m4, m5, m6, l, m8, ok, m10, d⟩ := m
  obtain ⟨w1, w2, w3, w4, w5, w6, w7, w8, w9, w10, w11⟩ := hw
  have h1 : (putN (foldV m1).toNat).length ≤ 10 := putI_len w1
  have h2 : (putN (foldV m2).toNat).length ≤ 10 := putI_len w2
  have h3 : (putN (foldV m3).toNat).length ≤ 10 := putI_len w3
  have h4 : (putN (foldV m4).toNat).length ≤ 10 := putI_len w4
  have h5 : (putN (foldV m5).toNat).length ≤ 10 := putI_len w5
  have h6 : (putN (foldV m6).toNat).length ≤ 10 := putI_len w6
  have h8 : (putN (foldV m8).toNat).length ≤ 10 := putI_len w8
  have h10 : (putN (foldV m10).toNat).length ≤ 10 := putI_len w10
  have hl : ∀ e ∈ l, wfT entT e := w7.2
  unfold pieceE
  simp only at hlen ⊢
  have hn := putN_len (n := l.length) (by omega)
  have hd := putN_len (n := d.length) (by omega)
  have hf := foldE_len l (putN (foldV m1).toNat ++ putN (foldV m2).toNat ++ putN (foldV m3).toNat ++ putN (foldV m4).toNat ++ putN (foldV m5).toNat ++ putN (foldV m6).toNat ++ putN l.length) hl
  simp only [List.length_append, List.length_cons, List.length_nil] at hf ⊢
  omega
theorem getF_frame (p rest : List Int) (hp : p.length ≤ 16777216) : getF (frameE p ++ rest) = (p, ((frameE p).length : Int), 0) := by
  have hg : getB (frameE p ++ rest) = ((p.length : Int), ((putN p.length).length : Int), 0) := by
    unfold frameE
    simp only [List.append_assoc]
    exact getB_putN p.length _ (by omega)
  have hlen : (frameE p).length = (putN p.length).length + 4 + p.length := by unfold frameE; simp only [List.length_append, writI_len]
  have e1 : ((putN p.length).length + 4 : Int).toNat = (putN p.length).length + 4 := by omega
  have e2 : (((putN p.length).length : Int) + 4 + (p.length : Int)).toNat = (putN p.length).length + 4 + p.length := by omega
  have hpl : putN p.length ++ writI (sumI p) ++ (p ++ rest) = frameE p ++ rest := by unfold frameE; simp only [List.append_assoc]
  have l4 : (putN p.length ++ writI (sumI p)).length = (putN p.length).length + 4 := by simp only [List.length_append, writI_len]
  have d1 : ((frameE p ++ rest).take ((putN p.length).length + 4 + p.length)).drop ((putN p.length).length + 4) = p := by
    rw [← hlen, List.take_left]
    unfold frameE
    rw [← l4, List.drop_left]
  have d2 : ((frameE p ++ rest).take ((putN p.length).length + 4)).drop (putN p.length).length = writI (sumI p) := by
    rw [← hpl, ← l4, List.take_left, List.drop_left]
  unfold getF
  rw [hg]
  simp only
  rw [e1, e2, d1, Int.toNat_natCast, d2, cond_neg (show ¬ (p.length : Int) > 16777216 by omega), cond_neg (by simp only [List.length_append, hlen]; omega)]
  simp only [bne_self_eq_false, cond_false, beq_self_eq_true, cond_true, hlen]
  refine Prod.ext rfl (Prod.ext ?_ rfl)
  simp only
  omega
def wbytesM (m : Msg) : List Int := bif rightM m then frameE (pieceE m) else []
theorem readM_bytes (m : Msg) (hr : rightM m = true) (hw : wfT msgT m) : readM (frameE (pieceE m)) = (m, 0) := by
  have hp := pieceE_len m hr hw
  have hg := getF_frame (pieceE m) [] (by omega)
  rw [List.append_nil] at hg
  unfold readM judgeM
  rw [hg, cand_piece m hr hw]
  simp only [hr, bne_self_eq_false, cond_false, beq_self_eq_true, List.length_nil, Int.ofNat_zero, Bool.and_self, Bool.not_true]
def caseWbytes : PCase := ⟨[.ty msgT], [.sl u8T], fun x => (fun (m : Msg) => [(true, (wbytesM m, ()))]) x.1⟩
theorem wbytes_val (m : Msg) (hw : wfT msgT m) : evFn (env consY3) H.wire_Bytes (LPof []) F.wire_Bytes [valOf msgT m] [] (finT [.sl u8T]) = some (wbytesM m, ()) := by
  rw [wbytes_ev]
  unfold wbytesM
  cases hr : rightM m with
  | false => rfl
  | true =>
    have hl := rightM_lens hr
    have hp := pieceE_len m hr hw
    have hp : List.length (pieceE m) ≤ 10000000 := hp
    simp only [Bool.not_true, cond_false, cond_true, List.nil_append]
    rw [cond_pos2 (by omega) (by omega), cond_pos (by omega)]
theorem wbytes_ok : caseWbytes.ok P0 I.wire_Bytes := case_ok2 (H := H.wire_Bytes) (E := env consY3) (env_ok consY3_ok) glob0 mixed0 G.wire_Bytes Bd.wire_Bytes (by kernel_rfl) noLoops fun ⟨m, ()⟩ y h hw => by
  obtain ⟨hc, rfl⟩ := pick_pre h
  exact wbytes_val m hw.1
end Go.Sim
namespace Go.Sim
set_option linter.unusedSimpArgs false
set_option linter.unusedVariables false
set_option maxRecDepth 10000
theorem num19_ev (n : Int) : evFn (env []) H.cooperagelaw19_num (LPof []) F.cooperagelaw19_num [.int .i64 n] [] (finT [.int .i64]) = some (n, ()) := by kernel_rfl

def caseNum19 : PCase := ⟨[.ty (.int .i64)], [.int .i64], fun x => (fun (n : Int) => [(true, (n, ()))]) x.1⟩
theorem num19_val (n : Int) : evFn (env []) H.cooperagelaw19_num (LPof []) F.cooperagelaw19_num [.int .i64 n] [] (finT [.int .i64]) = some (n, ()) := by
  rw [num19_ev]
theorem num19_ok : caseNum19.ok P0 I.cooperagelaw19_num := case_ok2 (H := H.cooperagelaw19_num) (E := env []) (env_ok env_nil) glob0 mixed0 G.cooperagelaw19_num Bd.cooperagelaw19_num (by kernel_rfl) noLoops fun ⟨n, ()⟩ y h hw => by
  obtain ⟨hc, rfl⟩ := pick_pre h
  exact num19_val n
noncomputable abbrev consZ1 : List (FuncId × Con) := [(I.cooperagelaw19_num, .pure (pureOf [caseNum19])), (I.wire_Bytes, .pure (pureOf [caseWbytes])), (I.wire_Read, .pure (pureOf [caseWread])), (I.wire_Right, .pure (pureOf [caseWright])), (I.cooperageref17_SameMessage, .pure (pureOf [caseRsame]))]
theorem consZ1_ok : ∀ x ∈ consZ1, HoldsC P0 x.1 x.2 := by
  intro x hx
  simp at hx
  rcases hx with rfl | rfl | rfl | rfl | rfl
  · exact ⟨pureOf_holds (by simp; exact num19_ok), C.cooperagelaw19_num⟩
  · exact ⟨pureOf_holds (by simp; exact wbytes_ok), C.wire_Bytes⟩
  · exact ⟨pureOf_holds (by simp; exact wread_ok), C.wire_Read⟩
  · exact ⟨pureOf_holds (by simp; exact wright_ok), C.wire_Right⟩
  · exact ⟨pureOf_holds (by simp; exact rsame_ok), C.cooperageref17_SameMessage⟩
theorem alive19_ev : evFn (env consZ1) H.cooperagelaw19_alive (LPof []) F.cooperagelaw19_alive [] [] (finT [.bool]) = some (true, ()) := by kernel_rfl

def caseAlive19 : PCase := ⟨[], [.bool], fun x => [(true, (true, ()))]⟩
theorem alive19_val  : evFn (env consZ1) H.cooperagelaw19_alive (LPof []) F.cooperagelaw19_alive [] [] (finT [.bool]) = some (true, ()) := by
  rw [alive19_ev]
theorem alive19_ok : caseAlive19.ok P0 I.cooperagelaw19_alive := case_ok2 (H := H.cooperagelaw19_alive) (E := env consZ1) (env_ok consZ1_ok) glob0 mixed0 G.cooperagelaw19_alive Bd.cooperagelaw19_alive (by kernel_rfl) noLoops fun () y h hw => by
  obtain ⟨hc, rfl⟩ := pick_pre h
  exact alive19_val
noncomputable abbrev consZ2 : List (FuncId × Con) := [(I.cooperagelaw19_alive, .pure (pureOf [caseAlive19])), (I.cooperagelaw19_Big, .pure (pureOf [caseWbig])), (I.cooperagelaw19_right, .pure (pureOf [caseWrl])), (I.cooperageref1_GetFrame, .pure (pureOf [caseRfget])), (I.cooperageref1_PutFrame, .pure (pureOf [caseRfput])), (I.wire_Same, .pure (pureOf [caseWsame]))] ++ consZ1
theorem consZ2_ok : ∀ x ∈ consZ2, HoldsC P0 x.1 x.2 := by
  intro x hx
  rcases List.mem_append.1 hx with hx | hx
  · simp at hx
    rcases hx with rfl | rfl | rfl | rfl | rfl | rfl
    · exact ⟨pureOf_holds (by simp; exact alive19_ok), C.cooperagelaw19_alive⟩
    · exact ⟨pureOf_holds (by simp; exact wbig_ok), C.cooperagelaw19_Big⟩
    · exact ⟨pureOf_holds (by simp; exact wrl_ok), C.cooperagelaw19_right⟩
    · exact ⟨pureOf_holds (by simp; exact rfget_ok), C.cooperageref1_GetFrame⟩
    · exact ⟨pureOf_holds (by simp; exact rfput_ok), C.cooperageref1_PutFrame⟩
    · exact ⟨pureOf_holds (by simp; exact wsame_ok), C.wire_Same⟩
  · exact consZ1_ok x hx
theorem wbyteslaw_ev (m : Msg) : evFn (env consZ2) H.cooperagelaw19_WireBytes (LPof []) F.cooperagelaw19_WireBytes [valOf msgT m] [] (finT [.bool]) = bif bigM m then some (true, ()) else bif !rightM m == rightL m then some (false, ()) else bif !rightM m then some ((↑(wbytesM m).length : Int) == (0 : Int), ()) else Option.bind (bif (readM (wbytesM m)).snd == (0 : Int) then bif sameMs m (readM (wbytesM m)).fst then bif ofBytes m.snd.snd.snd.snd.snd.snd.snd.snd.snd.snd == ofBytes (readM (wbytesM m)).fst.snd.snd.snd.snd.snd.snd.snd.snd.snd.snd then bif (getF (wbytesM m)).snd.snd == (0 : Int) then some ((getF (wbytesM m)).snd.fst == (↑(wbytesM m).length : Int)) else some false else some false else some false else some false) fun v => some (v, ()) := by kernel_rfl

theorem wsamelaw_ev (a b : Msg) : evFn (env consZ2) H.cooperagelaw19_WireSame (LPof []) F.cooperagelaw19_WireSame [valOf msgT a, valOf msgT b] [] (finT [.bool]) = Option.bind (bif bigM a then some true else some (bigM b)) fun v => bif v then some (true, ()) else Option.bind (bif sameMs a b then bif sameW a b == (ofBytes a.snd.snd.snd.snd.snd.snd.snd.snd.snd.snd == ofBytes b.snd.snd.snd.snd.snd.snd.snd.snd.snd.snd) then some (sameW a a) else some false else bif sameW a b == false then some (sameW a a) else some false) fun v => some (v, ()) := by kernel_rfl

theorem wreadslaw_ev (b : List Int) : evFn (env consZ2) H.cooperagelaw19_WireReads (loopsF (env consZ2) H.cooperagelaw19_WireReads 0 B.cooperagelaw19_WireReads 4) F.cooperagelaw19_WireReads [.vl u8T b] [] (finT [.bool]) = bif decide ((↑b.length : Int) > (600 : Int)) then some (true, ()) else bif (readM b).snd == (0 : Int) then Option.bind (bif !rightL (readM b).fst then some true else some ((getF b).snd.snd != (0 : Int))) fun v => bif v then some (false, ()) else bif decide (0 + b.length ≤ 140737488350000) then bif (readM ([] ++ frameE b)).snd == (0 : Int) then Option.bind (bif !rightL (readM ([] ++ frameE b)).fst then some true else some ((getF ([] ++ frameE b)).snd.snd != (0 : Int))) fun v => bif v then some (false, ()) else bif decide (0 + ([] ++ frameE b).length ≤ 140737488350000) then some (true, ()) else none else Option.bind (bif !sameMs (readM ([] ++ frameE b)).fst ((0 : Int), (0 : Int), (0 : Int), (0 : Int), (0 : Int), (0 : Int), [], (0 : Int), false, (0 : Int), []) then some true else bif decide ((↑(List.length (readM ([] ++ frameE b)).fst.snd.snd.snd.snd.snd.snd.snd.snd.snd.snd) : Int) > (0 : Int)) then some true else bif (getF ([] ++ frameE b)).snd.snd != (0 : Int) then bif (readM ([] ++ frameE b)).snd != (getF ([] ++ frameE b)).snd.snd then some true else bif (getF ([] ++ frameE b)).snd.snd == (0 : Int) then some ((readM ([] ++ frameE b)).snd != (2 : Int)) else some false else bif (getF ([] ++ frameE b)).snd.snd == (0 : Int) then some ((readM ([] ++ frameE b)).snd != (2 : Int)) else some false) fun v => bif v then some (false, ()) else bif decide (0 + ([] ++ frameE b).length ≤ 140737488350000) then some (true, ()) else none else none else Option.bind (bif !sameMs (readM b).fst ((0 : Int), (0 : Int), (0 : Int), (0 : Int), (0 : Int), (0 : Int), [], (0 : Int), false, (0 : Int), []) then some true else bif decide ((↑(List.length (readM b).fst.snd.snd.snd.snd.snd.snd.snd.snd.snd.snd) : Int) > (0 : Int)) then some true else bif (getF b).snd.snd != (0 : Int) then bif (readM b).snd != (getF b).snd.snd then some true else bif (getF b).snd.snd == (0 : Int) then some ((readM b).snd != (2 : Int)) else some false else bif (getF b).snd.snd == (0 : Int) then some ((readM b).snd != (2 : Int)) else some false) fun v => bif v then some (false, ()) else bif decide (0 + b.length ≤ 140737488350000) then bif (readM ([] ++ frameE b)).snd == (0 : Int) then Option.bind (bif !rightL (readM ([] ++ frameE b)).fst then some true else some ((getF ([] ++ frameE b)).snd.snd != (0 : Int))) fun v => bif v then some (false, ()) else bif decide (0 + ([] ++ frameE b).length ≤ 140737488350000) then some (true, ()) else none else Option.bind (bif !sameMs (readM ([] ++ frameE b)).fst ((0 : Int), (0 : Int), (0 : Int), (0 : Int), (0 : Int), (0 : Int), [], (0 : Int), false, (0 : Int), []) then some true else bif decide ((↑(List.length (readM ([] ++ frameE b)).fst.snd.snd.snd.snd.snd.snd.snd.snd.snd.snd) : Int) > (0 : Int)) then some true else bif (getF ([] ++ frameE b)).snd.snd != (0 : Int) then bif (readM ([] ++ frameE b)).snd != (getF ([] ++ frameE b)).snd.snd then some true else bif (getF ([] ++ frameE b)).snd.snd == (0 : Int) then some ((readM ([] ++ frameE b)).snd != (2 : Int)) else some false else bif (getF ([] ++ frameE b)).snd.snd == (0 : Int) then some ((readM ([] ++ frameE b)).snd != (2 : Int)) else some false) fun v => bif v then some (false, ()) else bif decide (0 + ([] ++ frameE b).length ≤ 140737488350000) then some (true, ()) else none else none := by kernel_rfl

theorem bigM_data {m : Msg} (h : bigM m = false) : List.length m.2.2.2.2.2.2.2.2.2.2 ≤ 500 := by
  unfold bigM at h
  simp only [Bool.or_eq_false_iff, decide_eq_false_iff_not] at h
  omega
theorem rightM_small {m : Msg} (h : List.length m.2.2.2.2.2.2.2.2.2.2 ≤ 500) : rightM m = rightL m := by
  rw [rightM_eq, decide_eq_true (by omega), Bool.and_true]
theorem sameMs_refl (m : Msg) : sameMs m m = true := by unfold sameMs; simp
theorem sameW_refl (m : Msg) : sameW m m = true := by unfold sameW; rw [sameMs_refl]; simp
theorem readM_facts (b : List Int) : ((readM b).2 = 0 ∧ rightL (readM b).1 = true ∧ (getF b).2.2 = 0) ∨ ((readM b).1 = zeroM ∧ (readM b).2 ≠ 0 ∧ ((getF b).2.2 ≠ 0 ∧ (readM b).2 = (getF b).2.2 ∨ (getF b).2.2 = 0 ∧ (readM b).2 = 2)) := by
  unfold readM
  by_cases h : (getF b).2.2 = 0
  · have e : ((getF b).2.2 != 0) = false := by simpa using h
    rw [e, cond_false]
    unfold judgeM
    have h2 : (2 : Int) ≠ 0 := by omega
    cases (getF b).2.1 != (b.length : Int) with
    | true => exact .inr ⟨rfl, h2, .inr ⟨h, rfl⟩⟩
    | false =>
      cases (candM (getF b).1).2.2 == 0 && ((((candM (getF b).1).2.1.length : Nat) : Int) == 0) with
      | false => exact .inr ⟨rfl, h2, .inr ⟨h, rfl⟩⟩
      | true =>
        cases hr : rightM (candM (getF b).1).1 with
        | false => exact .inr ⟨rfl, h2, .inr ⟨h, rfl⟩⟩
        | true =>
          cases ofBytes (pieceE (candM (getF b).1).1) == ofBytes (getF b).1 with
          | false => exact .inr ⟨rfl, h2, .inr ⟨h, rfl⟩⟩
          | true =>
            have hr2 := hr
            rw [rightM_eq] at hr2
            simp only [Bool.and_eq_true] at hr2
            exact .inl ⟨rfl, hr2.1, h⟩
  · have e : ((getF b).2.2 != 0) = true := by simpa using h
    rw [e, cond_true]
    exact .inr ⟨rfl, h, .inl ⟨h, rfl⟩⟩
def caseWbyteslaw : PCase := ⟨[.ty msgT], [.bool], fun x => (fun (m : Msg) => [(true, (true, ()))]) x.1⟩
theorem wbyteslaw_val (m : Msg) (hw : wfT msgT m) : evFn (env consZ2) H.cooperagelaw19_WireBytes (LPof []) F.cooperagelaw19_WireBytes [valOf msgT m] [] (finT [.bool]) = some (true, ()) := by
  rw [wbyteslaw_ev]
  cases hb : bigM m with
  | true => rfl
  | false =>
    have he := rightM_small (bigM_data hb)
    cases hr : rightM m with
    | false =>
      rw [← he, hr]
      unfold wbytesM
      rw [hr]
      rfl
    | true =>
      have hp := pieceE_len m hr hw
      have hg := getF_frame (pieceE m) [] (by omega)
      rw [List.append_nil] at hg
      have hB : wbytesM m = frameE (pieceE m) := by unfold wbytesM; rw [hr]; rfl
      rw [← he, hr, hB, readM_bytes m hr hw, hg, sameMs_refl]
      simp only [Bool.not_true, Bool.false_beq, cond_false, beq_self_eq_true, cond_true, Option.bind_some]
theorem wbyteslaw_ok : caseWbyteslaw.ok P0 I.cooperagelaw19_WireBytes := case_ok2 (H := H.cooperagelaw19_WireBytes) (E := env consZ2) (env_ok consZ2_ok) glob0 mixed0 G.cooperagelaw19_WireBytes Bd.cooperagelaw19_WireBytes (by kernel_rfl) noLoops fun ⟨m, ()⟩ y h hw => by
  obtain ⟨hc, rfl⟩ := pick_pre h
  exact wbyteslaw_val m hw.1
def caseWsamelaw : PCase := ⟨[.ty msgT, .ty msgT], [.bool], fun x => (fun (a b : Msg) => [(true, (true, ()))]) x.1 x.2.1⟩
theorem wsamelaw_val (a b : Msg) : evFn (env consZ2) H.cooperagelaw19_WireSame (LPof []) F.cooperagelaw19_WireSame [valOf msgT a, valOf msgT b] [] (finT [.bool]) = some (true, ()) := by
  rw [wsamelaw_ev, sameW_refl]
  unfold sameW
  cases bigM a <;> cases bigM b <;> cases sameMs a b <;> simp
theorem wsamelaw_ok : caseWsamelaw.ok P0 I.cooperagelaw19_WireSame := case_ok2 (H := H.cooperagelaw19_WireSame) (E := env consZ2) (env_ok consZ2_ok) glob0 mixed0 G.cooperagelaw19_WireSame Bd.cooperagelaw19_WireSame (by kernel_rfl) noLoops fun ⟨a, b, ()⟩ y h hw => by
  obtain ⟨hc, rfl⟩ := pick_pre h
  exact wsamelaw_val a b
theorem zeroM_same : sameMs zeroM (0, 0, 0, 0, 0, 0, [], 0, false, 0, []) = true := by rfl
theorem reads_step (b : List Int) (X : Option (Bool × Unit)) : (bif (readM b).2 == 0 then Option.bind (bif !rightL (readM b).1 then some true else some ((getF b).2.2 != 0)) fun v => bif v then some (false, ()) else X else
    Option.bind (bif !sameMs (readM b).1 (0, 0, 0, 0, 0, 0, [], 0, false, 0, []) then some true else bif decide (((List.length (readM b).1.2.2.2.2.2.2.2.2.2.2 : Nat) : Int) > 0) then some true else bif (getF b).2.2 != 0 then bif (readM b).2 != (getF b).2.2 then some true else bif (getF b).2.2 == 0 then some ((readM b).2 != 2) else some false else bif (getF b).2.2 == 0 then some ((readM b).2 != 2) else some false)
      fun v => bif v then some (false, ()) else X) = X := by
  rcases readM_facts b with ⟨h1, h2, h3⟩ | ⟨h1, h2, h3⟩
  · rw [h1, h2, h3]; rfl
  · have e0 : ((readM b).2 == 0) = false := by simpa using h2
    rw [e0, cond_false, h1, zeroM_same]
    rcases h3 with ⟨h4, h5⟩ | ⟨h4, h5⟩
    · have e1 : ((getF b).2.2 != 0) = true := by simpa using h4
      have e2 : ((getF b).2.2 == 0) = false := by simpa using h4
      rw [e1, e2, h5]
      simp
    · rw [h4, h5]; rfl
theorem frameE_len (p : List Int) (h : p.length ≤ 16777216) : (frameE p).length ≤ p.length + 14 := by
  have := putN_len (n := p.length) (by omega)
  unfold frameE
  simp only [List.length_append, writI_len]
  omega
def caseWreadslaw : PCase := ⟨[.ty (.sl u8T)], [.bool], fun x => (fun (b : List Int) => [(true, (true, ()))]) x.1⟩
theorem wreadslaw_val (b : List Int) : evFn (env consZ2) H.cooperagelaw19_WireReads (loopsF (env consZ2) H.cooperagelaw19_WireReads 0 B.cooperagelaw19_WireReads 4) F.cooperagelaw19_WireReads [.vl u8T b] [] (finT [.bool]) = some (true, ()) := by
  rw [wreadslaw_ev]
  by_cases h : (b.length : Int) > 600
  · rw [cond_pos h]
  · rw [cond_neg h]
    refine (reads_step b _).trans ?_
    have := frameE_len b (by omega)
    rw [List.nil_append, cond_pos (by omega)]
    refine (reads_step (frameE b) _).trans ?_
    rw [cond_pos (by omega)]
theorem wreadslaw_ok : caseWreadslaw.ok P0 I.cooperagelaw19_WireReads := case_ok2 (H := H.cooperagelaw19_WireReads) (E := env consZ2) (env_ok consZ2_ok) glob0 mixed0 G.cooperagelaw19_WireReads Bd.cooperagelaw19_WireReads (by kernel_rfl) (loopsF_good (env_ok consZ2_ok) glob0 mixed0 (by kernel_rfl) 4) fun ⟨b, ()⟩ y h hw => by
  obtain ⟨hc, rfl⟩ := pick_pre h
  exact wreadslaw_val b
theorem wbyteslaw_good (x : tysDen [msgT]) (hw : tysWf [msgT] x) : ∃ o, EffGood P0 I.cooperagelaw19_WireBytes (valsOf [msgT] x) [] (.bool true) o := wbyteslaw_ok x (true, ()) rfl hw
theorem wreadslaw_good (x : tysDen [.sl u8T]) (hw : tysWf [.sl u8T] x) : ∃ o, EffGood P0 I.cooperagelaw19_WireReads (valsOf [.sl u8T] x) [] (.bool true) o := wreadslaw_ok x (true, ()) rfl hw
theorem wsamelaw_good (x : tysDen [msgT, msgT]) (hw : tysWf [msgT, msgT] x) : ∃ o, EffGood P0 I.cooperagelaw19_WireSame (valsOf [msgT, msgT] x) [] (.bool true) o := wsamelaw_ok x (true, ()) rfl hw
end Go.Sim
namespace Go.Sim
set_option linter.unusedSimpArgs false
set_option linter.unusedVariables false
set_option maxRecDepth 10000
def U8 (l : List Int) : Prop := ∀ c ∈ l, In .u8 c
theorem U8.nil : U8 [] := fun c h => by cases h
theorem U8.append {a b : List Int} (ha : U8 a) (hb : U8 b) : U8 (a ++ b) := fun c h => (List.mem_append.1 h).elim (ha c) (hb c)
theorem U8.one {c : Int} (h : In .u8 c) : U8 [c] := fun d hd => by simp only [List.mem_cons, List.not_mem_nil, or_false] at hd; subst hd; exact h
theorem u8_putN : ∀ n : Nat, U8 (putN n) := by
  intro n
  induction n using Nat.strongRecOn with
  | ind n ih =>
    by_cases h : n < 128
    · rw [putN_lt h]; exact U8.one (In.u8'.2 (by omega))
    · rw [putN_ge h]
      exact U8.append (a := [((n % 128 + 128 : Nat) : Int)]) (U8.one (In.u8'.2 (by omega))) (ih _ (by omega))
theorem u8_bytesOf (l : List UInt8) : U8 (bytesOf l) := fun c h => by
  unfold bytesOf at h
  obtain ⟨x, _, rfl⟩ := List.mem_map.1 h
  have := x.toNat_lt
  exact In.u8'.2 (by omega)
theorem u8_encR (r : Rec) : U8 (encR r) := by
  unfold encR
  refine ((((((u8_putN _).append (u8_putN _)).append (U8.one ?_)).append (u8_putN _)).append (u8_bytesOf _)).append (u8_putN _)).append (u8_bytesOf _)
  cases r.2.2.2.2 <;> exact In.u8'.2 (by simp)
theorem u8_recs : ∀ (l : List Rec) (b : List Int), U8 b → U8 (l.foldl putR b)
  | [], b, h => h
  | r :: l, b, h => u8_recs l (putR b r) (by unfold putR; cases recR r; exact h; exact h.append (u8_encR r))
theorem u8_putI {b : List Int} (h : U8 b) (n : Int) : U8 (putI b n) := h.append (u8_putN _)
theorem u8_bytesC (c : Cmd) : U8 (bytesC c) := by
  have h1 := fun n => u8_putI U8.nil n
  unfold bytesC encC putL putT putC
  cases rightC c with
  | false => exact U8.nil
  | true =>
    simp only [cond_true]
    cases c.1 == 1 with
    | true => exact u8_recs _ _ ((u8_putI (u8_putI (h1 _) _) _).append (u8_putN _))
    | false =>
    cases c.1 == 2 with
    | true => exact u8_putI (u8_putI (h1 _) _) _
    | false =>
    cases c.1 == 3 with
    | true => exact u8_putI (((h1 _).append (u8_putN _)).append (u8_bytesOf _)) _
    | false =>
    cases c.1 == 4 with
    | true => exact ((h1 _).append (u8_putN _)).append (u8_bytesOf _)
    | false =>
    cases c.1 == 5 || c.1 == 9 with
    | true => exact u8_putI (h1 _) _
    | false =>
    cases c.1 == 6 with
    | true => exact u8_putI (u8_putI (u8_putI (u8_putI (h1 _) _) _) _) _
    | false =>
    cases c.1 == 8 with
    | true => exact u8_putI (u8_putI (h1 _) _) _
    | false =>
    cases c.1 == 11 with
    | true => exact ((((h1 _).append (u8_putN _)).append (u8_putN _)).append (u8_putN _)).append (u8_putN _)
    | false => exact h1 _
theorem u8_ents : ∀ (l : List Ent) (b : List Int), U8 b → U8 (l.foldl putE b)
  | [], b, h => h
  | e :: l, b, h => u8_ents l (putE b e) (((h.append (u8_putN _)).append (u8_putN _)).append (u8_bytesC _))
theorem u8_piece (m : Msg) (hw : wfT msgT m) : U8 (pieceE m) := by
  obtain ⟨m1, m2, m3, m4, m5, m6, l, m8, ok, m10, d⟩ := m
  have hd : U8 d := hw.2.2.2.2.2.2.2.2.2.2.2
  unfold pieceE
  refine (((((u8_ents _ _ ?_).append (u8_putN _)).append (U8.one ?_)).append (u8_putN _)).append (u8_putN _)).append hd
  · exact ((((((u8_putN _).append (u8_putN _)).append (u8_putN _)).append (u8_putN _)).append (u8_putN _)).append (u8_putN _)).append (u8_putN _)
  · cases ok <;> exact In.u8'.2 (by simp)
/-! ### Torn frames -/
theorem getG_take : ∀ (n i x t : Nat), n * 2 ^ (7 * i) < 2 ^ 64 → t < (putN n).length → (getG i x ((putN n).take t)).2.2 = 4 := by
  intro n
  induction n using Nat.strongRecOn with
  | ind n ih =>
    intro i x t hn ht
    by_cases h : n < 128
    · rw [putN_lt h] at ht ⊢
      obtain rfl : t = 0 := by simpa using ht
      rfl
    · rw [putN_ge h] at ht ⊢
      cases t with
      | zero => rfl
      | succ t =>
        have h9 : i ≠ 9 := fun h => by subst h; omega
        simp only [List.take_succ_cons, getG]
        have e1 : (decide (i = 9) && decide (((n % 128 + 128 : Nat) : Int) > 1)) = false := by simp [h9]
        have e2 : decide (((n % 128 + 128 : Nat) : Int) ≥ 128) = true := by simp; omega
        rw [e1, e2, cond_false, cond_true]
        refine ih (n / 128) (by omega) (i + 1) _ t ?_ (by simpa using ht)
        rw [pow7]
        have h1 : n / 128 * (2 ^ (7 * i) * 128) = (128 * (n / 128)) * 2 ^ (7 * i) := by rw [Nat.mul_comm (2 ^ (7 * i)) 128, ← Nat.mul_assoc, Nat.mul_comm (n / 128) 128]
        rw [h1]
        exact Nat.lt_of_le_of_lt (Nat.mul_le_mul_right _ (by omega)) hn
theorem frameE_length (p : List Int) : (frameE p).length = (putN p.length).length + 4 + p.length := by unfold frameE; simp only [List.length_append, writI_len]
theorem getF_of (n : Nat) (r : List Int) (hn : n ≤ 16777216) (hr : r.length < 4 + n) : (getF (putN n ++ r)).2.2 = 4 := by
  unfold getF
  rw [getB_putN n r (by omega)]
  simp only
  rw [cond_neg (show ¬ (n : Int) > 16777216 by omega), cond_pos (by simp only [List.length_append]; omega)]
  rfl
theorem readM_err (b : List Int) (e : Int) (he : e ≠ 0) (h : (getF b).2.2 = e) : (readM b).2 = e := by
  have e1 : ((getF b).2.2 != 0) = true := by rw [h]; simpa using he
  unfold readM
  rw [e1, cond_true, h]
theorem torn_less (p : List Int) (hp : p.length ≤ 16777216) (t : Nat) (ht : t < (frameE p).length) : (readM ((frameE p).take t)).2 = 4 := by
  have hl := frameE_length p
  have hf : frameE p = putN p.length ++ (writI (sumI p) ++ p) := by unfold frameE; simp only [List.append_assoc]
  refine readM_err _ 4 (by omega) ?_
  by_cases h : t < (putN p.length).length
  · rw [hf, List.take_append_of_le_length (by omega)]
    have := getG_take p.length 0 0 t (by omega) h
    have hg : (getB ((putN p.length).take t)).2.2 = 4 := this
    unfold getF
    simp only
    rw [hg]
    rfl
  · rw [hf, List.take_append, List.take_of_length_le (by omega)]
    exact getF_of _ _ hp (by simp only [List.length_take, List.length_append, writI_len]; omega)
theorem torn_more (p : List Int) (hp : p.length ≤ 16777216) (c : Int) : (readM (frameE p ++ [c])).2 = 2 := by
  unfold readM judgeM
  rw [getF_frame p [c] hp]
  have : (((frameE p).length : Int) != ((frameE p ++ [c]).length : Int)) = true := by simp; omega
  simp only [this, bne_self_eq_false, cond_false, cond_true]
theorem writI_inj {s u : Int} (hs : 0 ≤ s ∧ s ≤ 4294967295) (hu : 0 ≤ u ∧ u ≤ 4294967295) (h : writI s = writI u) : s = u := by
  unfold writI at h
  simp only [wrapu8_mod, List.cons.injEq, and_true] at h
  rw [Int.fdiv_eq_ediv_of_nonneg _ (by omega), Int.fdiv_eq_ediv_of_nonneg _ (by omega), Int.fdiv_eq_ediv_of_nonneg _ (by omega), Int.fdiv_eq_ediv_of_nonneg _ (by omega), Int.fdiv_eq_ediv_of_nonneg _ (by omega), Int.fdiv_eq_ediv_of_nonneg _ (by omega)] at h
  omega
theorem sumI_inj {a b : List Int} (h : sumI a = sumI b) : sumB a = sumB b := by
  unfold sumI at h
  exact BitVec.eq_of_toNat_eq (by omega)
theorem getF_bad (n : Nat) (s q : List Int) (hn : n ≤ 16777216) (hs : s.length = 4) (hq : q.length = n) (h : (ofBytes s == ofBytes (writI (sumI q))) = false) : (getF (putN n ++ (s ++ q))).2.2 = 5 := by
  have l4 : (putN n ++ s).length = (putN n).length + 4 := by rw [List.length_append, hs]
  have e1 : (((putN n).length : Int) + 4).toNat = (putN n).length + 4 := by omega
  have e2 : (((putN n).length : Int) + 4 + (n : Int)).toNat = (putN n).length + 4 + n := by omega
  have hpl : putN n ++ (s ++ q) = putN n ++ s ++ q := by simp only [List.append_assoc]
  have d1 : ((putN n ++ (s ++ q)).take ((putN n).length + 4 + n)).drop ((putN n).length + 4) = q := by
    rw [List.take_of_length_le (by simp only [List.length_append]; omega), hpl, ← l4, List.drop_left]
  have d2 : ((putN n ++ (s ++ q)).take ((putN n).length + 4)).drop (putN n).length = s := by
    rw [hpl, ← l4, List.take_left, List.drop_left]
  unfold getF
  rw [getB_putN n _ (by omega)]
  simp only
  rw [e1, e2, d1, Int.toNat_natCast, d2, cond_neg (show ¬ (n : Int) > 16777216 by omega), cond_neg (by simp only [List.length_append]; omega), h]
  simp only [bne_self_eq_false, cond_false]
theorem torn_turn (p : List Int) (hp : p.length ≤ 16777216) (hu : U8 p) (j : Nat) (hj : j < 4 + p.length) (y : Int) (hy : In .u8 y) (hne : y ≠ (frameE p).getD ((putN p.length).length + j) 0) : (readM ((frameE p).set ((putN p.length).length + j) y)).2 = 5 := by
  have hf : frameE p = putN p.length ++ (writI (sumI p) ++ p) := by unfold frameE; simp only [List.append_assoc]
  have hset : (frameE p).set ((putN p.length).length + j) y = putN p.length ++ (writI (sumI p) ++ p).set j y := by
    rw [hf, List.set_append_right _ _ (by omega), Nat.add_sub_cancel_left]
  have hget : (frameE p).getD ((putN p.length).length + j) 0 = (writI (sumI p) ++ p).getD j 0 := by
    rw [hf, List.getD_eq_getElem?_getD, List.getElem?_append_right (by omega), Nat.add_sub_cancel_left, List.getD_eq_getElem?_getD]
  rw [hget] at hne
  refine readM_err _ 5 (by omega) ?_
  rw [hset]
  have hsu := writI_in (sumI p)
  by_cases h4 : j < 4
  · rw [List.set_append_left _ _ (by rw [writI_len]; omega)]
    refine getF_bad _ _ _ hp (by rw [List.length_set, writI_len]) rfl ?_
    have hin : U8 ((writI (sumI p)).set j y) := fun c hc => by
      rcases List.mem_or_eq_of_mem_set hc with h | h
      · exact hsu c h
      · subst h; exact hy
    have : ¬ ofBytes ((writI (sumI p)).set j y) = ofBytes (writI (sumI p)) := fun h => by
      have := congrArg bytesOf h
      rw [bytes_of hin, bytes_of hsu] at this
      apply hne
      rw [List.getD_eq_getElem?_getD, List.getElem?_append_left (by rw [writI_len]; omega), ← this, List.getElem?_set_self (by rw [writI_len]; omega)]
      rfl
    simpa using this
  · rw [List.set_append_right _ _ (by rw [writI_len]; omega), writI_len]
    have hj2 : j - 4 < p.length := by omega
    refine getF_bad _ _ _ hp (writI_len _) (by rw [List.length_set]) ?_
    have : ¬ ofBytes (writI (sumI p)) = ofBytes (writI (sumI (p.set (j - 4) y))) := fun h => by
      have := congrArg bytesOf h
      rw [bytes_of hsu, bytes_of (writI_in _)] at this
      have h2 := sumI_inj (writI_inj (sumI_in _) (sumI_in _) this)
      have h3 := sumB_set hj2 hu hy h2.symm
      apply hne
      rw [List.getD_eq_getElem?_getD, List.getElem?_append_right (by rw [writI_len]; omega), writI_len, List.getElem?_eq_getElem hj2, h3]
      rfl
    simpa using this
theorem bitAnd7 (bit : Int) : (BitVec.ofInt 64 bit &&& BitVec.ofInt 64 7).toNat ≤ 7 := by
  rw [BitVec.toNat_and, show (BitVec.ofInt 64 7).toNat = 2 ^ 3 - 1 by rfl, Nat.and_two_pow_sub_one_eq_mod]
  omega
theorem turned (b : Int) (hb : In .u8 b) (k : Nat) (hk : k ≤ 7) : IntKind.u8.wrap (((BitVec.ofInt 8 b ^^^ BitVec.ofInt 8 (IntKind.u8.wrap (1 * 2 ^ min k 8))).toNat : Nat) : Int) ≠ b := by
  intro h
  have hb' := In.u8'.1 hb
  have hlt := (BitVec.ofInt 8 b ^^^ BitVec.ofInt 8 (IntKind.u8.wrap (1 * 2 ^ min k 8))).isLt
  rw [wrapu8_mod] at h
  have h1 : (BitVec.ofInt 8 b ^^^ BitVec.ofInt 8 (IntKind.u8.wrap (1 * 2 ^ min k 8))).toNat = (BitVec.ofInt 8 b).toNat := by
    rw [BitVec.toNat_ofInt]
    omega
  have h2 := BitVec.eq_of_toNat_eq h1
  have h3 : BitVec.ofInt 8 (IntKind.u8.wrap (1 * 2 ^ min k 8)) = 0#8 := by
    have := congrArg (fun w => BitVec.ofInt 8 b ^^^ w) h2
    simpa [← BitVec.xor_assoc] using this
  rcases (show k = 0 ∨ k = 1 ∨ k = 2 ∨ k = 3 ∨ k = 4 ∨ k = 5 ∨ k = 6 ∨ k = 7 by omega) with rfl | rfl | rfl | rfl | rfl | rfl | rfl | rfl <;> revert h3 <;> decide
def H.torn2 : Hint := { H.cooperagelaw19_WireTorn with vs := [67, 98] }
theorem wtornlaw_ev (m : Msg) (n bit more : Int) : evFn (env consZ2) H.torn2 (LPof []) F.cooperagelaw19_WireTorn [valOf msgT m, .int .i64 n, .int .i64 bit, .int .u8 more] [] (finT [.bool]) = Option.bind (bif bigM m then some true else bif !rightL m then some true else some (decide (n < (0 : Int)))) fun v => bif v then some (true, ()) else bif decide ((↑(wbytesM m).length : Int) < (5 : Int)) then some (false, ()) else bif decide ((↑(wbytesM m).length : Int) = (0 : Int)) then none else bif decide ((0 : Int) ≤ n.tmod (↑(wbytesM m).length : Int)) && decide (n.tmod (↑(wbytesM m).length : Int) ≤ (↑(wbytesM m).length : Int)) then bif decide ((wbytesM m).length * 1 ≤ 140737488355328) then bif decide ((wbytesM m ++ [more]).length * 1 ≤ 140737488355328) then bif decide ((wbytesM m).length * 1 ≤ 140737488355328) then bif decide (IntKind.i64.wrap ((↑(getF (wbytesM m)).fst.length : Int) + (4 : Int)) = (0 : Int)) then none else bif decide ((0 : Int) ≤ IntKind.i64.wrap (IntKind.i64.wrap (IntKind.i64.wrap ((↑(wbytesM m).length : Int) - (↑(getF (wbytesM m)).fst.length : Int)) - (4 : Int)) + n.tmod (IntKind.i64.wrap ((↑(getF (wbytesM m)).fst.length : Int) + (4 : Int))))) && decide (IntKind.i64.wrap (IntKind.i64.wrap (IntKind.i64.wrap ((↑(wbytesM m).length : Int) - (↑(getF (wbytesM m)).fst.length : Int)) - (4 : Int)) + n.tmod (IntKind.i64.wrap ((↑(getF (wbytesM m)).fst.length : Int) + (4 : Int)))) < (↑(wbytesM m).length : Int)) then bif decide (IntKind.u64.wrap (IntKind.i64.wrap (↑(BitVec.ofInt 64 bit &&& BitVec.ofInt 64 (7 : Int)).toNat : Int)) < (0 : Int)) then none else bif decide ((0 : Int) ≤ IntKind.i64.wrap (IntKind.i64.wrap (IntKind.i64.wrap ((↑(wbytesM m).length : Int) - (↑(getF (wbytesM m)).fst.length : Int)) - (4 : Int)) + n.tmod (IntKind.i64.wrap ((↑(getF (wbytesM m)).fst.length : Int) + (4 : Int))))) && decide (IntKind.i64.wrap (IntKind.i64.wrap (IntKind.i64.wrap ((↑(wbytesM m).length : Int) - (↑(getF (wbytesM m)).fst.length : Int)) - (4 : Int)) + n.tmod (IntKind.i64.wrap ((↑(getF (wbytesM m)).fst.length : Int) + (4 : Int)))) < (↑(wbytesM m).length : Int)) then Option.bind (bif (getF (wbytesM m)).snd.snd == (0 : Int) then bif (readM (List.take (n.tmod (↑(wbytesM m).length : Int)).toNat (wbytesM m))).snd == (4 : Int) then bif (readM (wbytesM m ++ [more])).snd == (2 : Int) then some ((readM ((wbytesM m).set (IntKind.i64.wrap (IntKind.i64.wrap (IntKind.i64.wrap ((↑(wbytesM m).length : Int) - (↑(getF (wbytesM m)).fst.length : Int)) - (4 : Int)) + n.tmod (IntKind.i64.wrap ((↑(getF (wbytesM m)).fst.length : Int) + (4 : Int))))).toNat (IntKind.u8.wrap (↑(BitVec.ofInt 8 ((wbytesM m).getD (IntKind.i64.wrap (IntKind.i64.wrap (IntKind.i64.wrap ((↑(wbytesM m).length : Int) - (↑(getF (wbytesM m)).fst.length : Int)) - (4 : Int)) + n.tmod (IntKind.i64.wrap ((↑(getF (wbytesM m)).fst.length : Int) + (4 : Int))))).toNat (0 : Int)) ^^^ BitVec.ofInt 8 (IntKind.u8.wrap ((1 : Int) * (2 : Int) ^ min (IntKind.u64.wrap (IntKind.i64.wrap (↑(BitVec.ofInt 64 bit &&& BitVec.ofInt 64 (7 : Int)).toNat : Int))).toNat 8))).toNat : Int)))).snd == (5 : Int)) else some false else some false else some false) fun v => some (v, ()) else none else none else none else none else none else none := by kernel_rfl

theorem wtorn_val (m : Msg) (n bit more : Int) (hw : wfT msgT m) : evFn (env consZ2) H.torn2 (LPof []) F.cooperagelaw19_WireTorn [valOf msgT m, .int .i64 n, .int .i64 bit, .int .u8 more] [] (finT [.bool]) = some (true, ()) := by
  rw [wtornlaw_ev]
  cases hb : bigM m with
  | true => rfl
  | false =>
  have he := rightM_small (bigM_data hb)
  cases hr : rightL m with
  | false => rfl
  | true =>
  by_cases hn : n < 0
  · rw [decide_eq_true hn]; rfl
  · rw [decide_eq_false hn]
    rw [hr] at he
    have hp := pieceE_len m he hw
    have hu := u8_piece m hw
    have hB : wbytesM m = frameE (pieceE m) := by unfold wbytesM; rw [he]; rfl
    rw [hB]
    have hg := getF_frame (pieceE m) [] (by omega)
    rw [List.append_nil] at hg
    rw [hg]
    have hl := frameE_length (pieceE m)
    have hpos := putN_pos (pieceE m).length
    have hpn := putN_len (n := (pieceE m).length) (by omega)
    generalize pieceE m = p at hp hu hg hl hpos hpn ⊢
    clear hB he hb hr
    simp only [Bool.not_true, cond_false, Option.bind_some]
    have hj := Int.emod_nonneg n (show (p.length : Int) + 4 ≠ 0 by omega)
    have hj2 := Int.emod_lt_of_pos n (show 0 < (p.length : Int) + 4 by omega)
    have ht := Int.emod_nonneg n (show ((frameE p).length : Int) ≠ 0 by omega)
    have ht2 := Int.emod_lt_of_pos n (show 0 < ((frameE p).length : Int) by omega)
    have w1 : IntKind.i64.wrap ((p.length : Int) + 4) = (p.length : Int) + 4 := wrap64 (by omega) (by omega)
    have w2 : IntKind.i64.wrap (((frameE p).length : Int) - (p.length : Int)) = ((frameE p).length : Int) - (p.length : Int) := wrap64 (by omega) (by omega)
    have w3 : IntKind.i64.wrap (((frameE p).length : Int) - (p.length : Int) - 4) = ((frameE p).length : Int) - (p.length : Int) - 4 := wrap64 (by omega) (by omega)
    rw [w1, w2, w3, Int.tmod_eq_emod_of_nonneg (by omega), Int.tmod_eq_emod_of_nonneg (by omega)]
    have w4 : IntKind.i64.wrap (((frameE p).length : Int) - (p.length : Int) - 4 + n % ((p.length : Int) + 4)) = ((putN p.length).length : Int) + n % ((p.length : Int) + 4) := by rw [wrap64 (by omega) (by omega)]; omega
    have hk := bitAnd7 bit
    have w5 : IntKind.u64.wrap (IntKind.i64.wrap (((BitVec.ofInt 64 bit &&& BitVec.ofInt 64 7).toNat : Nat) : Int)) = (((BitVec.ofInt 64 bit &&& BitVec.ofInt 64 7).toNat : Nat) : Int) := by
      rw [wrap64 (by omega) (by omega), wrapu64 (by omega) (by omega)]
    rw [w4, w5]
    have e1 : (((putN p.length).length : Int) + n % ((p.length : Int) + 4)).toNat = (putN p.length).length + (n % ((p.length : Int) + 4)).toNat := by omega
    rw [e1, Int.toNat_natCast]
    have hfu : U8 (frameE p) := by
      unfold frameE
      exact ((u8_putN _).append (writI_in _)).append hu
    have hat : (putN p.length).length + (n % ((p.length : Int) + 4)).toNat < (frameE p).length := by omega
    have hy := turned ((frameE p).getD ((putN p.length).length + (n % ((p.length : Int) + 4)).toNat) 0) (getD_in hfu hat) (BitVec.ofInt 64 bit &&& BitVec.ofInt 64 7).toNat hk
    have r1 := torn_less p (by omega) (n % ((frameE p).length : Int)).toNat (by omega)
    have r2 := torn_more p (by omega) more
    have r3 := torn_turn p (by omega) hu (n % ((p.length : Int) + 4)).toNat (by omega) _ (by rw [wrapu8_mod]; exact In.u8'.2 (by omega)) hy
    rw [r1, r2, r3]
    rw [cond_neg (by omega), cond_neg (by omega), cond_pos2 (by omega) (by omega), cond_pos (by omega), cond_pos (by simp only [List.length_append, List.length_cons, List.length_nil]; omega), cond_pos (by omega), cond_neg (by omega), cond_pos2 (by omega) (by omega), cond_neg (by omega), cond_pos2 (by omega) (by omega)]
    rfl
def caseTorn : PCase := ⟨[.ty msgT, .ty (.int .i64), .ty (.int .i64), .ty (.int .u8)], [.bool], fun x => [(true, (true, ()))]⟩
theorem wtorn_ok : caseTorn.ok P0 I.cooperagelaw19_WireTorn := case_ok2 (H := H.torn2) (E := env consZ2) (env_ok consZ2_ok) glob0 mixed0 G.cooperagelaw19_WireTorn Bd.cooperagelaw19_WireTorn (by kernel_rfl) noLoops fun ⟨m, n, bit, more, ()⟩ y h hw => by
  obtain ⟨hc, rfl⟩ := pick_pre h
  exact wtorn_val m n bit more hw.1
theorem wtorn_good (x : tysDen [msgT, .int .i64, .int .i64, .int .u8]) (hw : tysWf [msgT, .int .i64, .int .i64, .int .u8] x) : ∃ o, EffGood P0 I.cooperagelaw19_WireTorn (valsOf [msgT, .int .i64, .int .i64, .int .u8] x) [] (.bool true) o := wtorn_ok x (true, ()) rfl hw
end Go.Sim
namespace Go.Sim
set_option maxRecDepth 10000
open Go.Proofs Go.Proofs.YtifkijepedhbgaaDoor
/-- A package variable that is an array, read whole. -/
theorem laid_array {P : Program} {W : World} {g n t e : Nat} {y : Ty} {cs : Array Value} {fuel : Nat} {ds : List (DataW Unit)} {p : List MemPlace} (hcell : ∀ i, W.cell? ⟨g, i, none⟩ = cs[i]?) (ht : P.underlying t = some (.array n e))
    (hd : DataW.trod (fun _ => ()) P W 0 (fun _ => true) false fuel t cs.toList = some (.agg ds, p)) (hsz : P.cellsOf e = y.sz) {xs : List y.den} (hlen : xs.length = n) (hn : n ≤ maxL)
    (hel : ∀ (i : Nat) x d (m : Nat) cs' p', xs[i]? = some x → ds[i]? = some d → DataW.trod (fun _ => ()) P W 0 (fun _ => true) false m e cs' = some (d, p') → Vt (phi0 W) W y x cs') :
    Vt (phi0 W) W (.sl y) xs [.slice (some ⟨g, 0, none⟩) xs.length xs.length] := by
  obtain ⟨zs, m, _, ex, hc, hz, hE⟩ := DataW.trod_array ht hd
  have hds : ds = zs.map (·.1) := DataW.agg.inj (Prod.mk.inj ex).1
  refine ⟨by rw [hlen]; exact hn, some ⟨g, 0, none⟩, xs.length, rfl, Nat.le_refl _, fun i x hx => ?_⟩
  have hi : i < n := by have := (List.getElem?_eq_some_iff.1 hx).1; omega
  have h1 := hE i hi
  rw [List.getElem?_eq_getElem (by omega : i < zs.length)] at h1
  have h2 : ds[i]? = some (zs[i]'(by omega)).1 := by rw [hds, List.getElem?_map, List.getElem?_eq_getElem (by omega : i < zs.length)]; rfl
  refine ⟨⟨g, 0, none⟩, _, rfl, rfl, hel i x _ m _ _ hx h2 h1, fun j v hj => ?_⟩
  have hj2 : cs.toList[i * y.sz + j]? = some v := by
    rw [hsz] at hj
    have hjl := (List.getElem?_eq_some_iff.1 hj).1
    rw [List.getElem?_take_of_lt (by rw [List.length_take] at hjl; omega), List.getElem?_drop] at hj
    exact hj
  have hc2 : W.cell? ⟨g, 0 + i * y.sz + j, none⟩ = some v := by
    rw [hcell, Nat.zero_add, ← Array.getElem?_toList]
    exact hj2
  exact ⟨hc2, (cell_phi0 hc2).2.1⟩
theorem pin_first : (Go.Pinned.utf8First : DataW Unit) = .agg (utf8First.map fun n => .lit (.int .u8 n)) := by kernel_rfl
theorem acc_laid : (Rows.laid_unicode_utf8_acceptRanges : DataW Unit) = .agg (utf8Acc.map fun x => .agg [.lit (.int .u8 x.1), .lit (.int .u8 x.2)]) := by kernel_rfl
theorem get_map {α β : Type} {f : α → β} {l : List α} {i : Nat} {x : α} {d : β} (hx : l[i]? = some x) (hd : (l.map f)[i]? = some d) : d = f x := by
  rw [List.getElem?_map, hx] at hd
  exact (Option.some.inj hd).symm
theorem laidN {W : World} (h : laidMetH Tryd.prog [("unicode/utf8.acceptRanges", Rows.laid_unicode_utf8_acceptRanges), ("unicode/utf8.first", Rows.laid_unicode_utf8_first)] W) : LaidT P0 (phi0 W) W := by
  rw [MakeChecks.laidMetH_plain _ _ _ (by kernel_rfl)] at h
  obtain ⟨ps, ⟨g1, t1, cs1, fuel1, p1, q1, hg1, ht1, hv1, hd1, ⟨g0, t0, cs0, fuel0, p0, q0, hg0, ht0, hv0, hd0, _, _⟩, _⟩, _, _⟩ := h
  have e1 := Option.some.inj ((show Tryd.prog.globalNamed "unicode/utf8.acceptRanges" = some 1 by kernel_rfl).symm.trans hg1)
  have e0 := Option.some.inj ((show Tryd.prog.globalNamed "unicode/utf8.first" = some 0 by kernel_rfl).symm.trans hg0)
  subst e1; subst e0
  have f1 := Option.some.inj ((show (Tryd.prog.globals[1]?).map (·.type) = some 131 by kernel_rfl).symm.trans ht1)
  have f0 := Option.some.inj ((show (Tryd.prog.globals[0]?).map (·.type) = some 128 by kernel_rfl).symm.trans ht0)
  subst f1; subst f0
  have hd0' : DataW.trod (fun _ => ()) Tryd.prog W 0 (fun _ => true) false fuel0 128 cs0.toList = some (.agg (utf8First.map fun n => .lit (.int .u8 n)), p0) := by rw [← pin_first]; exact hd0
  rw [acc_laid] at hd1
  have hint : ∀ (m : Nat) cs' (n : Int) p', DataW.trod (fun _ => ()) Tryd.prog W 0 (fun _ => true) false m 5 cs' = some (.lit (.int .u8 n), p') → cs' = [.int .u8 n] ∧ In .u8 n := fun m cs' n p' hm => by
    obtain ⟨z, z1, z2, z3⟩ := DataW.trod_int (k := .u8) (show Tryd.prog.underlying 5 = some (.int .u8) by kernel_rfl) hm
    have : n = z := by simpa using (Prod.mk.inj z2).1
    subst this
    exact ⟨z1, wf_In z3⟩
  intro x hx
  simp only [Tabs.tab, List.mem_cons, List.mem_nil_iff, or_false] at hx
  rcases hx with rfl | rfl
  · refine laid_array (fun i => World.var?_cell hg0 hv0 i) (show Tryd.prog.underlying 128 = some (.array 256 5) by kernel_rfl) hd0' (by kernel_rfl) utf8First_length (by decide) fun i x d m cs' p' hx hd ht => ?_
    have := get_map hx hd
    subst this
    exact hint m cs' x p' ht
  · refine laid_array (fun i => World.var?_cell hg1 hv1 i) (show Tryd.prog.underlying 131 = some (.array 16 130) by kernel_rfl) hd1 (by kernel_rfl) rfl (by decide) fun i x d m cs' p' hx hd ht => ?_
    have := get_map hx hd
    subst this
    obtain ⟨zs, m', _, ex, hc, hz, hE⟩ := DataW.trod_struct Tryd.underlying130 ht
    have c5 : Tryd.prog.cellsOf 5 = 1 := by kernel_rfl
    have c61 : Tryd.prog.cellsOf 130 = 2 := by kernel_rfl
    have a0 := hE 0 _ rfl
    have a1 := hE 1 _ rfl
    have hz2 : zs.length = 2 := hz
    obtain ⟨z0, z1, rfl⟩ : ∃ z0 z1, zs = [z0, z1] := by
      match zs, hz2 with
      | [z0, z1], _ => exact ⟨z0, z1, rfl⟩
    rw [c61] at hc
    obtain ⟨u0, u1, rfl⟩ : ∃ u0 u1, cs' = [u0, u1] := by
      match cs', hc with
      | [u0, u1], _ => exact ⟨u0, u1, rfl⟩
    have ex2 := (Prod.mk.inj ex).1
    simp only [List.map_cons, List.map_nil, DataW.agg.injEq, List.cons.injEq, and_true] at ex2
    obtain ⟨y0, p0'⟩ := z0
    obtain ⟨y1, p1'⟩ := z1
    obtain ⟨rfl, rfl⟩ := ex2
    have b0 := hint m' [u0] x.1 p0' (by rw [← show (([u0, u1] : List Value).drop 0).take (Tryd.prog.cellsOf 5) = [u0] by rw [c5]; rfl]; exact a0)
    have b1 := hint m' [u1] x.2 p1' (by rw [← show (([u0, u1] : List Value).drop 1).take (Tryd.prog.cellsOf 5) = [u1] by rw [c5]; rfl]; exact a1)
    exact ⟨[u0], [u1], rfl, b0, b1⟩
end Go.Sim
