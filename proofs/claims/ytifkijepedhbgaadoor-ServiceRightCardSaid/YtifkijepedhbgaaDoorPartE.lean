/-
  WkS4: the walks of ServiceChecks and ServiceRight. · LdN: what the rows say of the tables of package utf8 holds of the tables of PlTab.
-/
import Derived.Test.YtifkijepedhbgaaDoorRows
import Derived.OpenShut
import Derived.MakeChecks
import Derived.FnData
import Derived.Test.YtifkijepedhbgaaDoorPartD
namespace Go.Sim
set_option linter.unusedSimpArgs false
set_option linter.unusedVariables false
theorem num21_ev (n : Int) : evFn (env []) H.cooperagelaw21_num (LPof []) F.cooperagelaw21_num [.int .i64 n] [] (finT [.int .i64]) =
  some (n, ()) := by kernel_rfl

def caseNum21 : PCase := ⟨[.ty (.int .i64)], [.int .i64], fun x => (fun (n : Int) => [(true, (n, ()))]) x.1⟩
theorem num21_val (n : Int) : evFn (env []) H.cooperagelaw21_num (LPof []) F.cooperagelaw21_num [.int .i64 n] [] (finT [.int .i64]) = some (n, ()) := by
  rw [num21_ev]
theorem num21_ok : caseNum21.ok P0 I.cooperagelaw21_num := case_ok2 (H := H.cooperagelaw21_num) (E := env []) (env_ok env_nil) glob0 mixed0 G.cooperagelaw21_num Bd.cooperagelaw21_num (by kernel_rfl) noLoops fun ⟨n, ()⟩ y h hw => by
  obtain ⟨hc, rfl⟩ := pick_pre h
  exact num21_val n
noncomputable abbrev consL1 : List (FuncId × Con) := [(I.cooperagelaw21_num, .pure (pureOf [caseNum21])), (I.service_Check, .pure (pureOf [caseCheck])), (I.service_Changes, .pure (pureOf [caseChanges]))]
theorem consL1_ok : ∀ x ∈ consL1, HoldsC P0 x.1 x.2 := by
  intro x hx
  simp at hx
  rcases hx with rfl | rfl | rfl
  · exact ⟨pureOf_holds (by simp; exact num21_ok), C.cooperagelaw21_num⟩
  · exact ⟨pureOf_holds (by simp; exact check_ok), C.service_Check⟩
  · exact ⟨pureOf_holds (by simp; exact changes_ok), C.service_Changes⟩
theorem alive21_ev : evFn (env consL1) H.cooperagelaw21_alive (LPof []) F.cooperagelaw21_alive [] [] (finT [.bool]) =
  some (true, ()) := by kernel_rfl
def caseAlive21 : PCase := ⟨[], [.bool], fun x => [(true, (true, ()))]⟩
theorem alive21_val  : evFn (env consL1) H.cooperagelaw21_alive (LPof []) F.cooperagelaw21_alive [] [] (finT [.bool]) = some (true, ()) := by
  rw [alive21_ev]
theorem alive21_ok : caseAlive21.ok P0 I.cooperagelaw21_alive := case_ok2 (H := H.cooperagelaw21_alive) (E := env consL1) (env_ok consL1_ok) glob0 mixed0 G.cooperagelaw21_alive Bd.cooperagelaw21_alive (by kernel_rfl) noLoops fun () y h hw => by
  obtain ⟨hc, rfl⟩ := pick_pre h
  exact alive21_val
noncomputable abbrev consL2 : List (FuncId × Con) := [(I.cooperagelaw21_alive, .pure (pureOf [caseAlive21])), (I.cooperagelaw10_Big, .pure (pureOf [caseBig])), (I.cooperageref10_Check, .pure (pureOf [caseRcheck])), (I.cooperageref10_Right, .pure (pureOf [caseRright]))] ++ consL1
theorem consL2_ok : ∀ x ∈ consL2, HoldsC P0 x.1 x.2 := by
  intro x hx
  rcases List.mem_append.1 hx with hx | hx
  · simp at hx
    rcases hx with rfl | rfl | rfl | rfl
    · exact ⟨pureOf_holds (by simp; exact alive21_ok), C.cooperagelaw21_alive⟩
    · exact ⟨pureOf_holds (by simp; exact big_ok), C.cooperagelaw10_Big⟩
    · exact ⟨pureOf_holds (by simp; exact rcheck_ok), C.cooperageref10_Check⟩
    · exact ⟨pureOf_holds (by simp; exact rright_ok), C.cooperageref10_Right⟩
  · exact consL1_ok x hx
theorem schecks_ev (c : Cmd) : evFn (env consL2) H.cooperagelaw21_ServiceChecks (LPof []) F.cooperagelaw21_ServiceChecks [valOf cmdT c] [] (finT [.bool]) =
  bif bigC c then some (true, ())
  else
    Option.bind
      (bif checkC c == checkC c then
        bif c.fst == (1 : Int) then some ((c.fst == (1 : Int) || (c.fst == (3 : Int) || c.fst == (6 : Int))) == true)
        else
          bif c.fst == (3 : Int) then some ((c.fst == (1 : Int) || (c.fst == (3 : Int) || c.fst == (6 : Int))) == true)
          else some ((c.fst == (1 : Int) || (c.fst == (3 : Int) || c.fst == (6 : Int))) == (c.fst == (6 : Int)))
      else some false)
      fun v => some (v, ()) := by kernel_rfl

theorem sright_ev (c : Cmd) : evFn (env consL2) H.cooperagelaw21_ServiceRight (LPof []) F.cooperagelaw21_ServiceRight [valOf cmdT c] [] (finT [.bool]) =
  bif bigC c then some (true, ())
  else
    Option.bind (bif decide (c.fst ≥ (1 : Int)) then some (decide (c.fst ≤ (6 : Int))) else some false) fun v =>
      Option.bind (bif v then some ((checkC c == (0 : Int)) == rightC c) else some ((checkC c == (0 : Int)) == false)) fun v => some (v, ()) := by kernel_rfl
def caseSchecks : PCase := ⟨[.ty cmdT], [.bool], fun x => (fun (c : Cmd) => [(true, (true, ()))]) x.1⟩
theorem schecks_val (c : Cmd) : evFn (env consL2) H.cooperagelaw21_ServiceChecks (LPof []) F.cooperagelaw21_ServiceChecks [valOf cmdT c] [] (finT [.bool]) = some (true, ()) := by
  rw [schecks_ev]
  cases bigC c with
  | true => rfl
  | false => cases c.1 == 1 <;> cases c.1 == 3 <;> cases c.1 == 6 <;> simp
theorem schecks_ok : caseSchecks.ok P0 I.cooperagelaw21_ServiceChecks := case_ok2 (H := H.cooperagelaw21_ServiceChecks) (E := env consL2) (env_ok consL2_ok) glob0 mixed0 G.cooperagelaw21_ServiceChecks Bd.cooperagelaw21_ServiceChecks (by kernel_rfl) noLoops fun ⟨c, ()⟩ y h hw => by
  obtain ⟨hc, rfl⟩ := pick_pre h
  exact schecks_val c
def caseSright : PCase := ⟨[.ty cmdT], [.bool], fun x => (fun (c : Cmd) => [(true, (true, ()))]) x.1⟩
theorem sright_val (c : Cmd) : evFn (env consL2) H.cooperagelaw21_ServiceRight (LPof []) F.cooperagelaw21_ServiceRight [valOf cmdT c] [] (finT [.bool]) = some (true, ()) := by
  rw [sright_ev, check_right]
  unfold withinB
  cases bigC c with
  | true => rfl
  | false => cases decide (c.1 ≥ 1) <;> cases decide (c.1 ≤ 6) <;> cases rightC c <;> rfl
theorem sright_ok : caseSright.ok P0 I.cooperagelaw21_ServiceRight := case_ok2 (H := H.cooperagelaw21_ServiceRight) (E := env consL2) (env_ok consL2_ok) glob0 mixed0 G.cooperagelaw21_ServiceRight Bd.cooperagelaw21_ServiceRight (by kernel_rfl) noLoops fun ⟨c, ()⟩ y h hw => by
  obtain ⟨hc, rfl⟩ := pick_pre h
  exact sright_val c
theorem schecks_good (x : tysDen [cmdT]) (hw : tysWf [cmdT] x) : ∃ o, EffGood P0 I.cooperagelaw21_ServiceChecks (valsOf [cmdT] x) [] (.bool true) o := schecks_ok x (true, ()) rfl hw
theorem sright_good (x : tysDen [cmdT]) (hw : tysWf [cmdT] x) : ∃ o, EffGood P0 I.cooperagelaw21_ServiceRight (valsOf [cmdT] x) [] (.bool true) o := sright_ok x (true, ()) rfl hw

end Go.Sim
namespace Go.Sim
set_option maxRecDepth 10000
open Go.Proofs Go.Proofs.YtifkijepedhbgaaDoor
/-- A package variable that is an array, read whole. -/
theorem laid_array {P : Program} {W : World} {g n t e : Nat} {y : Ty} {cs : Array Value} {fuel : Nat} {ds : List (DataW Unit)} {p : List MemPlace} (hcell : ∀ i, W.cell? ⟨g, i, none⟩ = cs[i]?) (ht : P.underlying t = some (.array n e))
    (hd : DataW.trod (fun _ => ()) P W 0 (fun _ => true) false fuel t cs.toList = some (.agg ds, p)) (hsz : P.cellsOf e = y.sz) {xs : List y.den} (hlen : xs.length = n) (hn : n ≤ maxL)
    (hel : ∀ (i : Nat) x d (m : Nat) cs' p', xs[i]? = some x → ds[i]? = some d → DataW.trod (fun _ => ()) P W 0 (fun _ => true) false m e cs' = some (d, p') → Vt (phi0 W) W y x cs') :
    Vt (phi0 W) W (.sl y) xs [.slice (some ⟨g, 0, none⟩) xs.length xs.length] := by
  obtain ⟨zs, m, _, ex, hc, hz, hE⟩ := DataW.trod_array ht hd
  have hds : ds = zs.map (·.1) := DataW.agg.inj (Prod.mk.inj ex).1
  refine ⟨by rw [hlen]; exact hn, some ⟨g, 0, none⟩, xs.length, rfl, Nat.le_refl _, fun i x hx => ?_⟩
  have hi : i < n := by have := (List.getElem?_eq_some_iff.1 hx).1; omega
  have h1 := hE i hi
  rw [List.getElem?_eq_getElem (by omega : i < zs.length)] at h1
  have h2 : ds[i]? = some (zs[i]'(by omega)).1 := by rw [hds, List.getElem?_map, List.getElem?_eq_getElem (by omega : i < zs.length)]; rfl
  refine ⟨⟨g, 0, none⟩, _, rfl, rfl, hel i x _ m _ _ hx h2 h1, fun j v hj => ?_⟩
  have hj2 : cs.toList[i * y.sz + j]? = some v := by
    rw [hsz] at hj
    have hjl := (List.getElem?_eq_some_iff.1 hj).1
    rw [List.getElem?_take_of_lt (by rw [List.length_take] at hjl; omega), List.getElem?_drop] at hj
    exact hj
  have hc2 : W.cell? ⟨g, 0 + i * y.sz + j, none⟩ = some v := by
    rw [hcell, Nat.zero_add, ← Array.getElem?_toList]
    exact hj2
  exact ⟨hc2, (cell_phi0 hc2).2.1⟩
theorem pin_first : (Go.Pinned.utf8First : DataW Unit) = .agg (utf8First.map fun n => .lit (.int .u8 n)) := by kernel_rfl
theorem acc_laid : (Rows.laid_unicode_utf8_acceptRanges : DataW Unit) = .agg (utf8Acc.map fun x => .agg [.lit (.int .u8 x.1), .lit (.int .u8 x.2)]) := by kernel_rfl
theorem get_map {α β : Type} {f : α → β} {l : List α} {i : Nat} {x : α} {d : β} (hx : l[i]? = some x) (hd : (l.map f)[i]? = some d) : d = f x := by
  rw [List.getElem?_map, hx] at hd
  exact (Option.some.inj hd).symm
theorem laidN {W : World} (h : laidMetH Tryd.prog [("unicode/utf8.acceptRanges", Rows.laid_unicode_utf8_acceptRanges), ("unicode/utf8.first", Rows.laid_unicode_utf8_first)] W) : LaidT P0 (phi0 W) W := by
  rw [MakeChecks.laidMetH_plain _ _ _ (by kernel_rfl)] at h
  obtain ⟨ps, ⟨g1, t1, cs1, fuel1, p1, q1, hg1, ht1, hv1, hd1, ⟨g0, t0, cs0, fuel0, p0, q0, hg0, ht0, hv0, hd0, _, _⟩, _⟩, _, _⟩ := h
  have e1 := Option.some.inj ((show Tryd.prog.globalNamed "unicode/utf8.acceptRanges" = some 1 by kernel_rfl).symm.trans hg1)
  have e0 := Option.some.inj ((show Tryd.prog.globalNamed "unicode/utf8.first" = some 0 by kernel_rfl).symm.trans hg0)
  subst e1; subst e0
  have f1 := Option.some.inj ((show (Tryd.prog.globals[1]?).map (·.type) = some 131 by kernel_rfl).symm.trans ht1)
  have f0 := Option.some.inj ((show (Tryd.prog.globals[0]?).map (·.type) = some 128 by kernel_rfl).symm.trans ht0)
  subst f1; subst f0
  have hd0' : DataW.trod (fun _ => ()) Tryd.prog W 0 (fun _ => true) false fuel0 128 cs0.toList = some (.agg (utf8First.map fun n => .lit (.int .u8 n)), p0) := by rw [← pin_first]; exact hd0
  rw [acc_laid] at hd1
  have hint : ∀ (m : Nat) cs' (n : Int) p', DataW.trod (fun _ => ()) Tryd.prog W 0 (fun _ => true) false m 5 cs' = some (.lit (.int .u8 n), p') → cs' = [.int .u8 n] ∧ In .u8 n := fun m cs' n p' hm => by
    obtain ⟨z, z1, z2, z3⟩ := DataW.trod_int (k := .u8) (show Tryd.prog.underlying 5 = some (.int .u8) by kernel_rfl) hm
    have : n = z := by simpa using (Prod.mk.inj z2).1
    subst this
    exact ⟨z1, wf_In z3⟩
  intro x hx
  simp only [Tabs.tab, List.mem_cons, List.mem_nil_iff, or_false] at hx
  rcases hx with rfl | rfl
  · refine laid_array (fun i => World.var?_cell hg0 hv0 i) (show Tryd.prog.underlying 128 = some (.array 256 5) by kernel_rfl) hd0' (by kernel_rfl) utf8First_length (by decide) fun i x d m cs' p' hx hd ht => ?_
    have := get_map hx hd
    subst this
    exact hint m cs' x p' ht
  · refine laid_array (fun i => World.var?_cell hg1 hv1 i) (show Tryd.prog.underlying 131 = some (.array 16 130) by kernel_rfl) hd1 (by kernel_rfl) rfl (by decide) fun i x d m cs' p' hx hd ht => ?_
    have := get_map hx hd
    subst this
    obtain ⟨zs, m', _, ex, hc, hz, hE⟩ := DataW.trod_struct Tryd.underlying130 ht
    have c5 : Tryd.prog.cellsOf 5 = 1 := by kernel_rfl
    have c61 : Tryd.prog.cellsOf 130 = 2 := by kernel_rfl
    have a0 := hE 0 _ rfl
    have a1 := hE 1 _ rfl
    have hz2 : zs.length = 2 := hz
    obtain ⟨z0, z1, rfl⟩ : ∃ z0 z1, zs = [z0, z1] := by
      match zs, hz2 with
      | [z0, z1], _ => exact ⟨z0, z1, rfl⟩
    rw [c61] at hc
    obtain ⟨u0, u1, rfl⟩ : ∃ u0 u1, cs' = [u0, u1] := by
      match cs', hc with
      | [u0, u1], _ => exact ⟨u0, u1, rfl⟩
    have ex2 := (Prod.mk.inj ex).1
    simp only [List.map_cons, List.map_nil, DataW.agg.injEq, List.cons.injEq, and_true] at ex2
    obtain ⟨y0, p0'⟩ := z0
    obtain ⟨y1, p1'⟩ := z1
    obtain ⟨rfl, rfl⟩ := ex2
    have b0 := hint m' [u0] x.1 p0' (by rw [← show (([u0, u1] : List Value).drop 0).take (Tryd.prog.cellsOf 5) = [u0] by rw [c5]; rfl]; exact a0)
    have b1 := hint m' [u1] x.2 p1' (by rw [← show (([u0, u1] : List Value).drop 1).take (Tryd.prog.cellsOf 5) = [u1] by rw [c5]; rfl]; exact a1)
    exact ⟨[u0], [u1], rfl, b0, b1⟩
end Go.Sim
