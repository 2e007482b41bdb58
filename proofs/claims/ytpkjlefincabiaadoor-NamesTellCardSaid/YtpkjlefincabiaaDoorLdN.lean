/-
  LdN: what the rows say of the tables of package utf8 holds of the tables of PlTab.
-/
import Derived.Test.YtpkjlefincabiaaDoorRows
import Derived.Test.YtpkjlefincabiaaDoorEnvN
import Derived.Test.YtpkjlefincabiaaDoorSimEntry
import Derived.OpenShut
import Derived.MakeChecks
import Derived.FnData
namespace Go.Sim
open Go.Proofs Go.Proofs.YtpkjlefincabiaaDoor
/-- A package variable that is an array, read whole. -/
theorem laid_array {P : Program} {W : World} {g n t e : Nat} {y : Ty} {cs : Array Value} {fuel : Nat} {ds : List (DataW Unit)} {p : List MemPlace} (hcell : ∀ i, W.cell? ⟨g, i, none⟩ = cs[i]?) (ht : P.underlying t = some (.array n e))
    (hd : DataW.trod (fun _ => ()) P W 0 (fun _ => true) false fuel t cs.toList = some (.agg ds, p)) (hsz : P.cellsOf e = y.sz) {xs : List y.den} (hlen : xs.length = n) (hn : n ≤ maxL)
    (hel : ∀ (i : Nat) x d (m : Nat) cs' p', xs[i]? = some x → ds[i]? = some d → DataW.trod (fun _ => ()) P W 0 (fun _ => true) false m e cs' = some (d, p') → Vt (phi0 W) W y x cs') :
    Vt (phi0 W) W (.sl y) xs [.slice (some ⟨g, 0, none⟩) xs.length xs.length] := by
  obtain ⟨zs, m, _, ex, hc, hz, hE⟩ := DataW.trod_array ht hd
  have hds : ds = zs.map (·.1) := DataW.agg.inj (Prod.mk.inj ex).1
  refine ⟨by rw [hlen]; exact hn, some ⟨g, 0, none⟩, xs.length, rfl, Nat.le_refl _, fun i x hx => ?_⟩
  have hi : i < n := by have := (List.getElem?_eq_some_iff.1 hx).1; omega
  have h1 := hE i hi
  rw [List.getElem?_eq_getElem (by omega : i < zs.length)] at h1
  have h2 : ds[i]? = some (zs[i]'(by omega)).1 := by rw [hds, List.getElem?_map, List.getElem?_eq_getElem (by omega : i < zs.length)]; rfl
  refine ⟨⟨g, 0, none⟩, _, rfl, rfl, hel i x _ m _ _ hx h2 h1, fun j v hj => ?_⟩
  have hj2 : cs.toList[i * y.sz + j]? = some v := by
    rw [hsz] at hj
    have hjl := (List.getElem?_eq_some_iff.1 hj).1
    rw [List.getElem?_take_of_lt (by rw [List.length_take] at hjl; omega), List.getElem?_drop] at hj
    exact hj
  have hc2 : W.cell? ⟨g, 0 + i * y.sz + j, none⟩ = some v := by
    rw [hcell, Nat.zero_add, ← Array.getElem?_toList]
    exact hj2
  exact ⟨hc2, (cell_phi0 hc2).2.1⟩
theorem pin_first : (Go.Pinned.utf8First : DataW Unit) = .agg (utf8First.map fun n => .lit (.int .u8 n)) := by kernel_rfl
theorem acc_laid : (Rows.laid_unicode_utf8_acceptRanges : DataW Unit) = .agg (utf8Acc.map fun x => .agg [.lit (.int .u8 x.1), .lit (.int .u8 x.2)]) := by kernel_rfl
theorem get_map {α β : Type} {f : α → β} {l : List α} {i : Nat} {x : α} {d : β} (hx : l[i]? = some x) (hd : (l.map f)[i]? = some d) : d = f x := by
  rw [List.getElem?_map, hx] at hd
  exact (Option.some.inj hd).symm
theorem laidN {W : World} (h : laidMetH Tryd.prog [("unicode/utf8.acceptRanges", Rows.laid_unicode_utf8_acceptRanges), ("unicode/utf8.first", Rows.laid_unicode_utf8_first)] W) : LaidT P0 (phi0 W) W := by
  rw [MakeChecks.laidMetH_plain _ _ _ (by kernel_rfl)] at h
  obtain ⟨ps, ⟨g1, t1, cs1, fuel1, p1, q1, hg1, ht1, hv1, hd1, ⟨g0, t0, cs0, fuel0, p0, q0, hg0, ht0, hv0, hd0, _, _⟩, _⟩, _, _⟩ := h
  have e1 := Option.some.inj ((show Tryd.prog.globalNamed "unicode/utf8.acceptRanges" = some 1 by kernel_rfl).symm.trans hg1)
  have e0 := Option.some.inj ((show Tryd.prog.globalNamed "unicode/utf8.first" = some 0 by kernel_rfl).symm.trans hg0)
  subst e1; subst e0
  have f1 := Option.some.inj ((show (Tryd.prog.globals[1]?).map (·.type) = some 62 by kernel_rfl).symm.trans ht1)
  have f0 := Option.some.inj ((show (Tryd.prog.globals[0]?).map (·.type) = some 59 by kernel_rfl).symm.trans ht0)
  subst f1; subst f0
  have hd0' : DataW.trod (fun _ => ()) Tryd.prog W 0 (fun _ => true) false fuel0 59 cs0.toList = some (.agg (utf8First.map fun n => .lit (.int .u8 n)), p0) := by rw [← pin_first]; exact hd0
  rw [acc_laid] at hd1
  have hint : ∀ (m : Nat) cs' (n : Int) p', DataW.trod (fun _ => ()) Tryd.prog W 0 (fun _ => true) false m 5 cs' = some (.lit (.int .u8 n), p') → cs' = [.int .u8 n] ∧ In .u8 n := fun m cs' n p' hm => by
    obtain ⟨z, z1, z2, z3⟩ := DataW.trod_int (k := .u8) (show Tryd.prog.underlying 5 = some (.int .u8) by kernel_rfl) hm
    have : n = z := by simpa using (Prod.mk.inj z2).1
    subst this
    exact ⟨z1, wf_In z3⟩
  intro x hx
  simp only [Tabs.tab, List.mem_cons, List.mem_nil_iff, or_false] at hx
  rcases hx with rfl | rfl
  · refine laid_array (fun i => World.var?_cell hg0 hv0 i) (show Tryd.prog.underlying 59 = some (.array 256 5) by kernel_rfl) hd0' (by kernel_rfl) utf8First_length (by decide) fun i x d m cs' p' hx hd ht => ?_
    have := get_map hx hd
    subst this
    exact hint m cs' x p' ht
  · refine laid_array (fun i => World.var?_cell hg1 hv1 i) (show Tryd.prog.underlying 62 = some (.array 16 61) by kernel_rfl) hd1 (by kernel_rfl) rfl (by decide) fun i x d m cs' p' hx hd ht => ?_
    have := get_map hx hd
    subst this
    obtain ⟨zs, m', _, ex, hc, hz, hE⟩ := DataW.trod_struct Tryd.underlying61 ht
    have c5 : Tryd.prog.cellsOf 5 = 1 := by kernel_rfl
    have c61 : Tryd.prog.cellsOf 61 = 2 := by kernel_rfl
    have a0 := hE 0 _ rfl
    have a1 := hE 1 _ rfl
    have hz2 : zs.length = 2 := hz
    obtain ⟨z0, z1, rfl⟩ : ∃ z0 z1, zs = [z0, z1] := by
      match zs, hz2 with
      | [z0, z1], _ => exact ⟨z0, z1, rfl⟩
    rw [c61] at hc
    obtain ⟨u0, u1, rfl⟩ : ∃ u0 u1, cs' = [u0, u1] := by
      match cs', hc with
      | [u0, u1], _ => exact ⟨u0, u1, rfl⟩
    have ex2 := (Prod.mk.inj ex).1
    simp only [List.map_cons, List.map_nil, DataW.agg.injEq, List.cons.injEq, and_true] at ex2
    obtain ⟨y0, p0'⟩ := z0
    obtain ⟨y1, p1'⟩ := z1
    obtain ⟨rfl, rfl⟩ := ex2
    have b0 := hint m' [u0] x.1 p0' (by rw [← show (([u0, u1] : List Value).drop 0).take (Tryd.prog.cellsOf 5) = [u0] by rw [c5]; rfl]; exact a0)
    have b1 := hint m' [u1] x.2 p1' (by rw [← show (([u0, u1] : List Value).drop 1).take (Tryd.prog.cellsOf 5) = [u1] by rw [c5]; rfl]; exact a1)
    exact ⟨[u0], [u1], rfl, b0, b1⟩
end Go.Sim
