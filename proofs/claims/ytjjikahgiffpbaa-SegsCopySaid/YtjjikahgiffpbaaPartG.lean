/-
  WkW5: the document's log: Retain, Merge. · WkUH: a log of segments: Offload. · WkW6: the document's log: Offload. · WkK1: walks of package clean (Keep) for the newer seats. · WkR9: walks for SegsFold: what records fold to, and what is too big. · WkUC: walks of a log of segments: Clean. · WkUE: a log of segments: Clean. · WkRA: walks of the law SegsFold. · WkRB: SegsFold: what calls leave of a log. · WkW7: what holds of a log's segments after any calls. · WkW8: the document's log and the program's are the same; what holds of them stays. · WkW9: both logs' cleans are the same; rightness; what stays. · SimMk: a function of whose objects only some named ones keep their numbers; the others go over to it.
-/
import Derived.Test.YtjjikahgiffpbaaPartF
namespace Go.Sim
set_option linter.unusedSimpArgs false
set_option linter.unusedVariables false
set_option maxRecDepth 10000
noncomputable def rdropO (c : Cnf) (now : Int) (f : List Seg) : Nat := hold (dropN c now f)
noncomputable def caseRdropO : VCase := ⟨[.lit (.hw 0), cnfP, .int .i64], [.arr 10 segT []], .int .i64, [.arr 10 segT []], fun ⟨_, ⟨c1, c2, c3, c4, _⟩, now, _⟩ ⟨⟨f, _⟩, _⟩ =>
  [(true, (((rdropO (c1, c2, c3, c4) now f : Nat) : Int), ((f, ()), ())))]⟩
theorem rdropO_view (c : Cnf) (now : Int) (f : List Seg) : bviews (fun l => ([AObj.arr 10 segT f []][l]?).getD .dead) caseRDrop.ins [.hw 0, .agg (enc confTy c), .int .i64 now] = some (f ++ [], c, now, ()) := by kernel_rfl
theorem rdropo_ok : caseRdropO.e.ok P0 I.f10 := fun ⟨_, ⟨c1, c2, c3, c4, _⟩, now, _⟩ ⟨⟨f, _⟩, _⟩ r objs' hxy hw1 hw2 => by
  obtain ⟨z', hz, e0⟩ := pick_mapAlt hxy
  cases e0
  obtain ⟨hc, rfl⟩ := pick_pre hz
  refine (brw_holds rdrop_ok rfl C.f10).1 [.hw 0, .agg (enc confTy (c1, c2, c3, c4)), .int .i64 now] [AObj.arr 10 segT f []] _ _ ?_ (Nat.le_refl _)
  unfold brwOf
  rw [rdropO_view, List.append_nil]
  unfold rdropO
  rw [hold_eq]
  rfl
noncomputable abbrev consW5 : List (FuncId × Con) := [(I.f10, .eff (effOf [caseRdropO.e]))] ++ consW4
theorem consW5_ok : ∀ x ∈ consW5, HoldsC P0 x.1 x.2 := by
  intro x hx
  rcases List.mem_append.1 hx with hx | hx
  · simp at hx
    subst hx
    exact ⟨fun args objs r objs2 h _ => effOf_holds (by simp; exact rdropo_ok) args objs r objs2 h, C.f10⟩
  · exact consW4_ok x hx
theorem rret_ev (c : Cnf) (now : Int) (f : List Seg) : evFnM 1 (env consW5) H.f19 (LPof []) F.f19 [.ptr 0 (.tl 0) 0, valOf confTy c, .int .i64 now] [.arr 1 .bool [] [[.hw 1]], .arr 10 segT f []] (finVM (.lit (.tup [])) docQ 1 2) = bif decide ((0 : Int) ≤ (↑(rdropO c now f) : Int)) && decide ((↑(rdropO c now f) : Int) ≤ (↑f.length : Int)) then bif decide ((List.take (f.length - rdropO c now f) (List.drop (rdropO c now f) f)).length * 80 ≤ 140737488355328) then some ((), (((), ()), ()), (), (List.take (f.length - rdropO c now f) (List.drop (rdropO c now f) f), ()), ()) else none else none := by kernel_rfl
def H.rmerge2 : Hint := { H.f17 with vs := [92] }
theorem rme_rd {R : Type} (most i : Int) (q : Bool) (f : List Seg) (K : Ex → St → Option R) : roundK (env consW5) H.rmerge2 1 (LPof []) V.f17_2 L.f17_2 ⟨[(0, .ptr 0 (.tl 0) 0), (1, .int .i64 most), (4, .bool q), (5, .int .i64 i)], [(0, .arr 1 .bool [] [[.hw 1]]), (1, .arr 10 segT f [])], 2⟩ K = bif decide (IntKind.i64.wrap (i + (2 : Int)) < (↑f.length : Int)) then bif decide ((0 : Int) ≤ i) && decide (i < (↑f.length : Int)) then bif decide ((0 : Int) ≤ IntKind.i64.wrap (i + (1 : Int))) && decide (IntKind.i64.wrap (i + (1 : Int)) < (↑f.length : Int)) then Option.bind (bif (f.getD i.toNat segTy.zero).2.2.2.2.2.2.2.1 then some true else bif (f.getD (IntKind.i64.wrap (i + (1 : Int))).toNat segTy.zero).2.2.2.2.2.2.2.1 then some true else some (decide (IntKind.i64.wrap ((↑(List.length (f.getD i.toNat segTy.zero).2.2.2.2.1) : Int) + (↑(List.length (f.getD (IntKind.i64.wrap (i + (1 : Int))).toNat segTy.zero).2.2.2.2.1) : Int)) > most))) fun v => bif v then K .normal { slots := [(0, .ptr 0 (.tl 0) 0), (1, .int .i64 most), (4, .bool q), (5, .int .i64 (IntKind.i64.wrap (i + (1 : Int))))], objs := [(0, .arr 1 .bool [] [[.hw 1]]), (1, .arr 10 segTy f [])], nx := 2 } else bif (f.getD i.toNat segTy.zero).2.2.2.2.2.2.1 then bif decide ((f.getD (IntKind.i64.wrap (i + (1 : Int))).toNat segTy.zero).2.2.1 > (f.getD i.toNat segTy.zero).2.2.1) then bif decide ((f.getD (IntKind.i64.wrap (i + (1 : Int))).toNat segTy.zero).2.2.2.1 > (f.getD i.toNat segTy.zero).2.2.2.1) then bif decide (List.length (f.getD i.toNat segTy.zero).2.2.2.2.1 * 56 ≤ 140737488355328) then bif decide (((f.getD i.toNat segTy.zero).2.2.2.2.1 ++ (f.getD (IntKind.i64.wrap (i + (1 : Int))).toNat segTy.zero).2.2.2.2.1).length * 56 ≤ 140737488355328) then bif decide (((f.getD i.toNat segTy.zero).2.2.2.2.1 ++ (f.getD (IntKind.i64.wrap (i + (1 : Int))).toNat segTy.zero).2.2.2.2.1).length ≤ 1000000000) then bif decide ((0 : Int) ≤ i) && decide (i ≤ (↑f.length : Int)) then bif decide ((List.take i.toNat f).length * 80 ≤ 140737488355328) then bif decide ((List.take i.toNat f ++ [((f.getD i.toNat segTy.zero).1, (f.getD (IntKind.i64.wrap (i + (1 : Int))).toNat segTy.zero).2.1, (f.getD (IntKind.i64.wrap (i + (1 : Int))).toNat segTy.zero).2.2.1, IntKind.i64.wrap ((f.getD (IntKind.i64.wrap (i + (1 : Int))).toNat segTy.zero).2.2.2.1 + (1 : Int)), (f.getD i.toNat segTy.zero).2.2.2.2.1 ++ (f.getD (IntKind.i64.wrap (i + (1 : Int))).toNat segTy.zero).2.2.2.2.1, true, (f.getD (IntKind.i64.wrap (i + (1 : Int))).toNat segTy.zero).2.2.2.2.2.2.1, false, (↑(bytS ((f.getD i.toNat segTy.zero).2.2.2.2.1 ++ (f.getD (IntKind.i64.wrap (i + (1 : Int))).toNat segTy.zero).2.2.2.2.1)).length : Int), (0 : Int))]).length * 80 ≤ 140737488355328) then bif decide ((0 : Int) ≤ IntKind.i64.wrap (i + (2 : Int))) && decide (IntKind.i64.wrap (i + (2 : Int)) ≤ (↑f.length : Int)) then bif decide ((List.take i.toNat f ++ [((f.getD i.toNat segTy.zero).1, (f.getD (IntKind.i64.wrap (i + (1 : Int))).toNat segTy.zero).2.1, (f.getD (IntKind.i64.wrap (i + (1 : Int))).toNat segTy.zero).2.2.1, IntKind.i64.wrap ((f.getD (IntKind.i64.wrap (i + (1 : Int))).toNat segTy.zero).2.2.2.1 + (1 : Int)), (f.getD i.toNat segTy.zero).2.2.2.2.1 ++ (f.getD (IntKind.i64.wrap (i + (1 : Int))).toNat segTy.zero).2.2.2.2.1, true, (f.getD (IntKind.i64.wrap (i + (1 : Int))).toNat segTy.zero).2.2.2.2.2.2.1, false, (↑(bytS ((f.getD i.toNat segTy.zero).2.2.2.2.1 ++ (f.getD (IntKind.i64.wrap (i + (1 : Int))).toNat segTy.zero).2.2.2.2.1)).length : Int), (0 : Int))] ++ List.take (f.length - (IntKind.i64.wrap (i + (2 : Int))).toNat) (List.drop (IntKind.i64.wrap (i + (2 : Int))).toNat f)).length * 80 ≤ 140737488355328) then K .ret { slots := [(0, .ptr 0 (.tl 0) 0), (1, .int .i64 most), (4, .bool true), (5, .int .i64 i)], objs := [(0, .arr 1 .bool [] [[.hw 1]]), (1, .arr 10 segTy (List.take i.toNat f ++ [((f.getD i.toNat segTy.zero).1, (f.getD (IntKind.i64.wrap (i + (1 : Int))).toNat segTy.zero).2.1, (f.getD (IntKind.i64.wrap (i + (1 : Int))).toNat segTy.zero).2.2.1, IntKind.i64.wrap ((f.getD (IntKind.i64.wrap (i + (1 : Int))).toNat segTy.zero).2.2.2.1 + (1 : Int)), (f.getD i.toNat segTy.zero).2.2.2.2.1 ++ (f.getD (IntKind.i64.wrap (i + (1 : Int))).toNat segTy.zero).2.2.2.2.1, true, (f.getD (IntKind.i64.wrap (i + (1 : Int))).toNat segTy.zero).2.2.2.2.2.2.1, false, (↑(bytS ((f.getD i.toNat segTy.zero).2.2.2.2.1 ++ (f.getD (IntKind.i64.wrap (i + (1 : Int))).toNat segTy.zero).2.2.2.2.1)).length : Int), (0 : Int))] ++ List.take (f.length - (IntKind.i64.wrap (i + (2 : Int))).toNat) (List.drop (IntKind.i64.wrap (i + (2 : Int))).toNat f)) [])], nx := 2 } else none else none else none else none else none else none else none else none else bif decide (List.length (f.getD i.toNat segTy.zero).2.2.2.2.1 * 56 ≤ 140737488355328) then bif decide (((f.getD i.toNat segTy.zero).2.2.2.2.1 ++ (f.getD (IntKind.i64.wrap (i + (1 : Int))).toNat segTy.zero).2.2.2.2.1).length * 56 ≤ 140737488355328) then bif decide (((f.getD i.toNat segTy.zero).2.2.2.2.1 ++ (f.getD (IntKind.i64.wrap (i + (1 : Int))).toNat segTy.zero).2.2.2.2.1).length ≤ 1000000000) then bif decide ((0 : Int) ≤ i) && decide (i ≤ (↑f.length : Int)) then bif decide ((List.take i.toNat f).length * 80 ≤ 140737488355328) then bif decide ((List.take i.toNat f ++ [((f.getD i.toNat segTy.zero).1, (f.getD (IntKind.i64.wrap (i + (1 : Int))).toNat segTy.zero).2.1, (f.getD (IntKind.i64.wrap (i + (1 : Int))).toNat segTy.zero).2.2.1, IntKind.i64.wrap ((f.getD i.toNat segTy.zero).2.2.2.1 + (1 : Int)), (f.getD i.toNat segTy.zero).2.2.2.2.1 ++ (f.getD (IntKind.i64.wrap (i + (1 : Int))).toNat segTy.zero).2.2.2.2.1, true, (f.getD (IntKind.i64.wrap (i + (1 : Int))).toNat segTy.zero).2.2.2.2.2.2.1, false, (↑(bytS ((f.getD i.toNat segTy.zero).2.2.2.2.1 ++ (f.getD (IntKind.i64.wrap (i + (1 : Int))).toNat segTy.zero).2.2.2.2.1)).length : Int), (0 : Int))]).length * 80 ≤ 140737488355328) then bif decide ((0 : Int) ≤ IntKind.i64.wrap (i + (2 : Int))) && decide (IntKind.i64.wrap (i + (2 : Int)) ≤ (↑f.length : Int)) then bif decide ((List.take i.toNat f ++ [((f.getD i.toNat segTy.zero).1, (f.getD (IntKind.i64.wrap (i + (1 : Int))).toNat segTy.zero).2.1, (f.getD (IntKind.i64.wrap (i + (1 : Int))).toNat segTy.zero).2.2.1, IntKind.i64.wrap ((f.getD i.toNat segTy.zero).2.2.2.1 + (1 : Int)), (f.getD i.toNat segTy.zero).2.2.2.2.1 ++ (f.getD (IntKind.i64.wrap (i + (1 : Int))).toNat segTy.zero).2.2.2.2.1, true, (f.getD (IntKind.i64.wrap (i + (1 : Int))).toNat segTy.zero).2.2.2.2.2.2.1, false, (↑(bytS ((f.getD i.toNat segTy.zero).2.2.2.2.1 ++ (f.getD (IntKind.i64.wrap (i + (1 : Int))).toNat segTy.zero).2.2.2.2.1)).length : Int), (0 : Int))] ++ List.take (f.length - (IntKind.i64.wrap (i + (2 : Int))).toNat) (List.drop (IntKind.i64.wrap (i + (2 : Int))).toNat f)).length * 80 ≤ 140737488355328) then K .ret { slots := [(0, .ptr 0 (.tl 0) 0), (1, .int .i64 most), (4, .bool true), (5, .int .i64 i)], objs := [(0, .arr 1 .bool [] [[.hw 1]]), (1, .arr 10 segTy (List.take i.toNat f ++ [((f.getD i.toNat segTy.zero).1, (f.getD (IntKind.i64.wrap (i + (1 : Int))).toNat segTy.zero).2.1, (f.getD (IntKind.i64.wrap (i + (1 : Int))).toNat segTy.zero).2.2.1, IntKind.i64.wrap ((f.getD i.toNat segTy.zero).2.2.2.1 + (1 : Int)), (f.getD i.toNat segTy.zero).2.2.2.2.1 ++ (f.getD (IntKind.i64.wrap (i + (1 : Int))).toNat segTy.zero).2.2.2.2.1, true, (f.getD (IntKind.i64.wrap (i + (1 : Int))).toNat segTy.zero).2.2.2.2.2.2.1, false, (↑(bytS ((f.getD i.toNat segTy.zero).2.2.2.2.1 ++ (f.getD (IntKind.i64.wrap (i + (1 : Int))).toNat segTy.zero).2.2.2.2.1)).length : Int), (0 : Int))] ++ List.take (f.length - (IntKind.i64.wrap (i + (2 : Int))).toNat) (List.drop (IntKind.i64.wrap (i + (2 : Int))).toNat f)) [])], nx := 2 } else none else none else none else none else none else none else none else none else bif decide ((f.getD (IntKind.i64.wrap (i + (1 : Int))).toNat segTy.zero).2.2.2.1 > (f.getD i.toNat segTy.zero).2.2.2.1) then bif decide (List.length (f.getD i.toNat segTy.zero).2.2.2.2.1 * 56 ≤ 140737488355328) then bif decide (((f.getD i.toNat segTy.zero).2.2.2.2.1 ++ (f.getD (IntKind.i64.wrap (i + (1 : Int))).toNat segTy.zero).2.2.2.2.1).length * 56 ≤ 140737488355328) then bif decide (((f.getD i.toNat segTy.zero).2.2.2.2.1 ++ (f.getD (IntKind.i64.wrap (i + (1 : Int))).toNat segTy.zero).2.2.2.2.1).length ≤ 1000000000) then bif decide ((0 : Int) ≤ i) && decide (i ≤ (↑f.length : Int)) then bif decide ((List.take i.toNat f).length * 80 ≤ 140737488355328) then bif decide ((List.take i.toNat f ++ [((f.getD i.toNat segTy.zero).1, (f.getD (IntKind.i64.wrap (i + (1 : Int))).toNat segTy.zero).2.1, (f.getD i.toNat segTy.zero).2.2.1, IntKind.i64.wrap ((f.getD (IntKind.i64.wrap (i + (1 : Int))).toNat segTy.zero).2.2.2.1 + (1 : Int)), (f.getD i.toNat segTy.zero).2.2.2.2.1 ++ (f.getD (IntKind.i64.wrap (i + (1 : Int))).toNat segTy.zero).2.2.2.2.1, true, (f.getD (IntKind.i64.wrap (i + (1 : Int))).toNat segTy.zero).2.2.2.2.2.2.1, false, (↑(bytS ((f.getD i.toNat segTy.zero).2.2.2.2.1 ++ (f.getD (IntKind.i64.wrap (i + (1 : Int))).toNat segTy.zero).2.2.2.2.1)).length : Int), (0 : Int))]).length * 80 ≤ 140737488355328) then bif decide ((0 : Int) ≤ IntKind.i64.wrap (i + (2 : Int))) && decide (IntKind.i64.wrap (i + (2 : Int)) ≤ (↑f.length : Int)) then bif decide ((List.take i.toNat f ++ [((f.getD i.toNat segTy.zero).1, (f.getD (IntKind.i64.wrap (i + (1 : Int))).toNat segTy.zero).2.1, (f.getD i.toNat segTy.zero).2.2.1, IntKind.i64.wrap ((f.getD (IntKind.i64.wrap (i + (1 : Int))).toNat segTy.zero).2.2.2.1 + (1 : Int)), (f.getD i.toNat segTy.zero).2.2.2.2.1 ++ (f.getD (IntKind.i64.wrap (i + (1 : Int))).toNat segTy.zero).2.2.2.2.1, true, (f.getD (IntKind.i64.wrap (i + (1 : Int))).toNat segTy.zero).2.2.2.2.2.2.1, false, (↑(bytS ((f.getD i.toNat segTy.zero).2.2.2.2.1 ++ (f.getD (IntKind.i64.wrap (i + (1 : Int))).toNat segTy.zero).2.2.2.2.1)).length : Int), (0 : Int))] ++ List.take (f.length - (IntKind.i64.wrap (i + (2 : Int))).toNat) (List.drop (IntKind.i64.wrap (i + (2 : Int))).toNat f)).length * 80 ≤ 140737488355328) then K .ret { slots := [(0, .ptr 0 (.tl 0) 0), (1, .int .i64 most), (4, .bool true), (5, .int .i64 i)], objs := [(0, .arr 1 .bool [] [[.hw 1]]), (1, .arr 10 segTy (List.take i.toNat f ++ [((f.getD i.toNat segTy.zero).1, (f.getD (IntKind.i64.wrap (i + (1 : Int))).toNat segTy.zero).2.1, (f.getD i.toNat segTy.zero).2.2.1, IntKind.i64.wrap ((f.getD (IntKind.i64.wrap (i + (1 : Int))).toNat segTy.zero).2.2.2.1 + (1 : Int)), (f.getD i.toNat segTy.zero).2.2.2.2.1 ++ (f.getD (IntKind.i64.wrap (i + (1 : Int))).toNat segTy.zero).2.2.2.2.1, true, (f.getD (IntKind.i64.wrap (i + (1 : Int))).toNat segTy.zero).2.2.2.2.2.2.1, false, (↑(bytS ((f.getD i.toNat segTy.zero).2.2.2.2.1 ++ (f.getD (IntKind.i64.wrap (i + (1 : Int))).toNat segTy.zero).2.2.2.2.1)).length : Int), (0 : Int))] ++ List.take (f.length - (IntKind.i64.wrap (i + (2 : Int))).toNat) (List.drop (IntKind.i64.wrap (i + (2 : Int))).toNat f)) [])], nx := 2 } else none else none else none else none else none else none else none else none else bif decide (List.length (f.getD i.toNat segTy.zero).2.2.2.2.1 * 56 ≤ 140737488355328) then bif decide (((f.getD i.toNat segTy.zero).2.2.2.2.1 ++ (f.getD (IntKind.i64.wrap (i + (1 : Int))).toNat segTy.zero).2.2.2.2.1).length * 56 ≤ 140737488355328) then bif decide (((f.getD i.toNat segTy.zero).2.2.2.2.1 ++ (f.getD (IntKind.i64.wrap (i + (1 : Int))).toNat segTy.zero).2.2.2.2.1).length ≤ 1000000000) then bif decide ((0 : Int) ≤ i) && decide (i ≤ (↑f.length : Int)) then bif decide ((List.take i.toNat f).length * 80 ≤ 140737488355328) then bif decide ((List.take i.toNat f ++ [((f.getD i.toNat segTy.zero).1, (f.getD (IntKind.i64.wrap (i + (1 : Int))).toNat segTy.zero).2.1, (f.getD i.toNat segTy.zero).2.2.1, IntKind.i64.wrap ((f.getD i.toNat segTy.zero).2.2.2.1 + (1 : Int)), (f.getD i.toNat segTy.zero).2.2.2.2.1 ++ (f.getD (IntKind.i64.wrap (i + (1 : Int))).toNat segTy.zero).2.2.2.2.1, true, (f.getD (IntKind.i64.wrap (i + (1 : Int))).toNat segTy.zero).2.2.2.2.2.2.1, false, (↑(bytS ((f.getD i.toNat segTy.zero).2.2.2.2.1 ++ (f.getD (IntKind.i64.wrap (i + (1 : Int))).toNat segTy.zero).2.2.2.2.1)).length : Int), (0 : Int))]).length * 80 ≤ 140737488355328) then bif decide ((0 : Int) ≤ IntKind.i64.wrap (i + (2 : Int))) && decide (IntKind.i64.wrap (i + (2 : Int)) ≤ (↑f.length : Int)) then bif decide ((List.take i.toNat f ++ [((f.getD i.toNat segTy.zero).1, (f.getD (IntKind.i64.wrap (i + (1 : Int))).toNat segTy.zero).2.1, (f.getD i.toNat segTy.zero).2.2.1, IntKind.i64.wrap ((f.getD i.toNat segTy.zero).2.2.2.1 + (1 : Int)), (f.getD i.toNat segTy.zero).2.2.2.2.1 ++ (f.getD (IntKind.i64.wrap (i + (1 : Int))).toNat segTy.zero).2.2.2.2.1, true, (f.getD (IntKind.i64.wrap (i + (1 : Int))).toNat segTy.zero).2.2.2.2.2.2.1, false, (↑(bytS ((f.getD i.toNat segTy.zero).2.2.2.2.1 ++ (f.getD (IntKind.i64.wrap (i + (1 : Int))).toNat segTy.zero).2.2.2.2.1)).length : Int), (0 : Int))] ++ List.take (f.length - (IntKind.i64.wrap (i + (2 : Int))).toNat) (List.drop (IntKind.i64.wrap (i + (2 : Int))).toNat f)).length * 80 ≤ 140737488355328) then K .ret { slots := [(0, .ptr 0 (.tl 0) 0), (1, .int .i64 most), (4, .bool true), (5, .int .i64 i)], objs := [(0, .arr 1 .bool [] [[.hw 1]]), (1, .arr 10 segTy (List.take i.toNat f ++ [((f.getD i.toNat segTy.zero).1, (f.getD (IntKind.i64.wrap (i + (1 : Int))).toNat segTy.zero).2.1, (f.getD i.toNat segTy.zero).2.2.1, IntKind.i64.wrap ((f.getD i.toNat segTy.zero).2.2.2.1 + (1 : Int)), (f.getD i.toNat segTy.zero).2.2.2.2.1 ++ (f.getD (IntKind.i64.wrap (i + (1 : Int))).toNat segTy.zero).2.2.2.2.1, true, (f.getD (IntKind.i64.wrap (i + (1 : Int))).toNat segTy.zero).2.2.2.2.2.2.1, false, (↑(bytS ((f.getD i.toNat segTy.zero).2.2.2.2.1 ++ (f.getD (IntKind.i64.wrap (i + (1 : Int))).toNat segTy.zero).2.2.2.2.1)).length : Int), (0 : Int))] ++ List.take (f.length - (IntKind.i64.wrap (i + (2 : Int))).toNat) (List.drop (IntKind.i64.wrap (i + (2 : Int))).toNat f)) [])], nx := 2 } else none else none else none else none else none else none else none else none else bif decide ((f.getD (IntKind.i64.wrap (i + (1 : Int))).toNat segTy.zero).2.2.1 > (f.getD i.toNat segTy.zero).2.2.1) then bif decide ((f.getD (IntKind.i64.wrap (i + (1 : Int))).toNat segTy.zero).2.2.2.1 > (f.getD i.toNat segTy.zero).2.2.2.1) then bif decide (List.length (f.getD i.toNat segTy.zero).2.2.2.2.1 * 56 ≤ 140737488355328) then bif decide (((f.getD i.toNat segTy.zero).2.2.2.2.1 ++ (f.getD (IntKind.i64.wrap (i + (1 : Int))).toNat segTy.zero).2.2.2.2.1).length * 56 ≤ 140737488355328) then bif decide (((f.getD i.toNat segTy.zero).2.2.2.2.1 ++ (f.getD (IntKind.i64.wrap (i + (1 : Int))).toNat segTy.zero).2.2.2.2.1).length ≤ 1000000000) then bif decide ((0 : Int) ≤ i) && decide (i ≤ (↑f.length : Int)) then bif decide ((List.take i.toNat f).length * 80 ≤ 140737488355328) then bif decide ((List.take i.toNat f ++ [((f.getD i.toNat segTy.zero).1, (f.getD (IntKind.i64.wrap (i + (1 : Int))).toNat segTy.zero).2.1, (f.getD (IntKind.i64.wrap (i + (1 : Int))).toNat segTy.zero).2.2.1, IntKind.i64.wrap ((f.getD (IntKind.i64.wrap (i + (1 : Int))).toNat segTy.zero).2.2.2.1 + (1 : Int)), (f.getD i.toNat segTy.zero).2.2.2.2.1 ++ (f.getD (IntKind.i64.wrap (i + (1 : Int))).toNat segTy.zero).2.2.2.2.1, true, false, false, (↑(bytS ((f.getD i.toNat segTy.zero).2.2.2.2.1 ++ (f.getD (IntKind.i64.wrap (i + (1 : Int))).toNat segTy.zero).2.2.2.2.1)).length : Int), (0 : Int))]).length * 80 ≤ 140737488355328) then bif decide ((0 : Int) ≤ IntKind.i64.wrap (i + (2 : Int))) && decide (IntKind.i64.wrap (i + (2 : Int)) ≤ (↑f.length : Int)) then bif decide ((List.take i.toNat f ++ [((f.getD i.toNat segTy.zero).1, (f.getD (IntKind.i64.wrap (i + (1 : Int))).toNat segTy.zero).2.1, (f.getD (IntKind.i64.wrap (i + (1 : Int))).toNat segTy.zero).2.2.1, IntKind.i64.wrap ((f.getD (IntKind.i64.wrap (i + (1 : Int))).toNat segTy.zero).2.2.2.1 + (1 : Int)), (f.getD i.toNat segTy.zero).2.2.2.2.1 ++ (f.getD (IntKind.i64.wrap (i + (1 : Int))).toNat segTy.zero).2.2.2.2.1, true, false, false, (↑(bytS ((f.getD i.toNat segTy.zero).2.2.2.2.1 ++ (f.getD (IntKind.i64.wrap (i + (1 : Int))).toNat segTy.zero).2.2.2.2.1)).length : Int), (0 : Int))] ++ List.take (f.length - (IntKind.i64.wrap (i + (2 : Int))).toNat) (List.drop (IntKind.i64.wrap (i + (2 : Int))).toNat f)).length * 80 ≤ 140737488355328) then K .ret { slots := [(0, .ptr 0 (.tl 0) 0), (1, .int .i64 most), (4, .bool true), (5, .int .i64 i)], objs := [(0, .arr 1 .bool [] [[.hw 1]]), (1, .arr 10 segTy (List.take i.toNat f ++ [((f.getD i.toNat segTy.zero).1, (f.getD (IntKind.i64.wrap (i + (1 : Int))).toNat segTy.zero).2.1, (f.getD (IntKind.i64.wrap (i + (1 : Int))).toNat segTy.zero).2.2.1, IntKind.i64.wrap ((f.getD (IntKind.i64.wrap (i + (1 : Int))).toNat segTy.zero).2.2.2.1 + (1 : Int)), (f.getD i.toNat segTy.zero).2.2.2.2.1 ++ (f.getD (IntKind.i64.wrap (i + (1 : Int))).toNat segTy.zero).2.2.2.2.1, true, false, false, (↑(bytS ((f.getD i.toNat segTy.zero).2.2.2.2.1 ++ (f.getD (IntKind.i64.wrap (i + (1 : Int))).toNat segTy.zero).2.2.2.2.1)).length : Int), (0 : Int))] ++ List.take (f.length - (IntKind.i64.wrap (i + (2 : Int))).toNat) (List.drop (IntKind.i64.wrap (i + (2 : Int))).toNat f)) [])], nx := 2 } else none else none else none else none else none else none else none else none else bif decide (List.length (f.getD i.toNat segTy.zero).2.2.2.2.1 * 56 ≤ 140737488355328) then bif decide (((f.getD i.toNat segTy.zero).2.2.2.2.1 ++ (f.getD (IntKind.i64.wrap (i + (1 : Int))).toNat segTy.zero).2.2.2.2.1).length * 56 ≤ 140737488355328) then bif decide (((f.getD i.toNat segTy.zero).2.2.2.2.1 ++ (f.getD (IntKind.i64.wrap (i + (1 : Int))).toNat segTy.zero).2.2.2.2.1).length ≤ 1000000000) then bif decide ((0 : Int) ≤ i) && decide (i ≤ (↑f.length : Int)) then bif decide ((List.take i.toNat f).length * 80 ≤ 140737488355328) then bif decide ((List.take i.toNat f ++ [((f.getD i.toNat segTy.zero).1, (f.getD (IntKind.i64.wrap (i + (1 : Int))).toNat segTy.zero).2.1, (f.getD (IntKind.i64.wrap (i + (1 : Int))).toNat segTy.zero).2.2.1, IntKind.i64.wrap ((f.getD i.toNat segTy.zero).2.2.2.1 + (1 : Int)), (f.getD i.toNat segTy.zero).2.2.2.2.1 ++ (f.getD (IntKind.i64.wrap (i + (1 : Int))).toNat segTy.zero).2.2.2.2.1, true, false, false, (↑(bytS ((f.getD i.toNat segTy.zero).2.2.2.2.1 ++ (f.getD (IntKind.i64.wrap (i + (1 : Int))).toNat segTy.zero).2.2.2.2.1)).length : Int), (0 : Int))]).length * 80 ≤ 140737488355328) then bif decide ((0 : Int) ≤ IntKind.i64.wrap (i + (2 : Int))) && decide (IntKind.i64.wrap (i + (2 : Int)) ≤ (↑f.length : Int)) then bif decide ((List.take i.toNat f ++ [((f.getD i.toNat segTy.zero).1, (f.getD (IntKind.i64.wrap (i + (1 : Int))).toNat segTy.zero).2.1, (f.getD (IntKind.i64.wrap (i + (1 : Int))).toNat segTy.zero).2.2.1, IntKind.i64.wrap ((f.getD i.toNat segTy.zero).2.2.2.1 + (1 : Int)), (f.getD i.toNat segTy.zero).2.2.2.2.1 ++ (f.getD (IntKind.i64.wrap (i + (1 : Int))).toNat segTy.zero).2.2.2.2.1, true, false, false, (↑(bytS ((f.getD i.toNat segTy.zero).2.2.2.2.1 ++ (f.getD (IntKind.i64.wrap (i + (1 : Int))).toNat segTy.zero).2.2.2.2.1)).length : Int), (0 : Int))] ++ List.take (f.length - (IntKind.i64.wrap (i + (2 : Int))).toNat) (List.drop (IntKind.i64.wrap (i + (2 : Int))).toNat f)).length * 80 ≤ 140737488355328) then K .ret { slots := [(0, .ptr 0 (.tl 0) 0), (1, .int .i64 most), (4, .bool true), (5, .int .i64 i)], objs := [(0, .arr 1 .bool [] [[.hw 1]]), (1, .arr 10 segTy (List.take i.toNat f ++ [((f.getD i.toNat segTy.zero).1, (f.getD (IntKind.i64.wrap (i + (1 : Int))).toNat segTy.zero).2.1, (f.getD (IntKind.i64.wrap (i + (1 : Int))).toNat segTy.zero).2.2.1, IntKind.i64.wrap ((f.getD i.toNat segTy.zero).2.2.2.1 + (1 : Int)), (f.getD i.toNat segTy.zero).2.2.2.2.1 ++ (f.getD (IntKind.i64.wrap (i + (1 : Int))).toNat segTy.zero).2.2.2.2.1, true, false, false, (↑(bytS ((f.getD i.toNat segTy.zero).2.2.2.2.1 ++ (f.getD (IntKind.i64.wrap (i + (1 : Int))).toNat segTy.zero).2.2.2.2.1)).length : Int), (0 : Int))] ++ List.take (f.length - (IntKind.i64.wrap (i + (2 : Int))).toNat) (List.drop (IntKind.i64.wrap (i + (2 : Int))).toNat f)) [])], nx := 2 } else none else none else none else none else none else none else none else none else bif decide ((f.getD (IntKind.i64.wrap (i + (1 : Int))).toNat segTy.zero).2.2.2.1 > (f.getD i.toNat segTy.zero).2.2.2.1) then bif decide (List.length (f.getD i.toNat segTy.zero).2.2.2.2.1 * 56 ≤ 140737488355328) then bif decide (((f.getD i.toNat segTy.zero).2.2.2.2.1 ++ (f.getD (IntKind.i64.wrap (i + (1 : Int))).toNat segTy.zero).2.2.2.2.1).length * 56 ≤ 140737488355328) then bif decide (((f.getD i.toNat segTy.zero).2.2.2.2.1 ++ (f.getD (IntKind.i64.wrap (i + (1 : Int))).toNat segTy.zero).2.2.2.2.1).length ≤ 1000000000) then bif decide ((0 : Int) ≤ i) && decide (i ≤ (↑f.length : Int)) then bif decide ((List.take i.toNat f).length * 80 ≤ 140737488355328) then bif decide ((List.take i.toNat f ++ [((f.getD i.toNat segTy.zero).1, (f.getD (IntKind.i64.wrap (i + (1 : Int))).toNat segTy.zero).2.1, (f.getD i.toNat segTy.zero).2.2.1, IntKind.i64.wrap ((f.getD (IntKind.i64.wrap (i + (1 : Int))).toNat segTy.zero).2.2.2.1 + (1 : Int)), (f.getD i.toNat segTy.zero).2.2.2.2.1 ++ (f.getD (IntKind.i64.wrap (i + (1 : Int))).toNat segTy.zero).2.2.2.2.1, true, false, false, (↑(bytS ((f.getD i.toNat segTy.zero).2.2.2.2.1 ++ (f.getD (IntKind.i64.wrap (i + (1 : Int))).toNat segTy.zero).2.2.2.2.1)).length : Int), (0 : Int))]).length * 80 ≤ 140737488355328) then bif decide ((0 : Int) ≤ IntKind.i64.wrap (i + (2 : Int))) && decide (IntKind.i64.wrap (i + (2 : Int)) ≤ (↑f.length : Int)) then bif decide ((List.take i.toNat f ++ [((f.getD i.toNat segTy.zero).1, (f.getD (IntKind.i64.wrap (i + (1 : Int))).toNat segTy.zero).2.1, (f.getD i.toNat segTy.zero).2.2.1, IntKind.i64.wrap ((f.getD (IntKind.i64.wrap (i + (1 : Int))).toNat segTy.zero).2.2.2.1 + (1 : Int)), (f.getD i.toNat segTy.zero).2.2.2.2.1 ++ (f.getD (IntKind.i64.wrap (i + (1 : Int))).toNat segTy.zero).2.2.2.2.1, true, false, false, (↑(bytS ((f.getD i.toNat segTy.zero).2.2.2.2.1 ++ (f.getD (IntKind.i64.wrap (i + (1 : Int))).toNat segTy.zero).2.2.2.2.1)).length : Int), (0 : Int))] ++ List.take (f.length - (IntKind.i64.wrap (i + (2 : Int))).toNat) (List.drop (IntKind.i64.wrap (i + (2 : Int))).toNat f)).length * 80 ≤ 140737488355328) then K .ret { slots := [(0, .ptr 0 (.tl 0) 0), (1, .int .i64 most), (4, .bool true), (5, .int .i64 i)], objs := [(0, .arr 1 .bool [] [[.hw 1]]), (1, .arr 10 segTy (List.take i.toNat f ++ [((f.getD i.toNat segTy.zero).1, (f.getD (IntKind.i64.wrap (i + (1 : Int))).toNat segTy.zero).2.1, (f.getD i.toNat segTy.zero).2.2.1, IntKind.i64.wrap ((f.getD (IntKind.i64.wrap (i + (1 : Int))).toNat segTy.zero).2.2.2.1 + (1 : Int)), (f.getD i.toNat segTy.zero).2.2.2.2.1 ++ (f.getD (IntKind.i64.wrap (i + (1 : Int))).toNat segTy.zero).2.2.2.2.1, true, false, false, (↑(bytS ((f.getD i.toNat segTy.zero).2.2.2.2.1 ++ (f.getD (IntKind.i64.wrap (i + (1 : Int))).toNat segTy.zero).2.2.2.2.1)).length : Int), (0 : Int))] ++ List.take (f.length - (IntKind.i64.wrap (i + (2 : Int))).toNat) (List.drop (IntKind.i64.wrap (i + (2 : Int))).toNat f)) [])], nx := 2 } else none else none else none else none else none else none else none else none else bif decide (List.length (f.getD i.toNat segTy.zero).2.2.2.2.1 * 56 ≤ 140737488355328) then bif decide (((f.getD i.toNat segTy.zero).2.2.2.2.1 ++ (f.getD (IntKind.i64.wrap (i + (1 : Int))).toNat segTy.zero).2.2.2.2.1).length * 56 ≤ 140737488355328) then bif decide (((f.getD i.toNat segTy.zero).2.2.2.2.1 ++ (f.getD (IntKind.i64.wrap (i + (1 : Int))).toNat segTy.zero).2.2.2.2.1).length ≤ 1000000000) then bif decide ((0 : Int) ≤ i) && decide (i ≤ (↑f.length : Int)) then bif decide ((List.take i.toNat f).length * 80 ≤ 140737488355328) then bif decide ((List.take i.toNat f ++ [((f.getD i.toNat segTy.zero).1, (f.getD (IntKind.i64.wrap (i + (1 : Int))).toNat segTy.zero).2.1, (f.getD i.toNat segTy.zero).2.2.1, IntKind.i64.wrap ((f.getD i.toNat segTy.zero).2.2.2.1 + (1 : Int)), (f.getD i.toNat segTy.zero).2.2.2.2.1 ++ (f.getD (IntKind.i64.wrap (i + (1 : Int))).toNat segTy.zero).2.2.2.2.1, true, false, false, (↑(bytS ((f.getD i.toNat segTy.zero).2.2.2.2.1 ++ (f.getD (IntKind.i64.wrap (i + (1 : Int))).toNat segTy.zero).2.2.2.2.1)).length : Int), (0 : Int))]).length * 80 ≤ 140737488355328) then bif decide ((0 : Int) ≤ IntKind.i64.wrap (i + (2 : Int))) && decide (IntKind.i64.wrap (i + (2 : Int)) ≤ (↑f.length : Int)) then bif decide ((List.take i.toNat f ++ [((f.getD i.toNat segTy.zero).1, (f.getD (IntKind.i64.wrap (i + (1 : Int))).toNat segTy.zero).2.1, (f.getD i.toNat segTy.zero).2.2.1, IntKind.i64.wrap ((f.getD i.toNat segTy.zero).2.2.2.1 + (1 : Int)), (f.getD i.toNat segTy.zero).2.2.2.2.1 ++ (f.getD (IntKind.i64.wrap (i + (1 : Int))).toNat segTy.zero).2.2.2.2.1, true, false, false, (↑(bytS ((f.getD i.toNat segTy.zero).2.2.2.2.1 ++ (f.getD (IntKind.i64.wrap (i + (1 : Int))).toNat segTy.zero).2.2.2.2.1)).length : Int), (0 : Int))] ++ List.take (f.length - (IntKind.i64.wrap (i + (2 : Int))).toNat) (List.drop (IntKind.i64.wrap (i + (2 : Int))).toNat f)).length * 80 ≤ 140737488355328) then K .ret { slots := [(0, .ptr 0 (.tl 0) 0), (1, .int .i64 most), (4, .bool true), (5, .int .i64 i)], objs := [(0, .arr 1 .bool [] [[.hw 1]]), (1, .arr 10 segTy (List.take i.toNat f ++ [((f.getD i.toNat segTy.zero).1, (f.getD (IntKind.i64.wrap (i + (1 : Int))).toNat segTy.zero).2.1, (f.getD i.toNat segTy.zero).2.2.1, IntKind.i64.wrap ((f.getD i.toNat segTy.zero).2.2.2.1 + (1 : Int)), (f.getD i.toNat segTy.zero).2.2.2.2.1 ++ (f.getD (IntKind.i64.wrap (i + (1 : Int))).toNat segTy.zero).2.2.2.2.1, true, false, false, (↑(bytS ((f.getD i.toNat segTy.zero).2.2.2.2.1 ++ (f.getD (IntKind.i64.wrap (i + (1 : Int))).toNat segTy.zero).2.2.2.2.1)).length : Int), (0 : Int))] ++ List.take (f.length - (IntKind.i64.wrap (i + (2 : Int))).toNat) (List.drop (IntKind.i64.wrap (i + (2 : Int))).toNat f)) [])], nx := 2 } else none else none else none else none else none else none else none else none else none else none else K (.exit 0) { slots := [(0, .ptr 0 (.tl 0) 0), (1, .int .i64 most), (4, .bool q), (5, .int .i64 i)], objs := [(0, .arr 1 .bool [] [[.hw 1]]), (1, .arr 10 segTy f [])], nx := 2 } := by kernel_rfl
def rretP (c : Cnf) (now : Int) (f : List Seg) : List Seg := f.drop (dropN c now f)
def caseRret : VCase := ⟨[.lit (.ptr 0 (.tl 0) 0), cnfP, .int .i64], docP, .lit (.tup []), docQ, fun ⟨_, ⟨c1, c2, c3, c4, _⟩, now, _⟩ ⟨_, ⟨f, _⟩, _⟩ => [(docB f, ((), ((((), ()), ()), (), (rretP (c1, c2, c3, c4) now f, ()), ())))]⟩
theorem rret_ok : caseRret.e.ok P0 I.f19 := vcase_okM (c := caseRret) (H := H.f19) (E := env consW5) (env_ok consW5_ok) glob0 mixed0 G.f19 Bd.f19 1 rfl (by kernel_rfl) noLoops fun ⟨_, ⟨c1, c2, c3, c4, _⟩, now, _⟩ ⟨_, ⟨f, _⟩, _⟩ r h hw1 hw2 => by
  obtain ⟨hc, rfl⟩ := pick_pre h
  refine (rret_ev (c1, c2, c3, c4) now f).trans ?_
  have hd := docB_at hc
  have e : rdropO (c1, c2, c3, c4) now f = dropN (c1, c2, c3, c4) now f := by unfold rdropO; rw [hold_eq]
  have h1 := dropN_le (c1, c2, c3, c4) now f
  have e2 : List.take (f.length - dropN (c1, c2, c3, c4) now f) (List.drop (dropN (c1, c2, c3, c4) now f) f) = List.drop (dropN (c1, c2, c3, c4) now f) f := List.take_of_length_le (by simp)
  rw [e, e2, cond_pos2 (by omega) (by omega), cond_pos (by simp; omega)]
  rfl
def rmgP (most : Int) (f : List Seg) (i : Nat) : Bool := !((f.getD i segTy.zero).2.2.2.2.2.2.2.1 || ((f.getD (i + 1) segTy.zero).2.2.2.2.2.2.2.1 || decide (((f.getD i segTy.zero).2.2.2.2.1.length : Int) + ((f.getD (i + 1) segTy.zero).2.2.2.2.1.length : Int) > most)))
def rmgAt (most : Int) (f : List Seg) : Option Nat := firstFrom (rmgP most f) 0 (f.length - 2)
def rmeSt (most : Int) (q : Bool) (f : List Seg) (i : Nat) : St := ⟨[(0, .ptr 0 (.tl 0) 0), (1, .int .i64 most), (4, .bool q), (5, .int .i64 i)], [(0, .arr 1 .bool [] [[.hw 1]]), (1, .arr 10 segT f [])], 2⟩
theorem rme_step {R : Type} (most : Int) (q : Bool) (f : List Seg) (h1 : f.length < 1000000000) (h2 : f.all genB = true) (i : Nat) (hi : i < f.length - 2) (K : Ex → St → Option R) :
    roundK (env consW5) H.rmerge2 1 (LPof []) V.f17_2 L.f17_2 (rmeSt most q f i) K = bif rmgP most f i then K .ret (rmeSt most true (mgL f i) i) else K .normal (rmeSt most q f (i + 1)) := by
  refine (rme_rd most i q f K).trans ?_
  have e1 : IntKind.i64.wrap ((i : Int) + 1) = ((i + 1 : Nat) : Int) := by rw [wrap64 (by omega) (by omega)]; omega
  have e2 : IntKind.i64.wrap ((i : Int) + 2) = ((i + 2 : Nat) : Int) := by rw [wrap64 (by omega) (by omega)]; omega
  have g1 := all_getD h2 (show i < f.length by omega)
  have g2 := all_getD h2 (show i + 1 < f.length by omega)
  unfold genB at g1 g2
  simp only [Bool.and_eq_true, decide_eq_true_eq] at g1 g2
  obtain ⟨⟨a1, a2⟩, a3⟩ := g1
  obtain ⟨⟨b1, b2⟩, b3⟩ := g2
  rw [e1, e2, cond_pos (by omega), cond_pos2 (by omega) (by omega), cond_pos2 (by omega) (by omega), Int.toNat_natCast, Int.toNat_natCast, Int.toNat_natCast]
  have e3 : IntKind.i64.wrap (((f.getD i segTy.zero).2.2.2.2.1.length : Int) + ((f.getD (i + 1) segTy.zero).2.2.2.2.1.length : Int)) = ((f.getD i segTy.zero).2.2.2.2.1.length : Int) + ((f.getD (i + 1) segTy.zero).2.2.2.2.1.length : Int) := wrap64 (by omega) (by omega)
  have e4 : (bif (f.getD i segTy.zero).2.2.2.2.2.2.2.1 then some true else bif (f.getD (i + 1) segTy.zero).2.2.2.2.2.2.2.1 then some true else some (decide (((f.getD i segTy.zero).2.2.2.2.1.length : Int) + ((f.getD (i + 1) segTy.zero).2.2.2.2.1.length : Int) > most))) = some (!rmgP most f i) := by
    unfold rmgP
    cases (f.getD i segTy.zero).2.2.2.2.2.2.2.1 <;> cases (f.getD (i + 1) segTy.zero).2.2.2.2.2.2.2.1 <;> simp
  rw [e3, e4, Option.bind_some]
  cases hp : rmgP most f i with
  | false => rfl
  | true =>
    rw [Bool.not_true, cond_false, cond_true]
    have w1 : IntKind.i64.wrap ((f.getD i segTy.zero).2.2.2.1 + 1) = (f.getD i segTy.zero).2.2.2.1 + 1 := wrap64 (by omega) (by omega)
    have w2 : IntKind.i64.wrap ((f.getD (i + 1) segTy.zero).2.2.2.1 + 1) = (f.getD (i + 1) segTy.zero).2.2.2.1 + 1 := wrap64 (by omega) (by omega)
    have c1 : decide (List.length (f.getD i segTy.zero).2.2.2.2.1 * 56 ≤ 140737488355328) = true := decide_eq_true (by omega)
    have c2 : decide (((f.getD i segTy.zero).2.2.2.2.1 ++ (f.getD (i + 1) segTy.zero).2.2.2.2.1).length * 56 ≤ 140737488355328) = true := decide_eq_true (by rw [List.length_append]; omega)
    have c3 : decide (((f.getD i segTy.zero).2.2.2.2.1 ++ (f.getD (i + 1) segTy.zero).2.2.2.2.1).length ≤ 1000000000) = true := decide_eq_true (by rw [List.length_append]; omega)
    have c4 : decide ((0 : Int) ≤ (i : Int)) = true := decide_eq_true (by omega)
    have c5 : decide ((i : Int) ≤ (f.length : Int)) = true := decide_eq_true (by omega)
    have c6 : decide ((List.take i f).length * 80 ≤ 140737488355328) = true := decide_eq_true (by simp; omega)
    have c7 : ∀ g : Seg, decide ((List.take i f ++ [g]).length * 80 ≤ 140737488355328) = true := fun g => decide_eq_true (by simp; omega)
    have c8 : decide ((0 : Int) ≤ ((i + 2 : Nat) : Int)) = true := decide_eq_true (by omega)
    have c9 : decide (((i + 2 : Nat) : Int) ≤ (f.length : Int)) = true := decide_eq_true (by omega)
    have c10 : ∀ g : Seg, decide ((List.take i f ++ [g] ++ List.drop (i + 2) f).length * 80 ≤ 140737488355328) = true := fun g => decide_eq_true (by simp; omega)
    have e5 : List.take (f.length - (i + 2)) (List.drop (i + 2) f) = List.drop (i + 2) f := List.take_of_length_le (by simp)
    have e6 : ∀ g : Seg, List.take i f ++ [g] ++ List.drop (i + 2) f = twoOne f i g := fun g => rfl
    simp only [w1, w2, c1, c2, c3, c4, c5, c6, c7, c8, c9, e5, c10, Bool.and_self, cond_true]
    unfold mgL merge2 mxZ
    cases (f.getD i segTy.zero).2.2.2.2.2.2.1 <;> cases decide ((f.getD (i + 1) segTy.zero).2.2.1 > (f.getD i segTy.zero).2.2.1) <;> cases decide ((f.getD (i + 1) segTy.zero).2.2.2.1 > (f.getD i segTy.zero).2.2.2.1) <;> rfl
theorem rme_last {R : Type} (most : Int) (q : Bool) (f : List Seg) (h1 : f.length < 1000000000) (K : Ex → St → Option R) : roundK (env consW5) H.rmerge2 1 (LPof []) V.f17_2 L.f17_2 (rmeSt most q f (f.length - 2)) K = K (.exit 0) (rmeSt most q f (f.length - 2)) := by
  refine (rme_rd most _ q f K).trans ?_
  rw [wrap64 (by omega) (by omega), cond_neg (by omega)]
  rfl
abbrev rmeLC : LoopC := LoopC.of ⟨[(0, .lit (.ptr 0 (.tl 0) 0)), (1, .int .i64), (4, .bool), (5, .int .i64)], docP⟩
  (fun ⟨⟨_, most, q, i, _⟩, ⟨_, ⟨f, _⟩, _⟩⟩ => decide (i = (0 : Int)) && decide (List.length f < 1000000000) && List.all f genB)
  fun ⟨⟨_, most, q, i, _⟩, ⟨_, ⟨f, _⟩, _⟩⟩ => [((rmgAt most f).isSome, .ret, rmeSt most true (mgL f ((rmgAt most f).getD 0)) ((rmgAt most f).getD 0)), (true, .exit 0, rmeSt most q f (List.length f - 2))]
theorem rme_lok : LoopOK P0 H.rmerge2 1 L.f17_2 rmeLC :=
  loop_ok_of (env_ok consW5_ok) glob0 mixed0 noLoops V.f17_2 (by decide) fun ⟨⟨_, most, q, i, _⟩, ⟨_, ⟨f, _⟩, _⟩⟩ h hw => by
    simp only [Bool.and_eq_true, decide_eq_true_eq] at h
    obtain ⟨⟨rfl, h2⟩, h3⟩ := h
    exact ⟨_, Eq.trans (search_rounds (S := rmeSt most q f) (T := fun i => rmeSt most true (mgL f i) i) (p := rmgP most f) (n := List.length f - 2) (e1 := .ret) (e2 := .exit 0) (by simp) (by simp) (fun i hi K => rme_step most q f h2 h3 i hi K) (fun K => rme_last most q f h2 K) _ (List.length f - 2) 0 (by omega)) search_pick⟩
theorem rmerge_ev (most : Int) (f : List Seg) : evFnM 1 (env consW5) H.rmerge2 (LPof [(2, rmeLC)]) F.f17 [.ptr 0 (.tl 0) 0, .int .i64 most] [.arr 1 .bool [] [[.hw 1]], .arr 10 segT f []] (finVM .bool docQ 1 2) = bif decide (f.length < 1000000000) && f.all genB && (rmgAt most f).isSome then some (true, (((), ()), ()), (), (mgL f ((rmgAt most f).getD 0), ()), ()) else bif decide (f.length < 1000000000) && f.all genB && true then some (false, (((), ()), ()), (), (f, ()), ()) else none := by kernel_rfl
def rmergeP (most : Int) (f : List Seg) : List Seg := bif (rmgAt most f).isSome then mgL f ((rmgAt most f).getD 0) else f
def caseRmerge : VCase := ⟨[.lit (.ptr 0 (.tl 0) 0), .int .i64], docP, .bool, docQ, fun ⟨_, most, _⟩ ⟨_, ⟨f, _⟩, _⟩ => [(decide (List.length f < 1000000000) && List.all f genB, ((rmgAt most f).isSome, ((((), ()), ()), (), (rmergeP most f, ()), ())))]⟩
theorem rmerge_ok : caseRmerge.e.ok P0 I.f17 := vcase_okM (c := caseRmerge) (H := H.rmerge2) (E := env consW5) (env_ok consW5_ok) glob0 mixed0 G.f17 Bd.f17 1 rfl (by kernel_rfl) (loops_good (tab := [(2, rmeLC)]) (by kernel_rfl) (fun x hx => by simp at hx; subst hx; exact rme_lok)) fun ⟨_, most, _⟩ ⟨_, ⟨f, _⟩, _⟩ r h hw1 hw2 => by
  obtain ⟨hc, rfl⟩ := pick_pre h
  refine (rmerge_ev most f).trans ?_
  have hc : (decide (List.length f < 1000000000) && List.all f genB) = true := hc
  rw [hc]
  unfold rmergeP
  cases (rmgAt most f).isSome <;> rfl
end Go.Sim
namespace Go.Sim
set_option linter.unusedSimpArgs false
set_option linter.unusedVariables false
set_option maxRecDepth 10000
def H.off1 : Hint := { H.f58 with join := [] }
noncomputable abbrev consO1 : List (FuncId × Con) := [(I.f58, inl (env []) H.off1 F.f58 (fun R k0 => loopsF (env []) H.off1 k0 B.f58 1))]
theorem consO1_ok : ∀ x ∈ consO1, HoldsC P0 x.1 x.2 := by
  intro x hx
  simp at hx
  subst hx
  exact inl_ok (env_ok env_nil) glob0 mixed0 G.f58 Bd.f58 C.f58 (fun R k0 => loopsF_good (env_ok env_nil) glob0 mixed0 (by kernel_rfl) 1)
theorem odx_rd {R : Type} (bs gn r k m i : Int) (f : List Seg) (b n z : Int) (rs : List Rec) (K : Ex → St → Option R) : roundK (env consO1) H.f76 4 (LPof []) V.f76_2 L.f76_2 ⟨[(0, .hw 0), (1, .fn (.func I.f58) [] [.ptr 2 (.tl 0) 0, .ptr 3 (.tl 0) 0]), (4, .int .i64 r), (7, .int .i64 m), (8, .int .i64 i)], [(0, .arr 10 segT f [actR b n z]), (1, .log recT rs), (2, .arr 1 .bool [] [[.int .i64 bs]]), (3, .arr 1 .bool [] [[.int .i64 gn]])], 4⟩ K = bif decide (i < m) then bif decide ((0 : Int) ≤ i) && decide (i < (↑(f.length + 1) : Int)) then bif decide (i.toNat < f.length) then bif (f.getD i.toNat segTy.zero).2.2.2.2.2.1 then bif !(f.getD i.toNat segTy.zero).2.2.2.2.2.2.2.1 then bif (f.getD i.toNat segTy.zero).1 == bs then bif (f.getD i.toNat segTy.zero).2.2.2.1 == gn then K .ret { slots := [(0, .hw 0), (1, .fn (Fn.func 68) [] [.ptr 2 (.tl 0) 0, .ptr 3 (.tl 0) 0]), (4, .int .i64 i), (7, .int .i64 m), (8, .int .i64 i)], objs := [(0, .arr 10 segTy f [[.int .i64 b, .int .i64 n, .int .i64 (0 : Int), .int .i64 (0 : Int), .hw 1, .bool false, .bool false, .bool false, .int .i64 z, .int .u32 (0 : Int)]]), (1, .log recTy rs), (2, .arr 1 .bool [] [[.int .i64 bs]]), (3, .arr 1 .bool [] [[.int .i64 gn]])], nx := 4 } else K .normal { slots := [(0, .hw 0), (1, .fn (Fn.func 68) [] [.ptr 2 (.tl 0) 0, .ptr 3 (.tl 0) 0]), (4, .int .i64 r), (7, .int .i64 m), (8, .int .i64 (IntKind.i64.wrap (i + (1 : Int))))], objs := [(0, .arr 10 segTy f [[.int .i64 b, .int .i64 n, .int .i64 (0 : Int), .int .i64 (0 : Int), .hw 1, .bool false, .bool false, .bool false, .int .i64 z, .int .u32 (0 : Int)]]), (1, .log recTy rs), (2, .arr 1 .bool [] [[.int .i64 bs]]), (3, .arr 1 .bool [] [[.int .i64 gn]])], nx := 4 } else K .normal { slots := [(0, .hw 0), (1, .fn (Fn.func 68) [] [.ptr 2 (.tl 0) 0, .ptr 3 (.tl 0) 0]), (4, .int .i64 r), (7, .int .i64 m), (8, .int .i64 (IntKind.i64.wrap (i + (1 : Int))))], objs := [(0, .arr 10 segTy f [[.int .i64 b, .int .i64 n, .int .i64 (0 : Int), .int .i64 (0 : Int), .hw 1, .bool false, .bool false, .bool false, .int .i64 z, .int .u32 (0 : Int)]]), (1, .log recTy rs), (2, .arr 1 .bool [] [[.int .i64 bs]]), (3, .arr 1 .bool [] [[.int .i64 gn]])], nx := 4 } else K .normal { slots := [(0, .hw 0), (1, .fn (Fn.func 68) [] [.ptr 2 (.tl 0) 0, .ptr 3 (.tl 0) 0]), (4, .int .i64 r), (7, .int .i64 m), (8, .int .i64 (IntKind.i64.wrap (i + (1 : Int))))], objs := [(0, .arr 10 segTy f [[.int .i64 b, .int .i64 n, .int .i64 (0 : Int), .int .i64 (0 : Int), .hw 1, .bool false, .bool false, .bool false, .int .i64 z, .int .u32 (0 : Int)]]), (1, .log recTy rs), (2, .arr 1 .bool [] [[.int .i64 bs]]), (3, .arr 1 .bool [] [[.int .i64 gn]])], nx := 4 } else K .normal { slots := [(0, .hw 0), (1, .fn (Fn.func 68) [] [.ptr 2 (.tl 0) 0, .ptr 3 (.tl 0) 0]), (4, .int .i64 r), (7, .int .i64 m), (8, .int .i64 (IntKind.i64.wrap (i + (1 : Int))))], objs := [(0, .arr 10 segTy f [[.int .i64 b, .int .i64 n, .int .i64 (0 : Int), .int .i64 (0 : Int), .hw 1, .bool false, .bool false, .bool false, .int .i64 z, .int .u32 (0 : Int)]]), (1, .log recTy rs), (2, .arr 1 .bool [] [[.int .i64 bs]]), (3, .arr 1 .bool [] [[.int .i64 gn]])], nx := 4 } else bif decide (i.toNat - f.length = 0) then K .normal { slots := [(0, .hw 0), (1, .fn (Fn.func 68) [] [.ptr 2 (.tl 0) 0, .ptr 3 (.tl 0) 0]), (4, .int .i64 r), (7, .int .i64 m), (8, .int .i64 (IntKind.i64.wrap (i + (1 : Int))))], objs := [(0, .arr 10 segTy f [[.int .i64 b, .int .i64 n, .int .i64 (0 : Int), .int .i64 (0 : Int), .hw 1, .bool false, .bool false, .bool false, .int .i64 z, .int .u32 (0 : Int)]]), (1, .log recTy rs), (2, .arr 1 .bool [] [[.int .i64 bs]]), (3, .arr 1 .bool [] [[.int .i64 gn]])], nx := 4 } else none else none else K (.exit 0) { slots := [(0, .hw 0), (1, .fn (Fn.func 68) [] [.ptr 2 (.tl 0) 0, .ptr 3 (.tl 0) 0]), (4, .int .i64 r), (7, .int .i64 m), (8, .int .i64 i)], objs := [(0, .arr 10 segTy f [[.int .i64 b, .int .i64 n, .int .i64 (0 : Int), .int .i64 (0 : Int), .hw 1, .bool false, .bool false, .bool false, .int .i64 z, .int .u32 (0 : Int)]]), (1, .log recTy rs), (2, .arr 1 .bool [] [[.int .i64 bs]]), (3, .arr 1 .bool [] [[.int .i64 gn]])], nx := 4 } := by kernel_rfl
def offB (bs gn : Int) (M : LogS) (i : Nat) : Bool := ((segsL M).getD i segTy.zero).2.2.2.2.2.1 && (!((segsL M).getD i segTy.zero).2.2.2.2.2.2.2.1 && (((segsL M).getD i segTy.zero).1 == bs && ((segsL M).getD i segTy.zero).2.2.2.1 == gn))
def odSt (bs gn r : Int) (M : LogS) (i : Nat) : St := ⟨[(0, .hw 0), (1, .fn (.func I.f58) [] [.ptr 2 (.tl 0) 0, .ptr 3 (.tl 0) 0]), (4, .int .i64 r), (7, .int .i64 (M.1.length + 1 : Nat)), (8, .int .i64 i)], [(0, .arr 10 segT M.1 [actR M.2.1 M.2.2.1 M.2.2.2.1]), (1, .log recT M.2.2.2.2), (2, .arr 1 .bool [] [[.int .i64 bs]]), (3, .arr 1 .bool [] [[.int .i64 gn]])], 4⟩
theorem od_step {R : Type} (bs gn r : Int) (M : LogS) (h1 : M.1.length ≤ 1000000000) (i : Nat) (hi : i < M.1.length + 1) (K : Ex → St → Option R) :
    roundK (env consO1) H.f76 4 (LPof []) V.f76_2 L.f76_2 (odSt bs gn r M i) K = bif offB bs gn M i then K .ret (odSt bs gn i M i) else K .normal (odSt bs gn r M (i + 1)) := by
  refine (odx_rd bs gn r 0 (M.1.length + 1 : Nat) i M.1 M.2.1 M.2.2.1 M.2.2.2.1 M.2.2.2.2 K).trans ?_
  have e1 : IntKind.i64.wrap ((i : Int) + 1) = ((i + 1 : Nat) : Int) := by rw [wrap64 (by omega) (by omega)]; omega
  rw [cond_pos (by omega), cond_pos2 (by omega) (by omega), Int.toNat_natCast, e1]
  unfold offB
  by_cases h : i < M.1.length
  · rw [cond_pos h, segsL_lt h]
    cases (M.1.getD i segTy.zero).2.2.2.2.2.1 <;> cases (M.1.getD i segTy.zero).2.2.2.2.2.2.2.1 <;> cases (M.1.getD i segTy.zero).1 == bs <;> cases (M.1.getD i segTy.zero).2.2.2.1 == gn <;> rfl
  · obtain rfl : i = M.1.length := by omega
    rw [cond_neg h, cond_pos (by omega), segsL_last]
    rfl
theorem od_last {R : Type} (bs gn r : Int) (M : LogS) (K : Ex → St → Option R) :
    roundK (env consO1) H.f76 4 (LPof []) V.f76_2 L.f76_2 (odSt bs gn r M (M.1.length + 1)) K = K (.exit 0) (odSt bs gn r M (M.1.length + 1)) := by
  refine (odx_rd bs gn r 0 (M.1.length + 1 : Nat) (M.1.length + 1 : Nat) M.1 M.2.1 M.2.2.1 M.2.2.2.1 M.2.2.2.2 K).trans ?_
  rw [cond_neg (by omega)]
  rfl
abbrev odP : List OPat := [.arr 10 segT [actRP], .log recT, .box 1 [[.int .i64]], .box 1 [[.int .i64]]]
def odAt (bs gn : Int) (M : LogS) : Option Nat := firstFrom (offB bs gn M) 0 (M.1.length + 1)
abbrev odLC : LoopC := LoopC.of ⟨[(0, .lit (.hw 0)), (1, .fn I.f58 [.lit (.ptr 2 (.tl 0) 0), .lit (.ptr 3 (.tl 0) 0)]), (4, .int .i64), (7, .int .i64), (8, .int .i64)], odP⟩
  (fun ⟨⟨_, _, r, m, i, _⟩, ⟨⟨f, ⟨b, n, _, _, _, _, _, _, z, _, _⟩, _⟩, rs, ⟨⟨bs, _⟩, _⟩, ⟨⟨gn, _⟩, _⟩, _⟩⟩ => decide (i = (0 : Int)) && decide (m = ((List.length f + 1 : Nat) : Int)) && decide (List.length f ≤ 1000000000))
  fun ⟨⟨_, _, r, m, i, _⟩, ⟨⟨f, ⟨b, n, _, _, _, _, _, _, z, _, _⟩, _⟩, rs, ⟨⟨bs, _⟩, _⟩, ⟨⟨gn, _⟩, _⟩, _⟩⟩ => [((odAt bs gn (f, b, n, z, rs)).isSome, .ret, odSt bs gn ((odAt bs gn (f, b, n, z, rs)).getD 0 : Nat) (f, b, n, z, rs) ((odAt bs gn (f, b, n, z, rs)).getD 0)), (true, .exit 0, odSt bs gn r (f, b, n, z, rs) (List.length f + 1))]
theorem od_lok : LoopOK P0 H.f76 4 L.f76_2 odLC :=
  loop_ok_of (env_ok consO1_ok) glob0 mixed0 noLoops V.f76_2 (by decide) fun ⟨⟨_, _, r, m, i, _⟩, ⟨⟨f, ⟨b, n, _, _, _, _, _, _, z, _, _⟩, _⟩, rs, ⟨⟨bs, _⟩, _⟩, ⟨⟨gn, _⟩, _⟩, _⟩⟩ h hw => by
    simp only [Bool.and_eq_true, decide_eq_true_eq] at h
    obtain ⟨⟨rfl, rfl⟩, h3⟩ := h
    exact ⟨_, Eq.trans (search_rounds (S := odSt bs gn r (f, b, n, z, rs)) (T := fun i => odSt bs gn i (f, b, n, z, rs) i) (p := offB bs gn (f, b, n, z, rs)) (n := List.length f + 1) (e1 := .ret) (e2 := .exit 0) (by simp) (by simp) (fun i hi K => od_step bs gn r (f, b, n, z, rs) h3 i hi K) (fun K => od_last bs gn r (f, b, n, z, rs) K) _ (List.length f + 1) 0 (by omega)) search_pick⟩
theorem odx_ev (bs gn : Int) (f : List Seg) (b n z : Int) (rs : List Rec) : evFn (env consO1) H.f76 (LPof [(2, odLC)]) F.f76 [.hw 0, .fn (.func I.f58) [] [.ptr 2 (.tl 0) 0, .ptr 3 (.tl 0) 0]] [.arr 10 segT f [actR b n z], .log recT rs, .arr 1 .bool [] [[.int .i64 bs]], .arr 1 .bool [] [[.int .i64 gn]]] (finV (.int .i64) odP 4) = bif decide ((↑(f.length + 1) : Int) = (↑(f.length + 1) : Int)) && decide (f.length ≤ 1000000000) && (odAt bs gn (f, b, n, z, rs)).isSome then some ((↑((odAt bs gn (f, b, n, z, rs)).getD 0) : Int), (f, (b, n, (), (), (), (), (), (), z, (), ()), ()), rs, ((bs, ()), ()), ((gn, ()), ()), ()) else bif decide ((↑(f.length + 1) : Int) = (↑(f.length + 1) : Int)) && decide (f.length ≤ 1000000000) && true then some ((-1 : Int), (f, (b, n, (), (), (), (), (), (), z, (), ()), ()), rs, ((bs, ()), ()), ((gn, ()), ()), ()) else none := by kernel_rfl
noncomputable def odV (bs gn : Int) (M : LogS) : Int := hold (bif (odAt bs gn M).isSome then (((odAt bs gn M).getD 0 : Nat) : Int) else -1)
noncomputable def caseOdx : VCase := ⟨[.lit (.hw 0), .fn I.f58 [.lit (.ptr 2 (.tl 0) 0), .lit (.ptr 3 (.tl 0) 0)]], odP, .int .i64, odP, fun _ ⟨⟨f, ⟨b, n, _, _, _, _, _, _, z, _, _⟩, _⟩, rs, ⟨⟨bs, _⟩, _⟩, ⟨⟨gn, _⟩, _⟩, _⟩ =>
  [(decide (List.length f ≤ 1000000000), (odV bs gn (f, b, n, z, rs), ((f, (b, n, (), (), (), (), (), (), z, (), ()), ()), rs, ((bs, ()), ()), ((gn, ()), ()), ())))]⟩
theorem odx_ok : caseOdx.e.ok P0 I.f76 := vcase_ok (c := caseOdx) (H := H.f76) (E := env consO1) (env_ok consO1_ok) glob0 mixed0 G.f76 Bd.f76 (by kernel_rfl) (loops_good (tab := [(2, odLC)]) (by kernel_rfl) (fun x hx => by simp at hx; subst hx; exact od_lok)) fun _ ⟨⟨f, ⟨b, n, _, _, _, _, _, _, z, _, _⟩, _⟩, rs, ⟨⟨bs, _⟩, _⟩, ⟨⟨gn, _⟩, _⟩, _⟩ r h hw1 hw2 => by
  obtain ⟨hc, rfl⟩ := pick_pre h
  refine (odx_ev bs gn f b n z rs).trans ?_
  have hc : decide (List.length f ≤ 1000000000) = true := hc
  rw [hc]
  simp only [decide_true, Bool.true_and, cond_true]
  unfold odV
  rw [hold_eq]
  cases (odAt bs gn (f, b, n, z, rs)).isSome <;> rfl
noncomputable abbrev consO2 : List (FuncId × Con) := [(I.f76, .eff (effOf [caseOdx.e])), (I.f47, .pure (pureOf [caseSbytes])), (I.f39, .pure (pureOf [caseCrcS]))]
theorem consO2_ok : ∀ x ∈ consO2, HoldsC P0 x.1 x.2 := by
  intro x hx
  simp at hx
  rcases hx with rfl | rfl | rfl
  · exact ⟨fun args objs r objs2 h _ => effOf_holds (by simp; exact odx_ok) args objs r objs2 h, C.f76⟩
  · exact ⟨pureOf_holds (by simp; exact sbytes_ok), C.f47⟩
  · exact ⟨pureOf_holds (by simp; exact crcs_ok), C.f39⟩
def ofS (k bs gn by2 su : Int) (f : List Seg) (b n z : Int) (rs : List Rec) : St := ⟨[(20, .bool (decide (k < (0 : Int)))), (19, .int .i64 k), (11, .int .i64 k), (18, .int .i64 k), (17, .fn (.func I.f58) [] [.ptr 3 (.tl 0) 0, .ptr 4 (.tl 0) 0]), (16, .hw 1), (15, .ptr 0 (.tl 0) 0), (14, .ptr 0 (.tl 0) 0), (13, .ptr 0 (.tl 0) 0), (10, .int .i64 0), (7, .ptr 4 (.tl 0) 0), (6, .ptr 3 (.tl 0) 0), (0, .ptr 0 (.tl 0) 0), (1, .int .i64 bs), (2, .int .i64 gn), (3, .int .i64 by2), (4, .int .u32 su)],
  [(1, .arr 10 segT f [actC b n z]), (2, .log recT rs), (3, .arr 1 .bool [] [[.int .i64 bs]]), (4, .arr 1 .bool [] [[.int .i64 gn]]), (4, .arr 1 .bool [] [[.int .i64 gn]]), (3, .arr 1 .bool [] [[.int .i64 bs]]), (0, .arr 1 .bool [] [[.hw 1]]), (1, .arr 10 segT f [actC b n z]), (2, .log recT rs)], 5⟩
theorem ofl1_ev {R : Type} (bs gn by2 su : Int) (f : List Seg) (b n z : Int) (rs : List Rec) (K : Ex → St → Option R) : ev (env consO2) H.f57 3 (LPof []) (preC 3 B.f57) (initSt [.ptr 0 (.tl 0) 0, .int .i64 bs, .int .i64 gn, .int .i64 by2, .int .u32 su] [.arr 1 .bool [] [[.hw 1]], .arr 10 segT f [actC b n z], .log recT rs]) K = bif decide (f.length ≤ 1000000000) then bif decide (odV bs gn (f, b, n, z, rs) < (0 : Int)) then K .ret { slots := [(10, .int .i64 (8 : Int)), (20, .bool (decide (odV bs gn (f, b, n, z, rs) < (0 : Int)))), (19, .int .i64 (odV bs gn (f, b, n, z, rs))), (11, .int .i64 (odV bs gn (f, b, n, z, rs))), (18, .int .i64 (odV bs gn (f, b, n, z, rs))), (17, .fn (Fn.func 68) [] [.ptr 3 (.tl 0) 0, .ptr 4 (.tl 0) 0]), (16, .hw 1), (15, .ptr 0 (.tl 0) 0), (14, .ptr 0 (.tl 0) 0), (13, .ptr 0 (.tl 0) 0), (10, .int .i64 (0 : Int)), (7, .ptr 4 (.tl 0) 0), (6, .ptr 3 (.tl 0) 0), (0, .ptr 0 (.tl 0) 0), (1, .int .i64 bs), (2, .int .i64 gn), (3, .int .i64 by2), (4, .int .u32 su)], objs := [(1, .arr 10 segTy f [[.int .i64 b, .int .i64 n, .int .i64 (0 : Int), .int .i64 (0 : Int), .hw 2, .bool false, .bool false, .bool false, .int .i64 z, .int .u32 (0 : Int)]]), (2, .log recTy rs), (3, .arr 1 .bool [] [[.int .i64 bs]]), (4, .arr 1 .bool [] [[.int .i64 gn]]), (4, .arr 1 .bool [] [[.int .i64 gn]]), (3, .arr 1 .bool [] [[.int .i64 bs]]), (0, .arr 1 .bool [] [[.hw 1]]), (1, .arr 10 segTy f [[.int .i64 b, .int .i64 n, .int .i64 (0 : Int), .int .i64 (0 : Int), .hw 2, .bool false, .bool false, .bool false, .int .i64 z, .int .u32 (0 : Int)]]), (2, .log recTy rs)], nx := 5 } else K .normal { slots := [(20, .bool (decide (odV bs gn (f, b, n, z, rs) < (0 : Int)))), (19, .int .i64 (odV bs gn (f, b, n, z, rs))), (11, .int .i64 (odV bs gn (f, b, n, z, rs))), (18, .int .i64 (odV bs gn (f, b, n, z, rs))), (17, .fn (Fn.func 68) [] [.ptr 3 (.tl 0) 0, .ptr 4 (.tl 0) 0]), (16, .hw 1), (15, .ptr 0 (.tl 0) 0), (14, .ptr 0 (.tl 0) 0), (13, .ptr 0 (.tl 0) 0), (10, .int .i64 (0 : Int)), (7, .ptr 4 (.tl 0) 0), (6, .ptr 3 (.tl 0) 0), (0, .ptr 0 (.tl 0) 0), (1, .int .i64 bs), (2, .int .i64 gn), (3, .int .i64 by2), (4, .int .u32 su)], objs := [(1, .arr 10 segTy f [[.int .i64 b, .int .i64 n, .int .i64 (0 : Int), .int .i64 (0 : Int), .hw 2, .bool false, .bool false, .bool false, .int .i64 z, .int .u32 (0 : Int)]]), (2, .log recTy rs), (3, .arr 1 .bool [] [[.int .i64 bs]]), (4, .arr 1 .bool [] [[.int .i64 gn]]), (4, .arr 1 .bool [] [[.int .i64 gn]]), (3, .arr 1 .bool [] [[.int .i64 bs]]), (0, .arr 1 .bool [] [[.hw 1]]), (1, .arr 10 segTy f [[.int .i64 b, .int .i64 n, .int .i64 (0 : Int), .int .i64 (0 : Int), .hw 2, .bool false, .bool false, .bool false, .int .i64 z, .int .u32 (0 : Int)]]), (2, .log recTy rs)], nx := 5 } else none := by kernel_rfl
noncomputable abbrev ofFin : Ex → St → Option ((Pat.int .i64).den × opatsDen logP) := fun e s => match e with
  | .exit _ => none
  | _ => (resultsOf (env consO2) s F.f57.results.toList).bind fun vs => finV (.int .i64) logP 3 (oneOr vs) s
theorem ofl2_ev (k bs gn by2 su : Int) (f : List Seg) (b n z : Int) (rs : List Rec) : ev (env consO2) H.f57 3 (LPof []) (sufC 3 B.f57) (ofS k bs gn by2 su f b n z rs) ofFin = bif decide ((0 : Int) ≤ k) && decide (k < (↑(f.length + 1) : Int)) then bif decide (k.toNat < f.length) then Option.bind (bif decide (k > (0 : Int)) then bif decide ((0 : Int) ≤ IntKind.i64.wrap (k - (1 : Int))) && decide (IntKind.i64.wrap (k - (1 : Int)) < (↑(f.length + 1) : Int)) then bif decide ((IntKind.i64.wrap (k - (1 : Int))).toNat < f.length) then bif !(f.getD (IntKind.i64.wrap (k - (1 : Int))).toNat segTy.zero).2.2.2.2.2.2.2.1 then some true else bif by2 != (f.getD k.toNat segTy.zero).2.2.2.2.2.2.2.2.1 then some true else bif decide (List.length (f.getD k.toNat segTy.zero).2.2.2.2.1 ≤ 1000000000) then some (su != sumI (bytS (f.getD k.toNat segTy.zero).2.2.2.2.1)) else none else bif decide ((IntKind.i64.wrap (k - (1 : Int))).toNat - f.length = 0) then some true else none else none else bif by2 != (f.getD k.toNat segTy.zero).2.2.2.2.2.2.2.2.1 then some true else bif decide (List.length (f.getD k.toNat segTy.zero).2.2.2.2.1 ≤ 1000000000) then some (su != sumI (bytS (f.getD k.toNat segTy.zero).2.2.2.2.1)) else none) fun v => bif v then some ((1 : Int), (((), ()), ()), (f, (b, n, (), (), (), (), (), (), z, (), ()), ()), rs, ()) else Option.bind (bif f.length.ble f.length then some (f.set k.toNat ((f.getD k.toNat segTy.zero).1, (f.getD k.toNat segTy.zero).2.1, (f.getD k.toNat segTy.zero).2.2.1, (f.getD k.toNat segTy.zero).2.2.2.1, (f.getD k.toNat segTy.zero).2.2.2.2.1, (f.getD k.toNat segTy.zero).2.2.2.2.2.1, (f.getD k.toNat segTy.zero).2.2.2.2.2.2.1, true, (f.getD k.toNat segTy.zero).2.2.2.2.2.2.2.2)) else none) fun v => Option.bind (bif v.length.ble v.length then some (v.set k.toNat ((v.getD k.toNat segTy.zero).1, (v.getD k.toNat segTy.zero).2.1, (v.getD k.toNat segTy.zero).2.2.1, (v.getD k.toNat segTy.zero).2.2.2.1, [], (v.getD k.toNat segTy.zero).2.2.2.2.2)) else none) fun v => Option.bind (bif v.length.ble v.length then some (v.set k.toNat ((v.getD k.toNat segTy.zero).1, (v.getD k.toNat segTy.zero).2.1, (v.getD k.toNat segTy.zero).2.2.1, (v.getD k.toNat segTy.zero).2.2.2.1, (v.getD k.toNat segTy.zero).2.2.2.2.1, (v.getD k.toNat segTy.zero).2.2.2.2.2.1, (v.getD k.toNat segTy.zero).2.2.2.2.2.2.1, (v.getD k.toNat segTy.zero).2.2.2.2.2.2.2.1, (v.getD k.toNat segTy.zero).2.2.2.2.2.2.2.2.1, su)) else none) fun v => some ((0 : Int), (((), ()), ()), (v, (b, n, (), (), (), (), (), (), z, (), ()), ()), rs, ()) else bif decide (k.toNat - f.length = 0) then Option.bind (bif decide (k > (0 : Int)) then bif decide ((0 : Int) ≤ IntKind.i64.wrap (k - (1 : Int))) && decide (IntKind.i64.wrap (k - (1 : Int)) < (↑(f.length + 1) : Int)) then bif decide ((IntKind.i64.wrap (k - (1 : Int))).toNat < f.length) then bif !(f.getD (IntKind.i64.wrap (k - (1 : Int))).toNat segTy.zero).2.2.2.2.2.2.2.1 then some true else bif by2 != z then some true else bif decide (rs.length ≤ 1000000000) then some (su != sumI (bytS rs)) else none else bif decide ((IntKind.i64.wrap (k - (1 : Int))).toNat - f.length = 0) then some true else none else none else bif by2 != z then some true else bif decide (rs.length ≤ 1000000000) then some (su != sumI (bytS rs)) else none) fun v => bif v then some ((1 : Int), (((), ()), ()), (f, (b, n, (), (), (), (), (), (), z, (), ()), ()), rs, ()) else none else none else none := by kernel_rfl
def ofBad (by2 su : Int) (f : List Seg) (k : Nat) : Bool := (decide (0 < k) && !(f.getD (k - 1) segTy.zero).2.2.2.2.2.2.2.1) || (by2 != (f.getD k segTy.zero).2.2.2.2.2.2.2.2.1 || su != sumI (bytS (f.getD k segTy.zero).2.2.2.2.1))
def ofG (g : Seg) (su : Int) : Seg := (g.1, g.2.1, g.2.2.1, g.2.2.2.1, [], g.2.2.2.2.2.1, g.2.2.2.2.2.2.1, true, g.2.2.2.2.2.2.2.2.1, su)
def offloadP (bs gn by2 su : Int) (M : LogS) : LogS × Int := match odAt bs gn M with
  | none => (M, 8)
  | some k => bif ofBad by2 su M.1 k then (M, 1) else ((M.1.set k (ofG (M.1.getD k segTy.zero) su), M.2), 0)
theorem odAt_lt {bs gn : Int} {M : LogS} {k : Nat} (h : odAt bs gn M = some k) : k < M.1.length := by
  obtain ⟨_, h2, h3, _⟩ := firstFrom_spec h
  refine Nat.not_le.1 fun hge => ?_
  obtain rfl : k = M.1.length := by omega
  unfold offB at h3
  rw [segsL_last] at h3
  cases h3
theorem setD_getS {f : List Seg} {i : Nat} (h : i < f.length) (g : Seg) : (f.set i g).getD i segTy.zero = g := by
  rw [List.getD_eq_getElem?_getD, List.getElem?_set_self h]
  rfl
theorem ble_selfO (n : Nat) : Nat.ble n n = true := Nat.ble_eq_true_of_le (Nat.le_refl n)
theorem off_val (bs gn by2 su : Int) (f : List Seg) (b n z : Int) (rs : List Rec) (h1 : smallL f = true) : evFn (env consO2) H.f57 (LPof []) F.f57 [.ptr 0 (.tl 0) 0, .int .i64 bs, .int .i64 gn, .int .i64 by2, .int .u32 su] [.arr 1 .bool [] [[.hw 1]], .arr 10 segT f [actC b n z], .log recT rs] (finV (.int .i64) logP 3) =
    some ((offloadP bs gn by2 su (f, b, n, z, rs)).2, ((((), ()), ()), ((offloadP bs gn by2 su (f, b, n, z, rs)).1.1, ((offloadP bs gn by2 su (f, b, n, z, rs)).1.2.1, (offloadP bs gn by2 su (f, b, n, z, rs)).1.2.2.1, (), (), (), (), (), (), (offloadP bs gn by2 su (f, b, n, z, rs)).1.2.2.2.1, (), ()), ()), (offloadP bs gn by2 su (f, b, n, z, rs)).1.2.2.2.2, ())) := by
  have h0 : evFn (env consO2) H.f57 (LPof []) F.f57 [.ptr 0 (.tl 0) 0, .int .i64 bs, .int .i64 gn, .int .i64 by2, .int .u32 su] [.arr 1 .bool [] [[.hw 1]], .arr 10 segT f [actC b n z], .log recT rs] (finV (.int .i64) logP 3) =
    ev (env consO2) H.f57 3 (LPof []) B.f57 (initSt [.ptr 0 (.tl 0) 0, .int .i64 bs, .int .i64 gn, .int .i64 by2, .int .u32 su] [.arr 1 .bool [] [[.hw 1]], .arr 10 segT f [actC b n z], .log recT rs]) ofFin := by
    unfold evFn
    rw [Bd.f57]
    rfl
  unfold smallL at h1
  simp only [Bool.and_eq_true, decide_eq_true_eq] at h1
  rw [h0, ev_cut (by rfl) 3, ofl1_ev, cond_pos h1.1]
  unfold offloadP
  cases hi : odAt bs gn (f, b, n, z, rs) with
  | none =>
    have hv : odV bs gn (f, b, n, z, rs) = -1 := by unfold odV; rw [hold_eq, hi]; rfl
    rw [hv]
    rfl
  | some k =>
    have hv : odV bs gn (f, b, n, z, rs) = (k : Int) := by unfold odV; rw [hold_eq, hi]; rfl
    have hk : k < f.length := odAt_lt hi
    rw [hv, cond_neg (by omega)]
    refine Eq.trans (b := ev (env consO2) H.f57 3 (LPof []) (sufC 3 B.f57) (ofS k bs gn by2 su f b n z rs) ofFin) rfl ?_
    rw [ofl2_ev, cond_pos2 (by omega) (by omega), Int.toNat_natCast, cond_pos hk]
    have hr := small_at h1.2 hk
    have hb : (bif decide ((k : Int) > 0) then bif decide ((0 : Int) ≤ IntKind.i64.wrap ((k : Int) - 1)) && decide (IntKind.i64.wrap ((k : Int) - 1) < ((f.length + 1 : Nat) : Int)) then bif decide ((IntKind.i64.wrap ((k : Int) - 1)).toNat < f.length) then bif !(f.getD (IntKind.i64.wrap ((k : Int) - 1)).toNat segTy.zero).2.2.2.2.2.2.2.1 then some true else bif by2 != (f.getD k segTy.zero).2.2.2.2.2.2.2.2.1 then some true else bif decide (List.length (f.getD k segTy.zero).2.2.2.2.1 ≤ 1000000000) then some (su != sumI (bytS (f.getD k segTy.zero).2.2.2.2.1)) else none else bif decide ((IntKind.i64.wrap ((k : Int) - 1)).toNat - f.length = 0) then some true else none else none else bif by2 != (f.getD k segTy.zero).2.2.2.2.2.2.2.2.1 then some true else bif decide (List.length (f.getD k segTy.zero).2.2.2.2.1 ≤ 1000000000) then some (su != sumI (bytS (f.getD k segTy.zero).2.2.2.2.1)) else none) = some (ofBad by2 su f k) := by
      unfold ofBad
      rw [decide_eq_true hr]
      by_cases h0 : 0 < k
      · have w : IntKind.i64.wrap ((k : Int) - 1) = ((k - 1 : Nat) : Int) := by rw [wrap64 (by omega) (by omega)]; omega
        rw [w, cond_pos (by omega), cond_pos2 (by omega) (by omega), Int.toNat_natCast, cond_pos (by omega), decide_eq_true h0]
        cases (f.getD (k - 1) segTy.zero).2.2.2.2.2.2.2.1 <;> cases by2 != (f.getD k segTy.zero).2.2.2.2.2.2.2.2.1 <;> rfl
      · rw [cond_neg (by omega), decide_eq_false h0]
        cases by2 != (f.getD k segTy.zero).2.2.2.2.2.2.2.2.1 <;> rfl
    rw [hb, Option.bind_some]
    simp only [ble_selfO, cond_true, Option.bind_some, setD_getS hk, List.set_set]
    cases ofBad by2 su f k <;> rfl
def caseOffload : VCase := ⟨[.lit (.ptr 0 (.tl 0) 0), .int .i64, .int .i64, .int .i64, .int .u32], logP, .int .i64, logP, fun ⟨_, bs, gn, by2, su, _⟩ ⟨_, ⟨f, ⟨b, n, _, _, _, _, _, _, z, _, _⟩, _⟩, rs, _⟩ => [(smallL f, ((offloadP bs gn by2 su (f, b, n, z, rs)).2, ((((), ()), ()), ((offloadP bs gn by2 su (f, b, n, z, rs)).1.1, ((offloadP bs gn by2 su (f, b, n, z, rs)).1.2.1, (offloadP bs gn by2 su (f, b, n, z, rs)).1.2.2.1, (), (), (), (), (), (), (offloadP bs gn by2 su (f, b, n, z, rs)).1.2.2.2.1, (), ()), ()), (offloadP bs gn by2 su (f, b, n, z, rs)).1.2.2.2.2, ())))]⟩
theorem offload_ok : caseOffload.e.ok P0 I.f57 := vcase_ok (c := caseOffload) (H := H.f57) (E := env consO2) (env_ok consO2_ok) glob0 mixed0 G.f57 Bd.f57 (by kernel_rfl) noLoops fun ⟨_, bs, gn, by2, su, _⟩ ⟨_, ⟨f, ⟨b, n, _, _, _, _, _, _, z, _, _⟩, _⟩, rs, _⟩ r h hw1 hw2 => by
  obtain ⟨hc, rfl⟩ := pick_pre h
  exact off_val bs gn by2 su f b n z rs hc
end Go.Sim
namespace Go.Sim
set_option linter.unusedSimpArgs false
set_option linter.unusedVariables false
set_option maxRecDepth 10000
noncomputable abbrev consW6 : List (FuncId × Con) := [(I.f37, .pure (pureOf [caseRcrcS]))] ++ consW5
theorem consW6_ok : ∀ x ∈ consW6, HoldsC P0 x.1 x.2 := by
  intro x hx
  rcases List.mem_append.1 hx with hx | hx
  · simp at hx
    subst hx
    exact ⟨pureOf_holds (by simp; exact rcrcs_ok), C.f37⟩
  · exact consW5_ok x hx
def H.roff2 : Hint := { H.f18 with join := [(5, 43)] }
theorem rof_rd {R : Type} (bs gn by2 su r i : Int) (f : List Seg) (K : Ex → St → Option R) : roundK (env consW6) H.roff2 2 (LPof []) V.f18_2 L.f18_2 ⟨[(0, .ptr 0 (.tl 0) 0), (1, .int .i64 bs), (2, .int .i64 gn), (3, .int .i64 by2), (4, .int .u32 su), (10, .int .i64 r), (11, .int .i64 i)], [(0, .arr 1 .bool [] [[.hw 1]]), (1, .arr 10 segT f [])], 2⟩ K = bif decide (IntKind.i64.wrap (i + (1 : Int)) < (↑f.length : Int)) then bif decide ((0 : Int) ≤ i) && decide (i < (↑f.length : Int)) then Option.bind (bif (f.getD i.toNat segTy.zero).2.2.2.2.2.2.2.1 then some true else bif (f.getD i.toNat segTy.zero).1 != bs then some true else some ((f.getD i.toNat segTy.zero).2.2.2.1 != gn)) fun v => bif v then K .normal { slots := [(0, .ptr 0 (.tl 0) 0), (1, .int .i64 bs), (2, .int .i64 gn), (3, .int .i64 by2), (4, .int .u32 su), (10, .int .i64 r), (11, .int .i64 (IntKind.i64.wrap (i + (1 : Int))))], objs := [(0, .arr 1 .bool [] [[.hw 1]]), (1, .arr 10 segTy f [])], nx := 2 } else bif decide (i > (0 : Int)) then bif decide ((0 : Int) ≤ IntKind.i64.wrap (i - (1 : Int))) && decide (IntKind.i64.wrap (i - (1 : Int)) < (↑f.length : Int)) then bif !(f.getD (IntKind.i64.wrap (i - (1 : Int))).toNat segTy.zero).2.2.2.2.2.2.2.1 then K .ret { slots := [(0, .ptr 0 (.tl 0) 0), (1, .int .i64 bs), (2, .int .i64 gn), (3, .int .i64 by2), (4, .int .u32 su), (10, .int .i64 (1 : Int)), (11, .int .i64 i)], objs := [(0, .arr 1 .bool [] [[.hw 1]]), (1, .arr 10 segTy f [])], nx := 2 } else bif by2 != (f.getD i.toNat segTy.zero).2.2.2.2.2.2.2.2.1 then K .ret { slots := [(0, .ptr 0 (.tl 0) 0), (1, .int .i64 bs), (2, .int .i64 gn), (3, .int .i64 by2), (4, .int .u32 su), (10, .int .i64 (1 : Int)), (11, .int .i64 i)], objs := [(0, .arr 1 .bool [] [[.hw 1]]), (1, .arr 10 segTy f [])], nx := 2 } else bif decide (List.length (f.getD i.toNat segTy.zero).2.2.2.2.1 ≤ 1000000000) then bif su != sumI (bytS (f.getD i.toNat segTy.zero).2.2.2.2.1) then K .ret { slots := [(0, .ptr 0 (.tl 0) 0), (1, .int .i64 bs), (2, .int .i64 gn), (3, .int .i64 by2), (4, .int .u32 su), (10, .int .i64 (1 : Int)), (11, .int .i64 i)], objs := [(0, .arr 1 .bool [] [[.hw 1]]), (1, .arr 10 segTy f [])], nx := 2 } else bif decide ((0 : Int) ≤ i) && decide (i < (↑f.length : Int)) then Option.bind (bif f.length.ble f.length then some (f.set i.toNat ((f.getD i.toNat segTy.zero).1, (f.getD i.toNat segTy.zero).2.1, (f.getD i.toNat segTy.zero).2.2.1, (f.getD i.toNat segTy.zero).2.2.2.1, [], (f.getD i.toNat segTy.zero).2.2.2.2.2.1, (f.getD i.toNat segTy.zero).2.2.2.2.2.2.1, true, by2, su)) else none) fun v => K .ret { slots := [(0, .ptr 0 (.tl 0) 0), (1, .int .i64 bs), (2, .int .i64 gn), (3, .int .i64 by2), (4, .int .u32 su), (10, .int .i64 (0 : Int)), (11, .int .i64 i)], objs := [(0, .arr 1 .bool [] [[.hw 1]]), (1, .arr 10 segTy v [])], nx := 2 } else none else none else none else bif by2 != (f.getD i.toNat segTy.zero).2.2.2.2.2.2.2.2.1 then K .ret { slots := [(0, .ptr 0 (.tl 0) 0), (1, .int .i64 bs), (2, .int .i64 gn), (3, .int .i64 by2), (4, .int .u32 su), (10, .int .i64 (1 : Int)), (11, .int .i64 i)], objs := [(0, .arr 1 .bool [] [[.hw 1]]), (1, .arr 10 segTy f [])], nx := 2 } else bif decide (List.length (f.getD i.toNat segTy.zero).2.2.2.2.1 ≤ 1000000000) then bif su != sumI (bytS (f.getD i.toNat segTy.zero).2.2.2.2.1) then K .ret { slots := [(0, .ptr 0 (.tl 0) 0), (1, .int .i64 bs), (2, .int .i64 gn), (3, .int .i64 by2), (4, .int .u32 su), (10, .int .i64 (1 : Int)), (11, .int .i64 i)], objs := [(0, .arr 1 .bool [] [[.hw 1]]), (1, .arr 10 segTy f [])], nx := 2 } else bif decide ((0 : Int) ≤ i) && decide (i < (↑f.length : Int)) then Option.bind (bif f.length.ble f.length then some (f.set i.toNat ((f.getD i.toNat segTy.zero).1, (f.getD i.toNat segTy.zero).2.1, (f.getD i.toNat segTy.zero).2.2.1, (f.getD i.toNat segTy.zero).2.2.2.1, [], (f.getD i.toNat segTy.zero).2.2.2.2.2.1, (f.getD i.toNat segTy.zero).2.2.2.2.2.2.1, true, by2, su)) else none) fun v => K .ret { slots := [(0, .ptr 0 (.tl 0) 0), (1, .int .i64 bs), (2, .int .i64 gn), (3, .int .i64 by2), (4, .int .u32 su), (10, .int .i64 (0 : Int)), (11, .int .i64 i)], objs := [(0, .arr 1 .bool [] [[.hw 1]]), (1, .arr 10 segTy v [])], nx := 2 } else none else none else none else K (.exit 0) { slots := [(0, .ptr 0 (.tl 0) 0), (1, .int .i64 bs), (2, .int .i64 gn), (3, .int .i64 by2), (4, .int .u32 su), (10, .int .i64 r), (11, .int .i64 i)], objs := [(0, .arr 1 .bool [] [[.hw 1]]), (1, .arr 10 segTy f [])], nx := 2 } := by kernel_rfl
def rofB (bs gn : Int) (f : List Seg) (i : Nat) : Bool := !((f.getD i segTy.zero).2.2.2.2.2.2.2.1 || ((f.getD i segTy.zero).1 != bs || (f.getD i segTy.zero).2.2.2.1 != gn))
def rofSt (bs gn by2 su r : Int) (f : List Seg) (i : Nat) : St := ⟨[(0, .ptr 0 (.tl 0) 0), (1, .int .i64 bs), (2, .int .i64 gn), (3, .int .i64 by2), (4, .int .u32 su), (10, .int .i64 r), (11, .int .i64 i)], [(0, .arr 1 .bool [] [[.hw 1]]), (1, .arr 10 segT f [])], 2⟩
def rofT (bs gn by2 su : Int) (f : List Seg) (i : Nat) : St := rofSt bs gn by2 su (bif ofBad by2 su f i then 1 else 0) (bif ofBad by2 su f i then f else f.set i (ofG (f.getD i segTy.zero) su)) i
theorem rof_fin {R : Type} (bs gn by2 su : Int) (f : List Seg) (i : Nat) (hi : i < f.length) (h1 : (f.getD i segTy.zero).2.2.2.2.1.length ≤ 1000000000) (p : Bool) (hp : p = (decide (0 < i) && !(f.getD (i - 1) segTy.zero).2.2.2.2.2.2.2.1)) (K : Ex → St → Option R) :
    (bif p then K .ret (rofSt bs gn by2 su 1 f i) else bif by2 != (f.getD i segTy.zero).2.2.2.2.2.2.2.2.1 then K .ret (rofSt bs gn by2 su 1 f i) else bif decide (List.length (f.getD i segTy.zero).2.2.2.2.1 ≤ 1000000000) then bif su != sumI (bytS (f.getD i segTy.zero).2.2.2.2.1) then K .ret (rofSt bs gn by2 su 1 f i) else
      bif decide ((0 : Int) ≤ (i : Int)) && decide ((i : Int) < (f.length : Int)) then Option.bind (bif f.length.ble f.length then some (f.set i ((f.getD i segTy.zero).1, (f.getD i segTy.zero).2.1, (f.getD i segTy.zero).2.2.1, (f.getD i segTy.zero).2.2.2.1, [], (f.getD i segTy.zero).2.2.2.2.2.1, (f.getD i segTy.zero).2.2.2.2.2.2.1, true, by2, su)) else none) fun v => K .ret (rofSt bs gn by2 su 0 v i) else none else none) = K .ret (rofT bs gn by2 su f i) := by
  rw [decide_eq_true h1, cond_true, cond_pos2 (by omega) (by omega), ble_selfL, cond_true, Option.bind_some]
  unfold rofT
  have hb : ofBad by2 su f i = (p || (by2 != (f.getD i segTy.zero).2.2.2.2.2.2.2.2.1 || su != sumI (bytS (f.getD i segTy.zero).2.2.2.2.1))) := by rw [hp]; rfl
  rw [hb]
  cases p with
  | true => rfl
  | false =>
    cases h2 : by2 != (f.getD i segTy.zero).2.2.2.2.2.2.2.2.1 with
    | true => rfl
    | false =>
      cases su != sumI (bytS (f.getD i segTy.zero).2.2.2.2.1) with
      | true => rfl
      | false =>
        have e : by2 = (f.getD i segTy.zero).2.2.2.2.2.2.2.2.1 := by simpa using h2
        unfold ofG
        rw [← e]
        rfl
theorem rof_step {R : Type} (bs gn by2 su : Int) (f : List Seg) (hs : smallL f = true) (i : Nat) (hi : i < f.length - 1) (K : Ex → St → Option R) :
    roundK (env consW6) H.roff2 2 (LPof []) V.f18_2 L.f18_2 (rofSt bs gn by2 su 0 f i) K = bif rofB bs gn f i then K .ret (rofT bs gn by2 su f i) else K .normal (rofSt bs gn by2 su 0 f (i + 1)) := by
  unfold smallL at hs
  simp only [Bool.and_eq_true, decide_eq_true_eq] at hs
  have h1 := small_at hs.2 (show i < f.length by omega)
  refine (rof_rd bs gn by2 su 0 i f K).trans ?_
  have e1 : IntKind.i64.wrap ((i : Int) + 1) = ((i + 1 : Nat) : Int) := by rw [wrap64 (by omega) (by omega)]; omega
  rw [e1, cond_pos (by omega), cond_pos2 (by omega) (by omega), Int.toNat_natCast]
  have e4 : (bif (f.getD i segTy.zero).2.2.2.2.2.2.2.1 then some true else bif (f.getD i segTy.zero).1 != bs then some true else some ((f.getD i segTy.zero).2.2.2.1 != gn)) = some (!rofB bs gn f i) := by
    unfold rofB
    cases (f.getD i segTy.zero).2.2.2.2.2.2.2.1 <;> cases (f.getD i segTy.zero).1 != bs <;> simp
  rw [e4, Option.bind_some]
  cases rofB bs gn f i with
  | false => rfl
  | true =>
    rw [Bool.not_true, cond_false, cond_true]
    by_cases h0 : 0 < i
    · have e2 : IntKind.i64.wrap ((i : Int) - 1) = ((i - 1 : Nat) : Int) := by rw [wrap64 (by omega) (by omega)]; omega
      rw [cond_pos (by omega), e2, cond_pos2 (by omega) (by omega), Int.toNat_natCast]
      exact rof_fin bs gn by2 su f i (by omega) h1 _ (by rw [decide_eq_true h0, Bool.true_and]) K
    · rw [cond_neg (by omega)]
      exact rof_fin bs gn by2 su f i (by omega) h1 false (by rw [decide_eq_false h0, Bool.false_and]) K
theorem rof_last {R : Type} (bs gn by2 su : Int) (f : List Seg) (h1 : f.length ≤ 1000000000) (K : Ex → St → Option R) : roundK (env consW6) H.roff2 2 (LPof []) V.f18_2 L.f18_2 (rofSt bs gn by2 su 0 f (f.length - 1)) K = K (.exit 0) (rofSt bs gn by2 su 0 f (f.length - 1)) := by
  refine (rof_rd bs gn by2 su 0 _ f K).trans ?_
  rw [wrap64 (by omega) (by omega), cond_neg (by omega)]
  rfl
def rofAt (bs gn : Int) (f : List Seg) : Option Nat := firstFrom (rofB bs gn f) 0 (f.length - 1)
abbrev rofLC : LoopC := LoopC.of ⟨[(0, .lit (.ptr 0 (.tl 0) 0)), (1, .int .i64), (2, .int .i64), (3, .int .i64), (4, .int .u32), (10, .int .i64), (11, .int .i64)], docP⟩
  (fun ⟨⟨_, bs, gn, by2, su, r, i, _⟩, ⟨_, ⟨f, _⟩, _⟩⟩ => decide (i = (0 : Int)) && decide (r = (0 : Int)) && smallL f)
  fun ⟨⟨_, bs, gn, by2, su, r, i, _⟩, ⟨_, ⟨f, _⟩, _⟩⟩ => [((rofAt bs gn f).isSome, .ret, rofT bs gn by2 su f ((rofAt bs gn f).getD 0)), (true, .exit 0, rofSt bs gn by2 su 0 f (List.length f - 1))]
theorem smallL_len {f : List Seg} (h : smallL f = true) : f.length ≤ 1000000000 := by
  unfold smallL at h
  simp only [Bool.and_eq_true, decide_eq_true_eq] at h
  exact h.1
theorem rof_lok : LoopOK P0 H.roff2 2 L.f18_2 rofLC :=
  loop_ok_of (env_ok consW6_ok) glob0 mixed0 noLoops V.f18_2 (by decide) fun ⟨⟨_, bs, gn, by2, su, r, i, _⟩, ⟨_, ⟨f, _⟩, _⟩⟩ h hw => by
    simp only [Bool.and_eq_true, decide_eq_true_eq] at h
    obtain ⟨⟨rfl, rfl⟩, h3⟩ := h
    exact ⟨_, Eq.trans (search_rounds (S := rofSt bs gn by2 su 0 f) (T := fun i => rofT bs gn by2 su f i) (p := rofB bs gn f) (n := List.length f - 1) (e1 := .ret) (e2 := .exit 0) (by simp) (by simp) (fun i hi K => rof_step bs gn by2 su f h3 i hi K) (fun K => rof_last bs gn by2 su f (smallL_len h3) K) _ (List.length f - 1) 0 (by omega)) search_pick⟩
theorem roff_ev (bs gn by2 su : Int) (f : List Seg) : evFn (env consW6) H.roff2 (LPof [(2, rofLC)]) F.f18 [.ptr 0 (.tl 0) 0, .int .i64 bs, .int .i64 gn, .int .i64 by2, .int .u32 su] [.arr 1 .bool [] [[.hw 1]], .arr 10 segT f []] (finV (.int .i64) docP 2) = bif smallL f && (rofAt bs gn f).isSome then some (bif ofBad by2 su f ((rofAt bs gn f).getD 0) then (1 : Int) else (0 : Int), (((), ()), ()), (bif ofBad by2 su f ((rofAt bs gn f).getD 0) then f else f.set ((rofAt bs gn f).getD 0) (ofG (f.getD ((rofAt bs gn f).getD 0) segTy.zero) su), ()), ()) else bif smallL f && true then some ((8 : Int), (((), ()), ()), (f, ()), ()) else none := by kernel_rfl
def roffP (bs gn by2 su : Int) (f : List Seg) : List Seg × Int := match rofAt bs gn f with
  | none => (f, 8)
  | some k => bif ofBad by2 su f k then (f, 1) else (f.set k (ofG (f.getD k segTy.zero) su), 0)
def caseRoff : VCase := ⟨[.lit (.ptr 0 (.tl 0) 0), .int .i64, .int .i64, .int .i64, .int .u32], docP, .int .i64, docP, fun ⟨_, bs, gn, by2, su, _⟩ ⟨_, ⟨f, _⟩, _⟩ => [(smallL f, ((roffP bs gn by2 su f).2, ((((), ()), ()), ((roffP bs gn by2 su f).1, ()), ())))]⟩
theorem roff_ok : caseRoff.e.ok P0 I.f18 := vcase_ok (c := caseRoff) (H := H.roff2) (E := env consW6) (env_ok consW6_ok) glob0 mixed0 G.f18 Bd.f18 (by kernel_rfl) (loops_good (tab := [(2, rofLC)]) (by kernel_rfl) (fun x hx => by simp at hx; subst hx; exact rof_lok)) fun ⟨_, bs, gn, by2, su, _⟩ ⟨_, ⟨f, _⟩, _⟩ r h hw1 hw2 => by
  obtain ⟨hc, rfl⟩ := pick_pre h
  refine (roff_ev bs gn by2 su f).trans ?_
  have hc : smallL f = true := hc
  rw [hc]
  unfold roffP
  cases rofAt bs gn f with
  | none => rfl
  | some k =>
    simp only [Option.isSome_some, Option.getD_some]
    cases ofBad by2 su f k <;> rfl
end Go.Sim
namespace Go.Sim
set_option linter.unusedSimpArgs false
set_option linter.unusedVariables false
set_option maxRecDepth 10000
theorem ble_selfK (n : Nat) : Nat.ble n n = true := Nat.ble_eq_true_of_le (Nat.le_refl n)
theorem env_nilK : ∀ x ∈ ([] : List (FuncId × Con)), HoldsC P0 x.1 x.2 := fun x h => by cases h
theorem behind_ev (a b c : Int) : evFn (env []) H.f1 (LPof []) F.f1 [.int .i64 a, .int .i64 b, .int .i64 c] [] (finK 0) = bif decide (a < b) then Option.bind (bif decide (c < (0 : Int)) then some (decide (IntKind.u64.wrap (IntKind.u64.wrap b - IntKind.u64.wrap a) < IntKind.u64.wrap (IntKind.u64.wrap (IntKind.i64.wrap ((0 : Int) - IntKind.i64.wrap (c + (1 : Int)))) + (1 : Int)))) else some false) fun v => some (.bool v, []) else Option.bind (bif decide (c < (0 : Int)) then some true else some (decide (IntKind.u64.wrap (IntKind.u64.wrap a - IntKind.u64.wrap b) > IntKind.u64.wrap c))) fun v => some (.bool v, []) := by kernel_rfl
theorem rev_rd {R : Type} (l : List Rec) (i j : Int) (K : Ex → St → Option R) : roundK (env []) H.f78 1 (LPof []) V.f78_1 L.f78_1 ⟨[(0, .hw 0), (2, .int .i64 i), (3, .int .i64 j)], [(0, .arr 5 recTy l [])], 1⟩ K = bif decide (i < j) then bif decide ((0 : Int) ≤ j) && decide (j < (↑l.length : Int)) then bif decide ((0 : Int) ≤ i) && decide (i < (↑l.length : Int)) then bif decide ((0 : Int) ≤ i) && decide (i < (↑l.length : Int)) then Option.bind (bif l.length.ble l.length then some (l.set i.toNat (l.getD j.toNat recTy.zero)) else none) fun v => bif decide ((0 : Int) ≤ j) && decide (j < (↑v.length : Int)) then Option.bind (bif v.length.ble v.length then some (v.set j.toNat (l.getD i.toNat recTy.zero)) else none) fun v => K .normal { slots := [(0, .hw 0), (2, .int .i64 (IntKind.i64.wrap (i + (1 : Int)))), (3, .int .i64 (IntKind.i64.wrap (j - (1 : Int))))], objs := [(0, .arr 5 recTy v [])], nx := 1 } else none else none else none else none else K (.exit 0) { slots := [(0, .hw 0), (2, .int .i64 i), (3, .int .i64 j)], objs := [(0, .arr 5 recTy l [])], nx := 1 } := by kernel_rfl
theorem behind_val (a b c : Int) (ha : In .i64 a) (hb : In .i64 b) (hc : In .i64 c) : evFn (env []) H.f1 (LPof []) F.f1 [.int .i64 a, .int .i64 b, .int .i64 c] [] (finK 0) = some (.bool (decide (a - b > c)), []) := by
  rw [behind_ev]
  rw [In.i64] at ha hb hc
  simp only [wrapu64_mod]
  by_cases h1 : a < b
  · rw [cond_pos h1]
    by_cases h2 : c < 0
    · rw [cond_pos h2]
      have e1 : IntKind.i64.wrap (c + (1 : Int)) = c + 1 := wrap64 (by omega) (by omega)
      have e2 : IntKind.i64.wrap ((0 : Int) - (c + 1)) = -c - 1 := by rw [wrap64 (by omega) (by omega)]; omega
      rw [e1, e2]
      simp only [Option.bind_some]
      congr 3
      exact decide_eq_decide.2 (by omega)
    · rw [cond_neg h2]
      have : ¬ (a - b > c) := by omega
      simp [this]
  · rw [cond_neg h1]
    by_cases h2 : c < 0
    · rw [cond_pos h2]
      have : a - b > c := by omega
      simp [this]
    · rw [cond_neg h2]
      simp only [Option.bind_some]
      congr 3
      exact decide_eq_decide.2 (by omega)
def caseBeh : PCase := ⟨[.ty (.int .i64), .ty (.int .i64), .ty (.int .i64)], [.bool], fun x => [(true, (decide (x.1 - x.2.1 > x.2.2.1), ()))]⟩
theorem behind_ok : caseBeh.ok P0 I.f1 := case_ok (H := H.f1) (E := env []) (env_ok env_nilK) glob0 mixed0 G.f1 Bd.f1 (by kernel_rfl) noLoops fun ⟨a, b, c, ()⟩ y h hw => by
  obtain rfl := pick_one h
  exact ⟨[], behind_val a b c hw.1 hw.2.1 hw.2.2.1⟩
def revSt (l : List Rec) (i j : Int) : St := ⟨[(0, .hw 0), (2, .int .i64 i), (3, .int .i64 j)], [(0, .arr 5 recTy l [])], 1⟩
theorem getD_mid (pre post : List Rec) (x d : Rec) (n : Nat) (h : n = pre.length) : (pre ++ x :: post).getD n d = x := by
  subst h; simp
theorem set_mid (pre post : List Rec) (x y : Rec) (n : Nat) (h : n = pre.length) : (pre ++ x :: post).set n y = pre ++ y :: post := by
  subst h; simp
theorem rev_loop {R : Type} (K : Ex → St → Option R) : ∀ (k : Nat) (pre mid post : List Rec), mid.length ≤ k → (pre ++ (mid ++ post)).length ≤ maxL →
    rounds (env []) H.f78 1 (LPof []) V.f78_1 L.f78_1 (k + 1) (revSt (pre ++ (mid ++ post)) pre.length ((pre.length : Int) + mid.length - 1)) K =
      K (.exit 0) (revSt (pre ++ (mid.reverse ++ post)) ((pre.length + mid.length / 2 : Nat) : Int) ((pre.length : Int) + mid.length - 1 - ((mid.length / 2 : Nat) : Int)))
  | k, pre, [], post, hk, hL => by
    rw [rounds_succ']
    unfold revSt
    rw [rev_rd, cond_neg (by simp; omega)]
    simp
  | k, pre, [x], post, hk, hL => by
    rw [rounds_succ']
    unfold revSt
    rw [rev_rd, cond_neg (by simp)]
    simp
  | 0, pre, x :: z :: mid, post, hk, hL => by simp at hk
  | k + 1, pre, x :: z :: mid, post, hk, hL => by
    obtain ⟨mid', y, hm⟩ : ∃ mid' y, z :: mid = mid' ++ [y] := ⟨_, _, (List.dropLast_concat_getLast (List.cons_ne_nil z mid)).symm⟩
    rw [hm] at hk hL ⊢
    unfold maxL at hL
    simp only [List.length_cons, List.length_append, List.length_nil] at hk hL
    have e0 : pre ++ (x :: (mid' ++ [y]) ++ post) = pre ++ x :: (mid' ++ y :: post) := by simp
    have e1 : pre ++ x :: (mid' ++ y :: post) = (pre ++ x :: mid') ++ y :: post := by simp
    have hj : ((pre.length : Int) + ((x :: (mid' ++ [y])).length : Nat) - 1) = ((pre.length + 1 + mid'.length : Nat) : Int) := by simp; omega
    rw [hj, e0, rounds_succ']
    unfold revSt
    rw [rev_rd, cond_pos (by omega), cond_pos2 (by omega) (by simp; omega), cond_pos2 (by omega) (by simp; omega), cond_pos2 (by omega) (by simp; omega), ble_selfK, cond_true, Option.bind_some, cond_pos2 (by omega) (by simp; omega), ble_selfK, cond_true, Option.bind_some]
    simp only [Int.toNat_natCast]
    rw [getD_mid pre (mid' ++ y :: post) x _ _ rfl]
    have g1 : (pre ++ x :: (mid' ++ y :: post)).getD (pre.length + 1 + mid'.length) recTy.zero = y := by
      rw [e1]
      exact getD_mid _ _ _ _ _ (by simp; omega)
    rw [g1, set_mid pre (mid' ++ y :: post) x y _ rfl]
    have g2 : (pre ++ y :: (mid' ++ y :: post)).set (pre.length + 1 + mid'.length) x = (pre ++ [y]) ++ (mid' ++ (x :: post)) := by
      rw [show pre ++ y :: (mid' ++ y :: post) = (pre ++ y :: mid') ++ y :: post by simp, set_mid _ _ _ _ _ (by simp; omega)]
      simp
    rw [g2, wrap64 (by omega) (by omega), wrap64 (by omega) (by omega)]
    have ih := rev_loop K k (pre ++ [y]) mid' (x :: post) (by omega) (by unfold maxL; simp; omega)
    unfold revSt at ih
    have hp : ((pre ++ [y]).length : Int) = (pre.length : Int) + 1 := by simp
    rw [hp] at ih
    rw [show ((pre.length + 1 + mid'.length : Nat) : Int) - 1 = (pre.length : Int) + 1 + mid'.length - 1 by omega]
    refine Eq.trans ih ?_
    have f1 : (pre ++ [y]) ++ (mid'.reverse ++ x :: post) = pre ++ ((x :: (mid' ++ [y])).reverse ++ post) := by simp
    have f2 : (((pre ++ [y]).length + mid'.length / 2 : Nat) : Int) = ((pre.length + (x :: (mid' ++ [y])).length / 2 : Nat) : Int) := by simp; omega
    have f3 : (pre.length : Int) + 1 + mid'.length - 1 - ((mid'.length / 2 : Nat) : Int) = (pre.length : Int) + ((x :: (mid' ++ [y])).length : Nat) - 1 - (((x :: (mid' ++ [y])).length / 2 : Nat) : Int) := by simp; omega
    rw [f1, f2, f3, hj]
def revPat : SPat := ⟨[(0, .lit (.hw 0)), (2, .int .i64), (3, .int .i64)], [.arr 5 recTy []]⟩
def revLC : LoopC := LoopC.of revPat (fun x => decide (x.1.2.1 = (0 : Int)) && decide (x.1.2.2.1 = ((List.length x.2.1.1 : Nat) : Int) - 1))
  fun x => [(true, .exit 0, revSt (List.reverse x.2.1.1) ((List.length x.2.1.1 / 2 : Nat) : Int) (((List.length x.2.1.1 : Nat) : Int) - 1 - ((List.length x.2.1.1 / 2 : Nat) : Int)))]
theorem rev_all (l : List Rec) (h : l.length ≤ maxL) : ∃ n, rounds (env []) H.f78 1 (LPof []) V.f78_1 L.f78_1 n (revSt l 0 ((l.length : Int) - 1)) (fun e s => some (e, s)) =
    some (.exit 0, revSt l.reverse ((l.length / 2 : Nat) : Int) ((l.length : Int) - 1 - ((l.length / 2 : Nat) : Int))) := by
  have := rev_loop (fun e s => some (e, s)) l.length [] l [] (Nat.le_refl _) (by simpa using h)
  simp only [List.nil_append, List.append_nil, List.length_nil, Int.zero_add, Nat.zero_add, Int.natCast_zero] at this
  exact ⟨_, this⟩
theorem rev_lok : LoopOK P0 H.f78 1 L.f78_1 revLC := loop_ok_of (env_ok env_nilK) glob0 mixed0 noLoops V.f78_1 (by decide) fun ⟨⟨_, i, j, _⟩, ⟨l, _⟩, _⟩ h hw => by
  simp only [Bool.and_eq_true, decide_eq_true_eq] at h
  obtain ⟨h1, h2⟩ := h
  subst h1; subst h2
  exact rev_all l hw.2.1.1.1
theorem rev_ev (l : List Rec) : evFn (env []) H.f78 (LPof [(1, revLC)]) F.f78 [.hw 0] [.arr 5 recTy l []] (finK 1) = bif decide (IntKind.i64.wrap ((↑l.length : Int) - (1 : Int)) = (↑l.length : Int) - (1 : (Pat.int IntKind.i64).den)) && true then some (.tup [], [.arr 5 recTy l.reverse []]) else none := by kernel_rfl
def caseRev : ECase := ⟨[.lit (.hw 0)], [.arr 5 recTy []], fun _ y => [(decide (List.length y.1.1 ≤ maxL), .tup [], [.arr 5 recTy (List.reverse y.1.1) []])]⟩
theorem rev_val (l : List Rec) (h : l.length ≤ maxL) : evFn (env []) H.f78 (LPof [(1, revLC)]) F.f78 [.hw 0] [.arr 5 recTy l []] (finK 1) = some (.tup [], [.arr 5 recTy l.reverse []]) := by
  unfold maxL at h
  rw [rev_ev, wrap64 (by omega) (by omega)]
  simp
theorem rev_ok : caseRev.ok P0 I.f78 := ecase_ok (H := H.f78) (E := env []) (env_ok env_nilK) glob0 mixed0 G.f78 Bd.f78 (by kernel_rfl) (loops_good (tab := [(1, revLC)]) (by kernel_rfl) (fun x hx => by simp at hx; subst hx; exact rev_lok)) fun ⟨_, ()⟩ ⟨⟨l, ()⟩, ()⟩ r objs' h hw1 hw2 => by
  obtain ⟨hc, hy⟩ := pick_pre h
  cases hy
  exact rev_val l (of_decide_eq_true hc)
noncomputable abbrev consK : List (FuncId × Con) := [(I.f1, .pure (pureOf [caseBeh])), (I.f78, .eff (effOf [caseRev]))]
theorem consK_ok : ∀ x ∈ consK, HoldsC P0 x.1 x.2 := by
  intro x hx
  simp at hx
  rcases hx with rfl | rfl
  · exact ⟨pureOf_holds (by simp; exact behind_ok), C.f1⟩
  · exact ⟨fun args objs r objs' h _ => effOf_holds (by simp; exact rev_ok) args objs r objs' h, C.f78⟩
theorem keep_rd {R : Type} (l out : List Rec) (m : Met) (a b c i : Int) (d : Bool) (K : Ex → St → Option R) : roundK (env consK) H.f0 0 (LPof []) V.f0_4 L.f0_4 ⟨[(0, .vl recTy l), (1, .int .i64 a), (2, .int .i64 b), (3, .int .i64 c), (4, .bool d), (11, .hw 0), (12, .mp 1), (13, .int .i64 i)], [(0, .arr 5 recTy out []), (1, .map .str .bool m)], 2⟩ K = bif decide (i ≥ (0 : Int)) then bif decide ((0 : Int) ≤ i) && decide (i < (↑l.length : Int)) then bif decide ((l.getD i.toNat recTy.zero).1 ≥ a) then bif decide ((out ++ [l.getD i.toNat recTy.zero]).length * 56 ≤ 140737488355328) then K .normal { slots := [(0, .vl recTy l), (1, .int .i64 a), (2, .int .i64 b), (3, .int .i64 c), (4, .bool d), (11, .hw 0), (12, .mp 1), (13, .int .i64 (IntKind.i64.wrap (i - (1 : Int))))], objs := [(0, .arr 5 recTy (out ++ [l.getD i.toNat recTy.zero]) []), (1, .map Ty.str Ty.bool m)], nx := 2 } else none else Option.bind (bif !((mget (kt := Ty.str) (vt := Ty.bool)) (l.getD i.toNat recTy.zero).2.2.1 m).getD false then bif (l.getD i.toNat recTy.zero).2.2.2.2 then bif d then some !decide (b - (l.getD i.toNat recTy.zero).2.1 > c) else some true else some true else some false) fun v => bif v then bif decide ((out ++ [l.getD i.toNat recTy.zero]).length * 56 ≤ 140737488355328) then bif decide (List.length m < 9223372036854775807) then K .normal { slots := [(0, .vl recTy l), (1, .int .i64 a), (2, .int .i64 b), (3, .int .i64 c), (4, .bool d), (11, .hw 0), (12, .mp 1), (13, .int .i64 (IntKind.i64.wrap (i - (1 : Int))))], objs := [(0, .arr 5 recTy (out ++ [l.getD i.toNat recTy.zero]) []), (1, .map Ty.str Ty.bool ((mset (kt := Ty.str) (vt := Ty.bool)) (l.getD i.toNat recTy.zero).2.2.1 true m))], nx := 2 } else none else none else bif decide (List.length m < 9223372036854775807) then K .normal { slots := [(0, .vl recTy l), (1, .int .i64 a), (2, .int .i64 b), (3, .int .i64 c), (4, .bool d), (11, .hw 0), (12, .mp 1), (13, .int .i64 (IntKind.i64.wrap (i - (1 : Int))))], objs := [(0, .arr 5 recTy out []), (1, .map Ty.str Ty.bool ((mset (kt := Ty.str) (vt := Ty.bool)) (l.getD i.toNat recTy.zero).2.2.1 true m))], nx := 2 } else none else none else K (.exit 0) { slots := [(0, .vl recTy l), (1, .int .i64 a), (2, .int .i64 b), (3, .int .i64 c), (4, .bool d), (11, .hw 0), (12, .mp 1), (13, .int .i64 i)], objs := [(0, .arr 5 recTy out []), (1, .map Ty.str Ty.bool m)], nx := 2 } := by kernel_rfl
def keepSt (l out : List Rec) (m : Met) (a b c i : Int) (d : Bool) : St := ⟨[(0, .vl recTy l), (1, .int .i64 a), (2, .int .i64 b), (3, .int .i64 c), (4, .bool d), (11, .hw 0), (12, .mp 1), (13, .int .i64 i)], [(0, .arr 5 recTy out []), (1, .map .str .bool m)], 2⟩
theorem getD_dropR (l : List Rec) (n : Nat) (h : n < l.length) : l.drop n = l.getD n recTy.zero :: l.drop (n + 1) := by
  rw [List.getD_eq_getElem?_getD, List.getElem?_eq_getElem h]
  simp
theorem keep_loop (l : List Rec) (a b c : Int) (d : Bool) (hl : l.length ≤ 1048576) {R : Type} (K : Ex → St → Option R) : ∀ (k : Nat), k ≤ l.length →
    rounds (env consK) H.f0 0 (LPof []) V.f0_4 L.f0_4 (k + 1) (keepSt l (keepL a b c d (l.drop k)).reverse (metL a (l.drop k)) a b c ((k : Int) - 1) d) K =
      K (.exit 0) (keepSt l (keepL a b c d l).reverse (metL a l) a b c (-1) d)
  | 0, _ => by
    rw [rounds_succ']
    unfold keepSt
    rw [keep_rd]
    simp
  | k + 1, h => by
    have hlen : k < l.length := by omega
    have ih := keep_loop l a b c d hl K k (by omega)
    rw [getD_dropR l k hlen] at ih
    rw [rounds_succ']
    unfold keepSt at ih ⊢
    have hi : ((k + 1 : Nat) : Int) - 1 = (k : Int) := by omega
    have hkl := keepL_length a b c d (l.drop (k + 1))
    have hml := metL_length a (l.drop (k + 1))
    have hdl : (l.drop (k + 1)).length ≤ 1048576 := by simp; omega
    rw [hi, keep_rd, cond_pos (by omega), cond_pos2 (by omega) (by omega)]
    simp only [Int.toNat_natCast]
    rw [wrap64 (by omega) (by omega)]
    simp only [keepL, metL] at ih
    by_cases h1 : (l.getD k recTy.zero).1 ≥ a
    · rw [cond_pos h1, cond_pos (by simp; omega)]
      simp only [staysR, h1, decide_true, Bool.true_or, cond_true, List.reverse_cons] at ih
      exact ih
    · rw [cond_neg h1]
      have hg : (mget (kt := .str) (vt := .bool) (l.getD k recTy.zero).2.2.1 (metL a (l.drop (k + 1)))).getD false = metIn a (l.drop (k + 1)) (l.getD k recTy.zero).2.2.1 := metL_get a (l.getD k recTy.zero).2.2.1 (l.drop (k + 1))
      have hb : (bif !(mget (kt := .str) (vt := .bool) (l.getD k recTy.zero).2.2.1 (metL a (l.drop (k + 1)))).getD false then bif (l.getD k recTy.zero).2.2.2.2 then bif d then some !decide (b - (l.getD k recTy.zero).2.1 > c) else some true else some true else some false) = some (staysR a b c d (l.getD k recTy.zero) (l.drop (k + 1))) := by
        rw [hg]
        unfold staysR dOld
        simp only [h1, decide_false, Bool.false_or]
        cases metIn a (l.drop (k + 1)) (l.getD k recTy.zero).2.2.1 <;> cases (l.getD k recTy.zero).2.2.2.2 <;> cases d <;> rfl
      rw [hb]
      simp only [Option.bind_some]
      simp only [h1, decide_false, cond_false] at ih
      cases hs : staysR a b c d (l.getD k recTy.zero) (l.drop (k + 1))
      · rw [hs] at ih
        simp only [cond_false] at ih ⊢
        rw [cond_pos (by omega)]
        exact ih
      · rw [hs] at ih
        simp only [cond_true, List.reverse_cons] at ih ⊢
        rw [cond_pos (by simp; omega), cond_pos (by omega)]
        exact ih
def keepPat : SPat := ⟨[(0, .vl recTy), (1, .int .i64), (2, .int .i64), (3, .int .i64), (4, .bool), (11, .lit (.hw 0)), (12, .lit (.mp 1)), (13, .int .i64)], [.arr 5 recTy [], .map .str .bool]⟩
def keepLC : LoopC := LoopC.of keepPat (fun x => decide (List.length x.1.1 ≤ 1048576) && decide (x.1.2.2.2.2.2.2.2.1 = ((List.length x.1.1 : Nat) : Int) - 1) && List.isEmpty x.2.1.1 && List.isEmpty x.2.2.1)
  fun x => [(true, .exit 0, keepSt x.1.1 (keepL x.1.2.1 x.1.2.2.1 x.1.2.2.2.1 x.1.2.2.2.2.1 x.1.1).reverse (metL x.1.2.1 x.1.1) x.1.2.1 x.1.2.2.1 x.1.2.2.2.1 (-1) x.1.2.2.2.2.1)]
theorem keep_lok : LoopOK P0 H.f0 0 L.f0_4 keepLC := loop_ok_of (env_ok consK_ok) glob0 mixed0 noLoops V.f0_4 (by decide) fun ⟨⟨l, a, b, c, d, _, _, i, _⟩, ⟨out, _⟩, m, _⟩ h hw => by
  simp only [Bool.and_eq_true, decide_eq_true_eq, List.isEmpty_iff] at h
  obtain ⟨⟨⟨h1, h2⟩, h3⟩, h4⟩ := h
  subst h2; subst h3; subst h4
  have := keep_loop l a b c d h1 (fun e s => some (e, s)) (List.length l) (Nat.le_refl _)
  rw [List.drop_length] at this
  exact ⟨_, this⟩
theorem keep_ev (l : List Rec) (a b c : Int) (d : Bool) : evFn (env consK) H.f0 (LPof [(4, keepLC)]) F.f0 [.vl recTy l, .int .i64 a, .int .i64 b, .int .i64 c, .bool d] [] (finK 0) = bif decide (l.length ≤ 1048576) && decide (IntKind.i64.wrap ((↑l.length : Int) - (1 : Int)) = (↑l.length : Int) - (1 : (Pat.int IntKind.i64).den)) && true && true && true then bif decide ((keepL a b c d l).reverse.length ≤ 9223372036854775807) then some (.vl recTy (keepL a b c d l).reverse.reverse, []) else none else none := by kernel_rfl
def caseKeep : PCase := ⟨[.ty (.sl recTy), .ty (.int .i64), .ty (.int .i64), .ty (.int .i64), .ty .bool], [.sl recTy], fun x => [(decide (List.length x.1 ≤ 1048576), (keepL x.2.1 x.2.2.1 x.2.2.2.1 x.2.2.2.2.1 x.1, ()))]⟩
theorem keep_val (l : List Rec) (a b c : Int) (d : Bool) (h : l.length ≤ 1048576) : evFn (env consK) H.f0 (LPof [(4, keepLC)]) F.f0 [.vl recTy l, .int .i64 a, .int .i64 b, .int .i64 c, .bool d] [] (finK 0) = some (.vl recTy (keepL a b c d l), []) := by
  have := keepL_length a b c d l
  rw [keep_ev, wrap64 (by omega) (by omega)]
  have h2 : (keepL a b c d l).reverse.length ≤ 9223372036854775807 := by simp; omega
  rw [cond_pos h2]
  simp [h]
theorem keep_ok : caseKeep.ok P0 I.f0 := case_ok (H := H.f0) (E := env consK) (env_ok consK_ok) glob0 mixed0 G.f0 Bd.f0 (by kernel_rfl) (loops_good (tab := [(4, keepLC)]) (by kernel_rfl) (fun x hx => by simp at hx; subst hx; exact keep_lok)) fun ⟨l, a, b, c, d, ()⟩ y h hw => by
  obtain ⟨hc, rfl⟩ := pick_pre h
  exact ⟨[], keep_val l a b c d (of_decide_eq_true hc)⟩
end Go.Sim
namespace Go.Sim
set_option linter.unusedSimpArgs false
set_option linter.unusedVariables false
set_option maxRecDepth 10000
abbrev ractT : Ty := .pair (.int .i64) (.pair (.int .i64) (.pair (.int .i64) (.pair (.int .i64) (.pair (.sl recT) (.pair (.pair (.int .i64) (.pair (.int .i64) (.pair (.int .i64) (.int .i64)))) .bool)))))
noncomputable abbrev consV1 : List (FuncId × Con) := [(I.f8, .pure (pureOf [caseBig8]))]
theorem consV1_ok : ∀ x ∈ consV1, HoldsC P0 x.1 x.2 := by
  intro x hx
  simp at hx
  subst hx
  exact ⟨pureOf_holds (by simp; exact big8_ok), C.f8⟩
theorem bga_rd {R : Type} (l : List ractT.den) (q : Bool) (n i : Int) (K : Ex → St → Option R) : roundK (env consV1) H.f2 0 (LPof []) V.f2_3 L.f2_3 ⟨[(0, .vl ractT l), (2, .bool q), (3, .int .i64 n), (4, .int .i64 i)], [], 0⟩ K = bif decide (i < (↑l.length : Int)) then bif decide ((0 : Int) ≤ i) && decide (i < (↑l.length : Int)) then Option.bind (bif big8B (l.getD i.toNat ractT.zero).2.2.2.2.1 then some true else bif decide ((0 : Int) ≤ i) && decide (i < (↑l.length : Int)) then some (decide ((↑(List.length (l.getD i.toNat ractT.zero).2.2.2.2.1) : Int) > (12 : Int))) else none) fun v => bif v then K .ret { slots := [(0, .vl ractT l), (2, .bool true), (3, .int .i64 n), (4, .int .i64 i)], objs := [], nx := 0 } else bif decide ((0 : Int) ≤ i) && decide (i < (↑l.length : Int)) then K .normal { slots := [(0, .vl ractT l), (2, .bool q), (3, .int .i64 (IntKind.i64.wrap (n + (↑(List.length (l.getD i.toNat ractT.zero).2.2.2.2.1) : Int)))), (4, .int .i64 (IntKind.i64.wrap (i + (1 : Int))))], objs := [], nx := 0 } else none else none else K (.exit 0) { slots := [(0, .vl ractT l), (2, .bool q), (3, .int .i64 n), (4, .int .i64 i)], objs := [], nx := 0 } := by kernel_rfl
def bigA (l : List ractT.den) (i : Nat) : Bool := big8B (l.getD i ractT.zero).2.2.2.2.1 || decide (((l.getD i ractT.zero).2.2.2.2.1.length : Int) > 12)
def totA (l : List ractT.den) : Nat → Int
  | 0 => 0
  | i + 1 => IntKind.i64.wrap (totA l i + ((l.getD i ractT.zero).2.2.2.2.1.length : Int))
def bgaSt (l : List ractT.den) (q : Bool) (i : Nat) : St := ⟨[(0, .vl ractT l), (2, .bool q), (3, .int .i64 (totA l i)), (4, .int .i64 i)], [], 0⟩
abbrev bgaLC : LoopC := LoopC.of ⟨[(0, .vl ractT), (2, .bool), (3, .int .i64), (4, .int .i64)], []⟩ (fun ⟨⟨l, q, n, i, _⟩, _⟩ => decide (n = (0 : Int)) && decide (i = (0 : Int)))
  fun ⟨⟨l, q, n, i, _⟩, _⟩ => [((firstFrom (bigA l) 0 (List.length l)).isSome, .ret, bgaSt l true ((firstFrom (bigA l) 0 (List.length l)).getD 0)), (true, .exit 0, bgaSt l q (List.length l))]
theorem bga_lok : LoopOK P0 H.f2 0 L.f2_3 bgaLC :=
  loop_ok_of (env_ok consV1_ok) glob0 mixed0 noLoops V.f2_3 (by decide) fun ⟨⟨l, q, n, i, _⟩, _⟩ h hw => by
    simp only [Bool.and_eq_true, decide_eq_true_eq] at h
    obtain ⟨rfl, rfl⟩ := h
    have hm : List.length l ≤ maxL := hw.1.1.1
    unfold maxL at hm
    refine ⟨_, Eq.trans (search_rounds (S := bgaSt l q) (T := bgaSt l true) (p := bigA l) (n := List.length l) (e1 := .ret) (e2 := .exit 0) (s2 := bgaSt l q (List.length l)) (by simp) (by simp) (fun i hi K => ?_) (fun K => ?_) _ (List.length l) 0 (by omega)) search_pick⟩
    · refine (bga_rd _ _ _ _ _).trans ?_
      have e1 : IntKind.i64.wrap ((i : Int) + 1) = ((i + 1 : Nat) : Int) := by rw [wrap64 (by omega) (by omega)]; omega
      have e5 : ∀ (a b : Bool), (bif a then some true else some b) = some (a || b) := fun a b => by cases a <;> rfl
      rw [cond_pos (by omega), cond_pos2 (by omega) (by omega), cond_pos2 (by omega) (by omega), Int.toNat_natCast, e5, Option.bind_some, e1, cond_pos2 (by omega) (by omega)]
      rfl
    · refine (bga_rd _ _ _ _ _).trans ?_
      rw [cond_neg (by omega)]
      rfl
theorem bga_ev (l : List ractT.den) : evFn (env consV1) H.f2 (LPof [(3, bgaLC)]) F.f2 [.vl ractT l] [] (finT [.bool]) = bif (firstFrom (bigA l) 0 l.length).isSome then some (true, ()) else Option.bind (bif decide ((↑l.length : Int) > (40 : Int)) then some true else some (decide (totA l l.length > (80 : Int)))) fun v => some (v, ()) := by kernel_rfl
def bigAct (l : List ractT.den) : Bool := (firstFrom (bigA l) 0 (List.length l)).isSome || (decide ((l.length : Int) > 40) || decide (totA l l.length > 80))
def caseBigA : PCase := ⟨[.ty (.sl ractT)], [.bool], fun x => [(true, (bigAct x.1, ()))]⟩
theorem biga_ok : caseBigA.ok P0 I.f2 := case_ok2 (H := H.f2) (E := env consV1) (env_ok consV1_ok) glob0 mixed0 G.f2 Bd.f2 (by kernel_rfl) (loops_good (tab := [(3, bgaLC)]) (by kernel_rfl) (fun x hx => by simp at hx; subst hx; exact bga_lok)) fun ⟨l, ()⟩ y h hw => by
  obtain ⟨hc, rfl⟩ := pick_pre h
  refine (bga_ev l).trans ?_
  unfold bigAct
  cases (firstFrom (bigA l) 0 (List.length l)).isSome <;> cases decide ((l.length : Int) > 40) <;> cases decide (totA l l.length > 80) <;> rfl
end Go.Sim
namespace Go.Sim
set_option linter.unusedSimpArgs false
set_option linter.unusedVariables false
set_option maxRecDepth 10000
noncomputable abbrev consU1 : List (FuncId × Con) := [(I.f0, .pure (pureOf [caseKeep])), (I.f72, .pure (pureOf [caseRclone]))] ++ consS1
theorem consU1_ok : ∀ x ∈ consU1, HoldsC P0 x.1 x.2 := by
  intro x hx
  rcases List.mem_append.1 hx with hx | hx
  · simp at hx
    rcases hx with rfl | rfl
    · exact ⟨pureOf_holds (by simp; exact keep_ok), C.f0⟩
    · exact ⟨pureOf_holds (by simp; exact rclone_ok), C.f72⟩
  · exact consS1_ok x hx
def H.clean2 : Hint := { H.f49 with vs := [33, 42] }
theorem cl4_rd {R : Type} (pt nw gr m i : Int) (d : Bool) (ac : List Rec) (f : List Seg) (b n z : Int) (rs : List Rec) (K : Ex → St → Option R) : roundK (env consU1) H.clean2 3 (LPof []) V.f49_4 L.f49_4 ⟨[(0, .ptr 0 (.tl 0) 0), (1, .int .i64 pt), (2, .int .i64 nw), (3, .int .i64 gr), (8, .hw 3), (9, .bool d), (25, .hw 1), (26, .int .i64 m), (27, .int .i64 i)], [(0, .arr 1 .bool [] [[.hw 1]]), (1, .arr 10 segT f [actC b n z]), (2, .log recT rs), (3, .arr 5 recT ac [])], 4⟩ K = bif decide (i < m) then bif decide ((0 : Int) ≤ i) && decide (i < (↑(f.length + 1) : Int)) then bif decide (i.toNat < f.length) then bif decide ((ac ++ (f.getD i.toNat segTy.zero).2.2.2.2.1).length * 56 ≤ 140737488355328) then Option.bind (bif d then some !(f.getD i.toNat segTy.zero).2.2.2.2.2.2.2.1 else some false) fun v => K .normal { slots := [(0, .ptr 0 (.tl 0) 0), (1, .int .i64 pt), (2, .int .i64 nw), (3, .int .i64 gr), (8, .hw 3), (9, .bool v), (25, .hw 1), (26, .int .i64 m), (27, .int .i64 (IntKind.i64.wrap (i + (1 : Int))))], objs := [(0, .arr 1 .bool [] [[.hw 1]]), (1, .arr 10 segTy f [[.int .i64 b, .int .i64 n, .int .i64 (0 : Int), .int .i64 (0 : Int), .hw 2, .bool false, .bool false, .bool false, .int .i64 z, .int .u32 (0 : Int)]]), (2, .log recTy rs), (3, .arr 5 recTy (ac ++ (f.getD i.toNat segTy.zero).2.2.2.2.1) [])], nx := 4 } else none else bif decide (i.toNat - f.length = 0) then bif decide ((ac ++ rs).length * 56 ≤ 140737488355328) then Option.bind (bif d then some true else some false) fun v => K .normal { slots := [(0, .ptr 0 (.tl 0) 0), (1, .int .i64 pt), (2, .int .i64 nw), (3, .int .i64 gr), (8, .hw 3), (9, .bool v), (25, .hw 1), (26, .int .i64 m), (27, .int .i64 (IntKind.i64.wrap (i + (1 : Int))))], objs := [(0, .arr 1 .bool [] [[.hw 1]]), (1, .arr 10 segTy f [[.int .i64 b, .int .i64 n, .int .i64 (0 : Int), .int .i64 (0 : Int), .hw 2, .bool false, .bool false, .bool false, .int .i64 z, .int .u32 (0 : Int)]]), (2, .log recTy rs), (3, .arr 5 recTy (ac ++ rs) [])], nx := 4 } else none else none else none else K (.exit 0) { slots := [(0, .ptr 0 (.tl 0) 0), (1, .int .i64 pt), (2, .int .i64 nw), (3, .int .i64 gr), (8, .hw 3), (9, .bool d), (25, .hw 1), (26, .int .i64 m), (27, .int .i64 i)], objs := [(0, .arr 1 .bool [] [[.hw 1]]), (1, .arr 10 segTy f [[.int .i64 b, .int .i64 n, .int .i64 (0 : Int), .int .i64 (0 : Int), .hw 2, .bool false, .bool false, .bool false, .int .i64 z, .int .u32 (0 : Int)]]), (2, .log recTy rs), (3, .arr 5 recTy ac [])], nx := 4 } := by kernel_rfl
theorem cl16_rd {R : Type} (pt m i k : Int) (p : Nat) (kp : List Rec) (f : List Seg) (b n z : Int) (rs : List Rec) (K : Ex → St → Option R) : roundK (env consU1) H.clean2 3 (LPof []) V.f49_16 L.f49_16 ⟨[(0, .ptr 0 (.tl 0) 0), (1, .int .i64 pt), (8, .vl recT kp), (13, .ptr 1 (.ty p) 0), (14, .int .i64 k), (52, .int .i64 m), (53, .int .i64 i)], [(0, .arr 1 .bool [] [[.hw 1]]), (1, .arr 10 segT f [actC b n z]), (2, .log recT rs)], 3⟩ K = Option.bind (bif decide (k < (↑kp.length : Int)) then bif decide ((0 : Int) ≤ k) && decide (k < (↑kp.length : Int)) then some (decide ((kp.getD k.toNat recTy.zero).1 < (f.getD p segTy.zero).2.1)) else none else some false) fun v => bif v then K .normal { slots := [(0, .ptr 0 (.tl 0) 0), (1, .int .i64 pt), (8, .vl recTy kp), (13, .ptr 1 (.ty p) 0), (14, .int .i64 (IntKind.i64.wrap (k + (1 : Int)))), (52, .int .i64 m), (53, .int .i64 i)], objs := [(0, .arr 1 .bool [] [[.hw 1]]), (1, .arr 10 segTy f [[.int .i64 b, .int .i64 n, .int .i64 (0 : Int), .int .i64 (0 : Int), .hw 2, .bool false, .bool false, .bool false, .int .i64 z, .int .u32 (0 : Int)]]), (2, .log recTy rs)], nx := 3 } else K (.exit 4) { slots := [(0, .ptr 0 (.tl 0) 0), (1, .int .i64 pt), (8, .vl recTy kp), (13, .ptr 1 (.ty p) 0), (14, .int .i64 k), (52, .int .i64 m), (53, .int .i64 i)], objs := [(0, .arr 1 .bool [] [[.hw 1]]), (1, .arr 10 segTy f [[.int .i64 b, .int .i64 n, .int .i64 (0 : Int), .int .i64 (0 : Int), .hw 2, .bool false, .bool false, .bool false, .int .i64 z, .int .u32 (0 : Int)]]), (2, .log recTy rs)], nx := 3 } := by kernel_rfl
def cl4St (pt nw gr : Int) (M : LogS) (i : Nat) : St := ⟨[(0, .ptr 0 (.tl 0) 0), (1, .int .i64 pt), (2, .int .i64 nw), (3, .int .i64 gr), (8, .hw 3), (9, .bool (locG ((segsL M).take i))), (25, .hw 1), (26, .int .i64 (M.1.length + 1 : Nat)), (27, .int .i64 i)], logO M ++ [(3, .arr 5 recT (catG ((segsL M).take i)) [])], 4⟩
theorem cl4_rounds {R : Type} (pt nw gr : Int) (M : LogS) (h1 : M.1.length ≤ 1000000000) (h2 : (catG (segsL M)).length ≤ 1048576) (K : Ex → St → Option R) : ∀ (m i : Nat), i + m = M.1.length + 1 →
    rounds (env consU1) H.clean2 3 (LPof []) V.f49_4 L.f49_4 (m + 1) (cl4St pt nw gr M i) K = K (.exit 0) (cl4St pt nw gr M (M.1.length + 1))
  | 0, i, h => by
    obtain rfl : i = M.1.length + 1 := by omega
    rw [rounds_succ']
    refine (cl4_rd _ _ _ _ _ _ _ _ _ _ _ _ _).trans ?_
    rw [cond_neg (by omega)]
    rfl
  | m + 1, i, h => by
    have ih := cl4_rounds pt nw gr M h1 h2 K m (i + 1) (by omega)
    have e1 : IntKind.i64.wrap ((i : Int) + 1) = ((i + 1 : Nat) : Int) := by rw [wrap64 (by omega) (by omega)]; omega
    have e2 := stake_snoc (l := segsL M) (i := i) (by rw [segsL_len]; omega)
    have e3 : catG ((segsL M).take (i + 1)) = catG ((segsL M).take i) ++ ((segsL M).getD i segTy.zero).2.2.2.2.1 := by rw [e2, catG_snoc]
    have e4 : locG ((segsL M).take (i + 1)) = (locG ((segsL M).take i) && !((segsL M).getD i segTy.zero).2.2.2.2.2.2.2.1) := by rw [e2, locG_snoc]
    have hb := catG_le (segsL M) (i + 1)
    have e5 : ∀ (a c : Bool), (bif a then some c else some false) = some (a && c) := fun a c => by cases a <;> rfl
    rw [rounds_succ']
    refine (cl4_rd _ _ _ _ _ _ _ _ _ _ _ _ _).trans ?_
    unfold cl4St at ih
    rw [e3, e4] at ih
    rw [e3] at hb
    rw [cond_pos (by omega), cond_pos2 (by omega) (by omega), Int.toNat_natCast, e1]
    by_cases hi : i < M.1.length
    · rw [segsL_lt hi] at ih hb
      rw [cond_pos hi, cond_pos (by omega), e5, Option.bind_some]
      exact ih
    · obtain rfl : i = M.1.length := by omega
      rw [segsL_last] at ih hb
      have hb : (catG ((segsL M).take M.1.length) ++ M.2.2.2.2).length ≤ (catG (segsL M)).length := hb
      rw [cond_neg hi, cond_pos (by omega), cond_pos (by omega), e5, Option.bind_some]
      exact ih
abbrev cl4LC : LoopC := LoopC.of ⟨[(0, .lit (.ptr 0 (.tl 0) 0)), (1, .int .i64), (2, .int .i64), (3, .int .i64), (8, .lit (.hw 3)), (9, .bool), (25, .lit (.hw 1)), (26, .int .i64), (27, .int .i64)], [.box 1 [[.lit (.hw 1)]], .arr 10 segT [actP], .log recT, .arr 5 recT []]⟩
  (fun ⟨⟨_, pt, nw, gr, _, d, _, m, i, _⟩, ⟨_, ⟨f, ⟨b, n, _, _, _, _, _, _, z, _, _⟩, _⟩, rs, ⟨ac, _⟩, _⟩⟩ => decide (i = (0 : Int)) && d && List.isEmpty ac && decide (m = ((List.length f + 1 : Nat) : Int)) && decide (List.length f ≤ 1000000000) && decide (List.length (catG (segsL (f, b, n, z, rs))) ≤ 1048576))
  fun ⟨⟨_, pt, nw, gr, _, d, _, m, i, _⟩, ⟨_, ⟨f, ⟨b, n, _, _, _, _, _, _, z, _, _⟩, _⟩, rs, ⟨ac, _⟩, _⟩⟩ => [(true, .exit 0, cl4St pt nw gr (f, b, n, z, rs) (List.length f + 1))]
theorem cl4_lok : LoopOK P0 H.clean2 3 L.f49_4 cl4LC :=
  loop_ok_of (env_ok consU1_ok) glob0 mixed0 noLoops V.f49_4 (by decide) fun ⟨⟨_, pt, nw, gr, _, d, _, m, i, _⟩, ⟨_, ⟨f, ⟨b, n, _, _, _, _, _, _, z, _, _⟩, _⟩, rs, ⟨ac, _⟩, _⟩⟩ h hw => by
    simp only [Bool.and_eq_true, decide_eq_true_eq] at h
    obtain ⟨⟨⟨⟨⟨rfl, h2⟩, h3⟩, rfl⟩, h5⟩, h6⟩ := h
    obtain rfl : ac = [] := List.isEmpty_iff.1 h3
    have h2 : d = true := h2
    subst h2
    exact ⟨_, cl4_rounds pt nw gr (f, b, n, z, rs) h5 h6 _ (List.length f + 1) 0 (Nat.zero_add _)⟩
def cl16St (pt : Int) (p : Nat) (m i : Int) (kp : List Rec) (M : LogS) (k : Nat) : St := ⟨[(0, .ptr 0 (.tl 0) 0), (1, .int .i64 pt), (8, .vl recT kp), (13, .ptr 1 (.ty p) 0), (14, .int .i64 k), (52, .int .i64 m), (53, .int .i64 i)], logO M, 3⟩
theorem cl16_go (pt : Int) (p : Nat) (m i : Int) (kp : List Rec) (M : LogS) (hk : kp.length ≤ 1000000000) :
    ∃ c, rounds (env consU1) H.clean2 3 (LPof []) V.f49_16 L.f49_16 c (cl16St pt p m i kp M 0) (fun e s => some (e, s)) = some (.exit 4, cl16St pt p m i kp M (cutN (M.1.getD p segTy.zero).2.1 kp)) := by
  refine ⟨_, Eq.trans (search_rounds (S := cl16St pt p m i kp M) (T := cl16St pt p m i kp M) (p := notYet (M.1.getD p segTy.zero).2.1 kp) (n := kp.length) (e1 := .exit 4) (e2 := .exit 4) (s2 := cl16St pt p m i kp M kp.length) (by simp) (by simp) (fun k hk2 K => ?_) (fun K => ?_) _ kp.length 0 (by omega)) ?_⟩
  · refine (cl16_rd _ _ _ _ _ _ _ _ _ _ _ _).trans ?_
    have e1 : IntKind.i64.wrap ((k : Int) + 1) = ((k + 1 : Nat) : Int) := by rw [wrap64 (by omega) (by omega)]; omega
    rw [cond_pos (by omega), cond_pos2 (by omega) (by omega), Int.toNat_natCast, Option.bind_some, e1]
    unfold notYet
    cases decide ((kp.getD k recTy.zero).1 < (M.1.getD p segTy.zero).2.1) <;> rfl
  · refine (cl16_rd _ _ _ _ _ _ _ _ _ _ _ _).trans ?_
    rw [cond_neg (by omega), Option.bind_some]
    rfl
  · unfold cutN
    cases firstFrom (notYet (M.1.getD p segTy.zero).2.1 kp) 0 kp.length <;> rfl
abbrev cl16LC : LoopC := LoopC.of ⟨[(0, .lit (.ptr 0 (.tl 0) 0)), (1, .int .i64), (8, .vl recT), (13, .pe 1 0), (14, .int .i64), (52, .int .i64), (53, .int .i64)], logP⟩
  (fun ⟨⟨_, pt, kp, p, k, m, i, _⟩, ⟨_, ⟨f, ⟨b, n, _, _, _, _, _, _, z, _, _⟩, _⟩, rs, _⟩⟩ => decide (k = (0 : Int)) && decide (List.length kp ≤ 1000000000))
  fun ⟨⟨_, pt, kp, p, k, m, i, _⟩, ⟨_, ⟨f, ⟨b, n, _, _, _, _, _, _, z, _, _⟩, _⟩, rs, _⟩⟩ => [(true, .exit 4, cl16St pt p m i kp (f, b, n, z, rs) (cutN (f.getD p segTy.zero).2.1 kp))]
theorem cl16_lok : LoopOK P0 H.clean2 3 L.f49_16 cl16LC :=
  loop_ok_of (env_ok consU1_ok) glob0 mixed0 noLoops V.f49_16 (by decide) fun ⟨⟨_, pt, kp, p, k, m, i, _⟩, ⟨_, ⟨f, ⟨b, n, _, _, _, _, _, _, z, _, _⟩, _⟩, rs, _⟩⟩ h hw => by
    simp only [Bool.and_eq_true, decide_eq_true_eq] at h
    obtain ⟨rfl, h2⟩ := h
    exact cl16_go pt p m i kp (f, b, n, z, rs) h2
theorem cl11_rd {R : Type} (pt m i : Int) (kp : List Rec) (f : List Seg) (b n z : Int) (rs : List Rec) (K : Ex → St → Option R) : roundK (env consU1) H.clean2 3 (LPof [(16, cl16LC)]) V.f49_11 L.f49_11 ⟨[(0, .ptr 0 (.tl 0) 0), (1, .int .i64 pt), (8, .vl recT kp), (52, .int .i64 m), (53, .int .i64 i)], [(0, .arr 1 .bool [] [[.hw 1]]), (1, .arr 10 segT f [actC b n z]), (2, .log recT rs)], 3⟩ K = bif decide (i < m) then bif decide ((0 : Int) ≤ i) && decide (i < (↑(f.length + 1) : Int)) then bif decide (i.toNat < f.length) then Option.bind (bif !(f.getD i.toNat segTy.zero).2.2.2.2.2.1 then some true else some (f.getD i.toNat segTy.zero).2.2.2.2.2.2.2.1) fun v => bif v then K .normal { slots := [(0, .ptr 0 (.tl 0) 0), (1, .int .i64 pt), (8, .vl recTy kp), (52, .int .i64 m), (53, .int .i64 (IntKind.i64.wrap (i + (1 : Int))))], objs := [(0, .arr 1 .bool [] [[.hw 1]]), (1, .arr 10 segTy f [[.int .i64 b, .int .i64 n, .int .i64 (0 : Int), .int .i64 (0 : Int), .hw 2, .bool false, .bool false, .bool false, .int .i64 z, .int .u32 (0 : Int)]]), (2, .log recTy rs)], nx := 3 } else bif decide (kp.length ≤ 1000000000) && true then bif decide ((↑(cutN (f.getD i.toNat segTy.zero).2.1 kp) : Int) < (↑(List.length (f.getD i.toNat segTy.zero).2.2.2.2.1) : Int)) then Option.bind (bif f.length.ble f.length then some (f.set i.toNat ((f.getD i.toNat segTy.zero).1, (f.getD i.toNat segTy.zero).2.1, (f.getD i.toNat segTy.zero).2.2.1, IntKind.i64.wrap ((f.getD i.toNat segTy.zero).2.2.2.1 + (1 : Int)), (f.getD i.toNat segTy.zero).2.2.2.2)) else none) fun v => bif decide ((0 : Int) ≤ (↑(cutN (f.getD i.toNat segTy.zero).2.1 kp) : Int)) && decide ((↑(cutN (f.getD i.toNat segTy.zero).2.1 kp) : Int) ≤ (↑kp.length : Int)) then bif decide ((List.take (cutN (f.getD i.toNat segTy.zero).2.1 kp) kp).length ≤ 1000000000) then bif decide ((0 : Int) ≤ (↑(cutN (f.getD i.toNat segTy.zero).2.1 kp) : Int)) && decide ((↑(cutN (f.getD i.toNat segTy.zero).2.1 kp) : Int) ≤ (↑kp.length : Int)) then Option.bind (bif v.length.ble v.length then some (v.set i.toNat ((v.getD i.toNat segTy.zero).1, (v.getD i.toNat segTy.zero).2.1, (v.getD i.toNat segTy.zero).2.2.1, (v.getD i.toNat segTy.zero).2.2.2.1, List.take (cutN (f.getD i.toNat segTy.zero).2.1 kp) kp, (v.getD i.toNat segTy.zero).2.2.2.2.2)) else none) fun v => bif decide (List.length (v.getD i.toNat segTy.zero).2.2.2.2.1 ≤ 1000000000) then Option.bind (bif v.length.ble v.length then some (v.set i.toNat ((v.getD i.toNat segTy.zero).1, (v.getD i.toNat segTy.zero).2.1, (v.getD i.toNat segTy.zero).2.2.1, (v.getD i.toNat segTy.zero).2.2.2.1, (v.getD i.toNat segTy.zero).2.2.2.2.1, (v.getD i.toNat segTy.zero).2.2.2.2.2.1, (v.getD i.toNat segTy.zero).2.2.2.2.2.2.1, (v.getD i.toNat segTy.zero).2.2.2.2.2.2.2.1, (↑(bytS (v.getD i.toNat segTy.zero).2.2.2.2.1).length : Int), (v.getD i.toNat segTy.zero).2.2.2.2.2.2.2.2.2)) else none) fun v => bif (v.getD i.toNat segTy.zero).2.2.2.2.2.2.1 then Option.bind (bif v.length.ble v.length then some (v.set i.toNat ((v.getD i.toNat segTy.zero).1, (v.getD i.toNat segTy.zero).2.1, (v.getD i.toNat segTy.zero).2.2.1, (v.getD i.toNat segTy.zero).2.2.2.1, (v.getD i.toNat segTy.zero).2.2.2.2.1, (v.getD i.toNat segTy.zero).2.2.2.2.2.1, true, (v.getD i.toNat segTy.zero).2.2.2.2.2.2.2)) else none) fun v => K .normal { slots := [(0, .ptr 0 (.tl 0) 0), (1, .int .i64 pt), (8, .vl recTy (List.drop (cutN (f.getD i.toNat segTy.zero).2.1 kp) kp)), (52, .int .i64 m), (53, .int .i64 (IntKind.i64.wrap (i + (1 : Int))))], objs := [(0, .arr 1 .bool [] [[.hw 1]]), (1, .arr 10 segTy v [[.int .i64 b, .int .i64 n, .int .i64 (0 : Int), .int .i64 (0 : Int), .hw 2, .bool false, .bool false, .bool false, .int .i64 z, .int .u32 (0 : Int)]]), (2, .log recTy rs)], nx := 3 } else Option.bind (bif v.length.ble v.length then some (v.set i.toNat ((v.getD i.toNat segTy.zero).1, (v.getD i.toNat segTy.zero).2.1, (v.getD i.toNat segTy.zero).2.2.1, (v.getD i.toNat segTy.zero).2.2.2.1, (v.getD i.toNat segTy.zero).2.2.2.2.1, (v.getD i.toNat segTy.zero).2.2.2.2.2.1, decide ((v.getD i.toNat segTy.zero).2.1 ≤ pt), (v.getD i.toNat segTy.zero).2.2.2.2.2.2.2)) else none) fun v => K .normal { slots := [(0, .ptr 0 (.tl 0) 0), (1, .int .i64 pt), (8, .vl recTy (List.drop (cutN (f.getD i.toNat segTy.zero).2.1 kp) kp)), (52, .int .i64 m), (53, .int .i64 (IntKind.i64.wrap (i + (1 : Int))))], objs := [(0, .arr 1 .bool [] [[.hw 1]]), (1, .arr 10 segTy v [[.int .i64 b, .int .i64 n, .int .i64 (0 : Int), .int .i64 (0 : Int), .hw 2, .bool false, .bool false, .bool false, .int .i64 z, .int .u32 (0 : Int)]]), (2, .log recTy rs)], nx := 3 } else none else none else none else none else bif decide ((0 : Int) ≤ (↑(cutN (f.getD i.toNat segTy.zero).2.1 kp) : Int)) && decide ((↑(cutN (f.getD i.toNat segTy.zero).2.1 kp) : Int) ≤ (↑kp.length : Int)) then bif decide ((List.take (cutN (f.getD i.toNat segTy.zero).2.1 kp) kp).length ≤ 1000000000) then bif decide ((0 : Int) ≤ (↑(cutN (f.getD i.toNat segTy.zero).2.1 kp) : Int)) && decide ((↑(cutN (f.getD i.toNat segTy.zero).2.1 kp) : Int) ≤ (↑kp.length : Int)) then Option.bind (bif f.length.ble f.length then some (f.set i.toNat ((f.getD i.toNat segTy.zero).1, (f.getD i.toNat segTy.zero).2.1, (f.getD i.toNat segTy.zero).2.2.1, (f.getD i.toNat segTy.zero).2.2.2.1, List.take (cutN (f.getD i.toNat segTy.zero).2.1 kp) kp, (f.getD i.toNat segTy.zero).2.2.2.2.2)) else none) fun v => bif decide (List.length (v.getD i.toNat segTy.zero).2.2.2.2.1 ≤ 1000000000) then Option.bind (bif v.length.ble v.length then some (v.set i.toNat ((v.getD i.toNat segTy.zero).1, (v.getD i.toNat segTy.zero).2.1, (v.getD i.toNat segTy.zero).2.2.1, (v.getD i.toNat segTy.zero).2.2.2.1, (v.getD i.toNat segTy.zero).2.2.2.2.1, (v.getD i.toNat segTy.zero).2.2.2.2.2.1, (v.getD i.toNat segTy.zero).2.2.2.2.2.2.1, (v.getD i.toNat segTy.zero).2.2.2.2.2.2.2.1, (↑(bytS (v.getD i.toNat segTy.zero).2.2.2.2.1).length : Int), (v.getD i.toNat segTy.zero).2.2.2.2.2.2.2.2.2)) else none) fun v => bif (v.getD i.toNat segTy.zero).2.2.2.2.2.2.1 then Option.bind (bif v.length.ble v.length then some (v.set i.toNat ((v.getD i.toNat segTy.zero).1, (v.getD i.toNat segTy.zero).2.1, (v.getD i.toNat segTy.zero).2.2.1, (v.getD i.toNat segTy.zero).2.2.2.1, (v.getD i.toNat segTy.zero).2.2.2.2.1, (v.getD i.toNat segTy.zero).2.2.2.2.2.1, true, (v.getD i.toNat segTy.zero).2.2.2.2.2.2.2)) else none) fun v => K .normal { slots := [(0, .ptr 0 (.tl 0) 0), (1, .int .i64 pt), (8, .vl recTy (List.drop (cutN (f.getD i.toNat segTy.zero).2.1 kp) kp)), (52, .int .i64 m), (53, .int .i64 (IntKind.i64.wrap (i + (1 : Int))))], objs := [(0, .arr 1 .bool [] [[.hw 1]]), (1, .arr 10 segTy v [[.int .i64 b, .int .i64 n, .int .i64 (0 : Int), .int .i64 (0 : Int), .hw 2, .bool false, .bool false, .bool false, .int .i64 z, .int .u32 (0 : Int)]]), (2, .log recTy rs)], nx := 3 } else Option.bind (bif v.length.ble v.length then some (v.set i.toNat ((v.getD i.toNat segTy.zero).1, (v.getD i.toNat segTy.zero).2.1, (v.getD i.toNat segTy.zero).2.2.1, (v.getD i.toNat segTy.zero).2.2.2.1, (v.getD i.toNat segTy.zero).2.2.2.2.1, (v.getD i.toNat segTy.zero).2.2.2.2.2.1, decide ((v.getD i.toNat segTy.zero).2.1 ≤ pt), (v.getD i.toNat segTy.zero).2.2.2.2.2.2.2)) else none) fun v => K .normal { slots := [(0, .ptr 0 (.tl 0) 0), (1, .int .i64 pt), (8, .vl recTy (List.drop (cutN (f.getD i.toNat segTy.zero).2.1 kp) kp)), (52, .int .i64 m), (53, .int .i64 (IntKind.i64.wrap (i + (1 : Int))))], objs := [(0, .arr 1 .bool [] [[.hw 1]]), (1, .arr 10 segTy v [[.int .i64 b, .int .i64 n, .int .i64 (0 : Int), .int .i64 (0 : Int), .hw 2, .bool false, .bool false, .bool false, .int .i64 z, .int .u32 (0 : Int)]]), (2, .log recTy rs)], nx := 3 } else none else none else none else none else none else bif decide (i.toNat - f.length = 0) then K .normal { slots := [(0, .ptr 0 (.tl 0) 0), (1, .int .i64 pt), (8, .vl recTy kp), (52, .int .i64 m), (53, .int .i64 (IntKind.i64.wrap (i + (1 : Int))))], objs := [(0, .arr 1 .bool [] [[.hw 1]]), (1, .arr 10 segTy f [[.int .i64 b, .int .i64 n, .int .i64 (0 : Int), .int .i64 (0 : Int), .hw 2, .bool false, .bool false, .bool false, .int .i64 z, .int .u32 (0 : Int)]]), (2, .log recTy rs)], nx := 3 } else none else none else K (.exit 2) { slots := [(0, .ptr 0 (.tl 0) 0), (1, .int .i64 pt), (8, .vl recTy kp), (52, .int .i64 m), (53, .int .i64 i)], objs := [(0, .arr 1 .bool [] [[.hw 1]]), (1, .arr 10 segTy f [[.int .i64 b, .int .i64 n, .int .i64 (0 : Int), .int .i64 (0 : Int), .hw 2, .bool false, .bool false, .bool false, .int .i64 z, .int .u32 (0 : Int)]]), (2, .log recTy rs)], nx := 3 } := by kernel_rfl
theorem getD_setS {f : List Seg} {i : Nat} (h : i < f.length) (g : Seg) : (f.set i g).getD i segTy.zero = g := by
  rw [List.getD_eq_getElem?_getD, List.getElem?_set_self h]
  rfl
theorem set_selfS {f : List Seg} {i : Nat} (h : i < f.length) : f.set i (f.getD i segTy.zero) = f := by
  rw [List.getD_eq_getElem?_getD, List.getElem?_eq_getElem h]
  exact List.set_getElem_self h
def cl11St (pt : Int) (n : Nat) (M : LogS) (kp : List Rec) (i : Nat) : St := ⟨[(0, .ptr 0 (.tl 0) 0), (1, .int .i64 pt), (8, .vl recT kp), (52, .int .i64 (n + 1 : Nat)), (53, .int .i64 i)], logO M, 3⟩
theorem cl11_step {R : Type} (pt : Int) (M : LogS) (kp : List Rec) (hk : kp.length ≤ 1000000000) (hf : M.1.length ≤ 1000000000) (i : Nat) (hi : i < M.1.length) (K : Ex → St → Option R) :
    roundK (env consU1) H.clean2 3 (LPof [(16, cl16LC)]) V.f49_11 L.f49_11 (cl11St pt M.1.length M kp i) K = K .normal (cl11St pt M.1.length (M.1.set i (clOne pt (M.1.getD i segTy.zero) kp).1, M.2) (clOne pt (M.1.getD i segTy.zero) kp).2 (i + 1)) := by
  obtain ⟨f, b, n, z, rs⟩ := M
  simp only at hf hi ⊢
  refine (cl11_rd pt (f.length + 1 : Nat) i kp f b n z rs K).trans ?_
  have e1 : IntKind.i64.wrap ((i : Int) + 1) = ((i + 1 : Nat) : Int) := by rw [wrap64 (by omega) (by omega)]; omega
  have e2 : ∀ (a c : Bool), (bif !a then some true else some c) = some (!a || c) := fun a c => by cases a <;> rfl
  have hc := cutN_le (f.getD i segTy.zero).2.1 kp
  have c1 : (decide ((0 : Int) ≤ (cutN (f.getD i segTy.zero).2.1 kp : Int)) && decide ((cutN (f.getD i segTy.zero).2.1 kp : Int) ≤ (kp.length : Int))) = true := by rw [decide_eq_true (by omega), decide_eq_true (by omega)]; rfl
  have c2 : decide ((List.take (cutN (f.getD i segTy.zero).2.1 kp) kp).length ≤ 1000000000) = true := decide_eq_true (by rw [List.length_take]; omega)
  rw [cond_pos (by omega), cond_pos2 (by omega) (by omega), Int.toNat_natCast, cond_pos hi, e1, e2, Option.bind_some]
  unfold clOne
  cases hs : !(f.getD i segTy.zero).2.2.2.2.2.1 || (f.getD i segTy.zero).2.2.2.2.2.2.2.1 with
  | true =>
    simp only [cond_true]
    rw [set_selfS hi]
    rfl
  | false =>
    simp only [cond_false]
    rw [decide_eq_true hk, c1, c2]
    simp only [Bool.and_self, cond_true, ble_selfK, Option.bind_some, getD_setS hi, List.set_set, c2]
    unfold clG
    cases decide ((cutN (f.getD i segTy.zero).2.1 kp : Int) < ((f.getD i segTy.zero).2.2.2.2.1.length : Int)) <;> cases (f.getD i segTy.zero).2.2.2.2.2.2.1 <;> simp only [cond_true, cond_false, Bool.true_or, Bool.false_or] <;> rfl
theorem cl11_tail {R : Type} (pt : Int) (M : LogS) (kp : List Rec) (hf : M.1.length ≤ 1000000000) (K : Ex → St → Option R) :
    roundK (env consU1) H.clean2 3 (LPof [(16, cl16LC)]) V.f49_11 L.f49_11 (cl11St pt M.1.length M kp M.1.length) K = K .normal (cl11St pt M.1.length M kp (M.1.length + 1)) := by
  obtain ⟨f, b, n, z, rs⟩ := M
  simp only at hf ⊢
  refine (cl11_rd pt (f.length + 1 : Nat) f.length kp f b n z rs K).trans ?_
  have e1 : IntKind.i64.wrap ((f.length : Int) + 1) = ((f.length + 1 : Nat) : Int) := by rw [wrap64 (by omega) (by omega)]; omega
  rw [cond_pos (by omega), cond_pos2 (by omega) (by omega), Int.toNat_natCast, cond_neg (by omega), cond_pos (by omega), e1]
  rfl
theorem cl11_last {R : Type} (pt : Int) (M : LogS) (kp : List Rec) (K : Ex → St → Option R) :
    roundK (env consU1) H.clean2 3 (LPof [(16, cl16LC)]) V.f49_11 L.f49_11 (cl11St pt M.1.length M kp (M.1.length + 1)) K = K (.exit 2) (cl11St pt M.1.length M kp (M.1.length + 1)) := by
  obtain ⟨f, b, n, z, rs⟩ := M
  refine (cl11_rd pt (f.length + 1 : Nat) (f.length + 1 : Nat) kp f b n z rs K).trans ?_
  rw [cond_neg (by omega)]
  rfl
theorem clS_len (pt : Int) (f : List Seg) (kp : List Rec) : ∀ i, (clS pt f kp i).1.length = f.length ∧ (clS pt f kp i).2.length ≤ kp.length
  | 0 => ⟨rfl, Nat.le_refl _⟩
  | i + 1 => by
    obtain ⟨h1, h2⟩ := clS_len pt f kp i
    refine ⟨by simp only [clS, List.length_set, h1], ?_⟩
    simp only [clS]
    unfold clOne
    cases !((clS pt f kp i).1.getD i segTy.zero).2.2.2.2.2.1 || ((clS pt f kp i).1.getD i segTy.zero).2.2.2.2.2.2.2.1 with
    | true => exact h2
    | false => rw [cond_false]; simp only [List.length_drop]; omega
theorem cl11_rounds {R : Type} (pt : Int) (f : List Seg) (y : Int × Int × Int × List Rec) (kp : List Rec) (hk : kp.length ≤ 1000000000) (hf : f.length ≤ 1000000000) (K : Ex → St → Option R) : ∀ (m i : Nat), i + m = f.length →
    rounds (env consU1) H.clean2 3 (LPof [(16, cl16LC)]) V.f49_11 L.f49_11 (m + 2) (cl11St pt f.length ((clS pt f kp i).1, y) (clS pt f kp i).2 i) K = K (.exit 2) (cl11St pt f.length ((clS pt f kp f.length).1, y) (clS pt f kp f.length).2 (f.length + 1))
  | 0, i, h => by
    obtain rfl : i = f.length := by omega
    obtain ⟨h1, h2⟩ := clS_len pt f kp f.length
    rw [rounds_succ']
    have s1 := cl11_tail (R := R) pt ((clS pt f kp f.length).1, y) (clS pt f kp f.length).2 (by simp only; omega)
    simp only [h1] at s1
    refine (s1 _).trans ?_
    show rounds _ _ _ _ _ _ 1 _ K = _
    rw [rounds_succ']
    have s2 := cl11_last (R := R) pt ((clS pt f kp f.length).1, y) (clS pt f kp f.length).2
    simp only [h1] at s2
    exact (s2 _).trans rfl
  | m + 1, i, h => by
    obtain ⟨h1, h2⟩ := clS_len pt f kp i
    have ih := cl11_rounds pt f y kp hk hf K m (i + 1) (by omega)
    rw [rounds_succ']
    have s1 := cl11_step (R := R) pt ((clS pt f kp i).1, y) (clS pt f kp i).2 (by omega) (by simp only; omega) i (by simp only; omega)
    simp only [h1] at s1
    refine (s1 _).trans ?_
    exact ih
abbrev cl11LC : LoopC := LoopC.of ⟨[(0, .lit (.ptr 0 (.tl 0) 0)), (1, .int .i64), (8, .vl recT), (52, .int .i64), (53, .int .i64)], logP⟩
  (fun ⟨⟨_, pt, kp, m, i, _⟩, ⟨_, ⟨f, ⟨b, n, _, _, _, _, _, _, z, _, _⟩, _⟩, rs, _⟩⟩ => decide (i = (0 : Int)) && decide (m = ((List.length f + 1 : Nat) : Int)) && decide (List.length kp ≤ 1000000000) && decide (List.length f ≤ 1000000000))
  fun ⟨⟨_, pt, kp, m, i, _⟩, ⟨_, ⟨f, ⟨b, n, _, _, _, _, _, _, z, _, _⟩, _⟩, rs, _⟩⟩ => [(true, .exit 2, cl11St pt (List.length f) ((clS pt f kp (List.length f)).1, b, n, z, rs) (clS pt f kp (List.length f)).2 (List.length f + 1))]
theorem cl11_lok : LoopOK P0 H.clean2 3 L.f49_11 cl11LC :=
  loop_ok_of (env_ok consU1_ok) glob0 mixed0 (loops_good (tab := [(16, cl16LC)]) (by kernel_rfl) (fun x hx => by simp at hx; subst hx; exact cl16_lok)) V.f49_11 (by decide) fun ⟨⟨_, pt, kp, m, i, _⟩, ⟨_, ⟨f, ⟨b, n, _, _, _, _, _, _, z, _, _⟩, _⟩, rs, _⟩⟩ h hw => by
    simp only [Bool.and_eq_true, decide_eq_true_eq] at h
    obtain ⟨⟨⟨rfl, rfl⟩, h3⟩, h4⟩ := h
    exact ⟨_, cl11_rounds pt f (b, n, z, rs) kp h3 h4 _ (List.length f) 0 (Nat.zero_add _)⟩
end Go.Sim
namespace Go.Sim
set_option linter.unusedSimpArgs false
set_option linter.unusedVariables false
set_option maxRecDepth 10000
def clA (pm pt nw gr : Int) (f : List Seg) (b n z : Int) (rs : List Rec) : St := ⟨[(1, .int .i64 pm), (21, .int .i64 pm), (20, .int .i64 b), (19, .ptr 1 (.tl 0) 0), (18, .ptr 1 (.tl 0) 0), (17, .ptr 1 (.tl 0) 0), (16, .ptr 0 (.tl 0) 0), (15, .int .i64 pt), (0, .ptr 0 (.tl 0) 0), (1, .int .i64 pt), (2, .int .i64 nw), (3, .int .i64 gr)],
  [(0, .arr 1 .bool [] [[.hw 1]]), (1, .arr 10 segT f [actC b n z]), (2, .log recT rs), (0, .arr 1 .bool [] [[.hw 1]]), (1, .arr 10 segT f [actC b n z]), (2, .log recT rs)], 3⟩
theorem clean1_ev {R : Type} (pt nw gr : Int) (f : List Seg) (b n z : Int) (rs : List Rec) (K : Ex → St → Option R) : ev (env consU1) H.clean2 3 (LPof [(4, cl4LC), (11, cl11LC), (16, cl16LC)]) (preC 1 B.f49) (initSt [.ptr 0 (.tl 0) 0, .int .i64 pt, .int .i64 nw, .int .i64 gr] [.arr 1 .bool [] [[.hw 1]], .arr 10 segT f [actC b n z], .log recT rs]) K = bif decide (f.length ≤ 1000000000) then K .normal { slots := [(1, .int .i64 (bif decide (b < pt) then b else pt)), (21, .int .i64 (bif decide (b < pt) then b else pt)), (20, .int .i64 b), (19, .ptr 1 (.tl 0) 0), (18, .ptr 1 (.tl 0) 0), (17, .ptr 1 (.tl 0) 0), (16, .ptr 0 (.tl 0) 0), (15, .int .i64 pt), (0, .ptr 0 (.tl 0) 0), (1, .int .i64 pt), (2, .int .i64 nw), (3, .int .i64 gr)], objs := [(0, .arr 1 .bool [] [[.hw 1]]), (1, .arr 10 segTy f [[.int .i64 b, .int .i64 n, .int .i64 (0 : Int), .int .i64 (0 : Int), .hw 2, .bool false, .bool false, .bool false, .int .i64 z, .int .u32 (0 : Int)]]), (2, .log recTy rs), (0, .arr 1 .bool [] [[.hw 1]]), (1, .arr 10 segTy f [[.int .i64 b, .int .i64 n, .int .i64 (0 : Int), .int .i64 (0 : Int), .hw 2, .bool false, .bool false, .bool false, .int .i64 z, .int .u32 (0 : Int)]]), (2, .log recTy rs)], nx := 3 } else none := by kernel_rfl
noncomputable abbrev clFin : Ex → St → Option ((Pat.lit (.tup [])).den × opatsDen logP) := fun e s => match e with
  | .exit _ => none
  | _ => (resultsOf (env consU1) s F.f49.results.toList).bind fun vs => finV (.lit (.tup [])) logP 3 (oneOr vs) s
theorem clean2_ev (pm pt nw gr : Int) (f : List Seg) (b n z : Int) (rs : List Rec) : ev (env consU1) H.clean2 3 (LPof [(4, cl4LC), (11, cl11LC), (16, cl16LC)]) (sufC 1 B.f49) (clA pm pt nw gr f b n z rs) clFin = bif decide ((↑(f.length + 1) : Int) = (↑(f.length + 1) : Int)) && decide (f.length ≤ 1000000000) && decide ((catG (segsL (f, b, n, z, rs))).length ≤ 1048576) && true then bif decide ((catG (List.take (f.length + 1) (segsL (f, b, n, z, rs)))).length ≤ 1048576) then bif decide ((↑(f.length + 1) : Int) = (↑(f.length + 1) : Int)) && decide ((keepL pm nw gr (locG (List.take (f.length + 1) (segsL (f, b, n, z, rs)))) (catG (List.take (f.length + 1) (segsL (f, b, n, z, rs))))).length ≤ 1000000000) && decide (f.length ≤ 1000000000) && true then some ((), (((), ()), ()), ((clS pm f (keepL pm nw gr (locG (List.take (f.length + 1) (segsL (f, b, n, z, rs)))) (catG (List.take (f.length + 1) (segsL (f, b, n, z, rs))))) f.length).1, (b, n, (), (), (), (), (), (), z, (), ()), ()), rs, ()) else none else none else none := by kernel_rfl
theorem clean_val (pt nw gr : Int) (f : List Seg) (b n z : Int) (rs : List Rec) (h1 : f.length ≤ 1000000000) (h2 : (catG (segsL (f, b, n, z, rs))).length ≤ 1048576) : evFn (env consU1) H.clean2 (LPof [(4, cl4LC), (11, cl11LC), (16, cl16LC)]) F.f49 [.ptr 0 (.tl 0) 0, .int .i64 pt, .int .i64 nw, .int .i64 gr] [.arr 1 .bool [] [[.hw 1]], .arr 10 segT f [actC b n z], .log recT rs] (finV (.lit (.tup [])) logP 3) =
    some ((), ((((), ()), ()), ((cleanP pt nw gr (f, b, n, z, rs)).1, ((cleanP pt nw gr (f, b, n, z, rs)).2.1, (cleanP pt nw gr (f, b, n, z, rs)).2.2.1, (), (), (), (), (), (), (cleanP pt nw gr (f, b, n, z, rs)).2.2.2.1, (), ()), ()), (cleanP pt nw gr (f, b, n, z, rs)).2.2.2.2, ())) := by
  have h0 : evFn (env consU1) H.clean2 (LPof [(4, cl4LC), (11, cl11LC), (16, cl16LC)]) F.f49 [.ptr 0 (.tl 0) 0, .int .i64 pt, .int .i64 nw, .int .i64 gr] [.arr 1 .bool [] [[.hw 1]], .arr 10 segT f [actC b n z], .log recT rs] (finV (.lit (.tup [])) logP 3) =
    ev (env consU1) H.clean2 3 (LPof [(4, cl4LC), (11, cl11LC), (16, cl16LC)]) B.f49 (initSt [.ptr 0 (.tl 0) 0, .int .i64 pt, .int .i64 nw, .int .i64 gr] [.arr 1 .bool [] [[.hw 1]], .arr 10 segT f [actC b n z], .log recT rs]) clFin := by
    unfold evFn
    rw [Bd.f49]
    rfl
  rw [h0, ev_cut (by rfl) 1, clean1_ev, cond_pos h1]
  refine Eq.trans (b := ev (env consU1) H.clean2 3 (LPof [(4, cl4LC), (11, cl11LC), (16, cl16LC)]) (sufC 1 B.f49) (clA (minZ pt b) pt nw gr f b n z rs) clFin) ?_ ?_
  · rfl
  rw [clean2_ev]
  have e1 : List.take (f.length + 1) (segsL (f, b, n, z, rs)) = segsL (f, b, n, z, rs) := List.take_of_length_le (by rw [segsL_len]; exact Nat.le_refl _)
  have hk := keepL_length (minZ pt b) nw gr (locG (segsL (f, b, n, z, rs))) (catG (segsL (f, b, n, z, rs)))
  rw [e1, decide_eq_true h1, decide_eq_true h2, decide_eq_true (show (keepL (minZ pt b) nw gr (locG (segsL (f, b, n, z, rs))) (catG (segsL (f, b, n, z, rs)))).length ≤ 1000000000 by omega)]
  simp only [decide_true, Bool.and_self, cond_true]
  rfl
def caseClean : VCase := ⟨[.lit (.ptr 0 (.tl 0) 0), .int .i64, .int .i64, .int .i64], logP, .lit (.tup []), logP, fun ⟨_, pt, nw, gr, _⟩ ⟨_, ⟨f, ⟨b, n, _, _, _, _, _, _, z, _, _⟩, _⟩, rs, _⟩ => [(decide (List.length f ≤ 1000000000) && decide (List.length (catG (segsL (f, b, n, z, rs))) ≤ 1048576), ((), ((((), ()), ()), ((cleanP pt nw gr (f, b, n, z, rs)).1, ((cleanP pt nw gr (f, b, n, z, rs)).2.1, (cleanP pt nw gr (f, b, n, z, rs)).2.2.1, (), (), (), (), (), (), (cleanP pt nw gr (f, b, n, z, rs)).2.2.2.1, (), ()), ()), (cleanP pt nw gr (f, b, n, z, rs)).2.2.2.2, ())))]⟩
theorem clean_ok : caseClean.e.ok P0 I.f49 := vcase_ok (c := caseClean) (H := H.clean2) (E := env consU1) (env_ok consU1_ok) glob0 mixed0 G.f49 Bd.f49 (by kernel_rfl) (loops_good (tab := [(4, cl4LC), (11, cl11LC), (16, cl16LC)]) (by kernel_rfl) (fun x hx => by simp at hx; rcases hx with rfl | rfl | rfl; exact cl4_lok; exact cl11_lok; exact cl16_lok)) fun ⟨_, pt, nw, gr, _⟩ ⟨_, ⟨f, ⟨b, n, _, _, _, _, _, _, z, _, _⟩, _⟩, rs, _⟩ r h hw1 hw2 => by
  obtain ⟨hc, rfl⟩ := pick_pre h
  have hc : (decide (List.length f ≤ 1000000000) && decide (List.length (catG (segsL (f, b, n, z, rs))) ≤ 1048576)) = true := hc
  simp only [Bool.and_eq_true, decide_eq_true_eq] at hc
  exact clean_val pt nw gr f b n z rs hc.1 hc.2
end Go.Sim
namespace Go.Sim
set_option linter.unusedSimpArgs false
set_option linter.unusedVariables false
set_option maxRecDepth 10000
end Go.Sim
namespace Go.Sim
set_option linter.unusedSimpArgs false
set_option linter.unusedVariables false
set_option maxRecDepth 10000
structure InvL (c : Nat) (v : Int) (M : LogS) (al : List Rec) : Prop where
  chain : chainF 0 M.1 M.2.1
  act : recsIn M.2.1 M.2.2.1 M.2.2.2.2
  ok : okB c M = true
  gen : ∀ g ∈ M.1, 0 ≤ g.2.2.2.1 ∧ g.2.2.2.1 ≤ v
  last : ∀ k, lastA k (catG (segsL M)) = lastA k al
  len : (catG (segsL M)).length ≤ c
theorem catG_segs (M : LogS) : catG (segsL M) = catG M.1 ++ M.2.2.2.2 := by unfold segsL; rw [catG_snoc]; rfl
theorem split_two {f : List Seg} {i : Nat} (h : i + 1 < f.length) : f = f.take i ++ f.getD i segTy.zero :: f.getD (i + 1) segTy.zero :: f.drop (i + 2) := by
  have e1 : f.drop i = f.getD i segTy.zero :: f.drop (i + 1) := by
    rw [List.drop_eq_getElem_cons (by omega), List.getD_eq_getElem?_getD, List.getElem?_eq_getElem (by omega)]
    rfl
  have e2 : f.drop (i + 1) = f.getD (i + 1) segTy.zero :: f.drop (i + 2) := by
    rw [List.drop_eq_getElem_cons (by omega), List.getD_eq_getElem?_getD, List.getElem?_eq_getElem (by omega)]
    rfl
  conv => lhs; rw [← List.take_append_drop i f, e1, e2]
end Go.Sim
namespace Go.Sim
set_option linter.unusedSimpArgs false
set_option linter.unusedVariables false
set_option maxRecDepth 10000
structure SegOK (v : Int) (g : Seg) : Prop where
  lt : g.1 < g.2.1
  sealed : g.2.2.2.2.2.1 = true
  gen : 0 ≤ g.2.2.2.1 ∧ g.2.2.2.1 ≤ v
  time : -1099511627776 ≤ g.2.2.1 ∧ g.2.2.1 ≤ 1099511627776
  size : 0 ≤ g.2.2.2.2.2.2.2.2.1
  recs : recsIn g.1 g.2.1 g.2.2.2.2.1
  right : ∀ r ∈ g.2.2.2.2.1, recR r = true
  away : g.2.2.2.2.2.2.2.1 = true → g.2.2.2.2.1 = []
  here : g.2.2.2.2.2.2.2.1 = false → g.2.2.2.2.2.2.2.2.1 = ((bytS g.2.2.2.2.1).length : Int) ∧ g.2.2.2.2.2.2.2.2.2 = 0
def chainS (v : Int) : Int → List Seg → Int → Prop
  | a, [], e => a = e
  | a, g :: f, e => g.1 = a ∧ SegOK v g ∧ chainS v g.2.1 f e
def remOK : List Seg → Prop
  | [] => True
  | g :: f => (g.2.2.2.2.2.2.2.1 = false → ∀ h ∈ f, h.2.2.2.2.2.2.2.1 = false) ∧ remOK f
structure InvM (c : Int) (v : Int) (M : LogS) : Prop where
  low : 0 ≤ lowP M
  chain : chainS v (lowP M) M.1 M.2.1
  rem : remOK M.1
  ord : M.2.1 ≤ M.2.2.1
  hi : M.2.2.1 ≤ c
  act : recsIn M.2.1 M.2.2.1 M.2.2.2.2
  actR : ∀ r ∈ M.2.2.2.2, recR r = true
  size : sizeB M = true
theorem SegOK_mono {v w : Int} {g : Seg} (h : SegOK v g) (hv : v ≤ w) : SegOK w g := { h with gen := ⟨h.gen.1, by have := h.gen.2; omega⟩ }
theorem chainS_mono {v w : Int} (hv : v ≤ w) : ∀ {f : List Seg} {a e : Int}, chainS v a f e → chainS w a f e
  | [], _, _, h => h
  | g :: f, _, _, h => ⟨h.1, SegOK_mono h.2.1 hv, chainS_mono hv h.2.2⟩
theorem InvM_mono {c d v w : Int} {M : LogS} (h : InvM c v M) (h1 : c ≤ d) (h2 : v ≤ w) : InvM d w M :=
  { h with chain := chainS_mono h2 h.chain, hi := by have := h.hi; omega }
theorem chainS_le {v : Int} : ∀ {f : List Seg} {a e : Int}, chainS v a f e → a + f.length ≤ e
  | [], a, e, h => by have h : a = e := h; simp; omega
  | g :: f, a, e, h => by
    have := chainS_le h.2.2
    have := h.2.1.lt
    have := h.1
    simp only [List.length_cons]
    omega
theorem chainS_mem {v : Int} : ∀ {f : List Seg} {a e : Int}, chainS v a f e → ∀ g ∈ f, SegOK v g ∧ a ≤ g.1 ∧ g.2.1 ≤ e
  | [], a, e, h, g, hg => by cases hg
  | x :: f, a, e, h, g, hg => by
    have h1 := h.1
    have h2 := h.2.1.lt
    have h3 := chainS_le h.2.2
    rcases List.mem_cons.1 hg with rfl | hg
    · exact ⟨h.2.1, by omega, by omega⟩
    · obtain ⟨i1, i2, i3⟩ := chainS_mem h.2.2 g hg
      exact ⟨i1, by omega, i3⟩
theorem chainS_recs {v : Int} : ∀ {f : List Seg} {a e : Int}, chainS v a f e → recsIn a e (catG f)
  | [], a, e, h => ⟨fun r hr => (by cases hr), trivial⟩
  | g :: f, a, e, h => by
    obtain ⟨h1, h2, h3⟩ := h
    have ih := chainS_recs h3
    have hle := chainS_le h3
    have hlt := h2.lt
    rw [catG_cons]
    refine ⟨fun r hr => ?_, sortO_append h2.recs.2 ih.2 fun x hx y hy => ?_⟩
    · rcases List.mem_append.1 hr with hr | hr
      · have := h2.recs.1 r hr
        omega
      · have := ih.1 r hr
        omega
    · have := h2.recs.1 x hx
      have := ih.1 y hy
      omega
theorem sort_len : ∀ {l : List Rec} {a b : Int}, a ≤ b → recsIn a b l → (l.length : Int) ≤ b - a
  | [], a, b, hab, h => by simp; omega
  | r :: l, a, b, hab, h => by
    have hr := h.1 r List.mem_cons_self
    have ih := sort_len (l := l) (a := r.1 + 1) (b := b) (by omega) ⟨fun q hq => ⟨by have := h.2.1 q hq; omega, (h.1 q (List.mem_cons_of_mem _ hq)).2⟩, h.2.2⟩
    simp only [List.length_cons]
    omega
theorem recsIn_join {a b c : Int} {l m : List Rec} (h1 : recsIn a b l) (h2 : recsIn b c m) (hab : a ≤ b) (hbc : b ≤ c) : recsIn a c (l ++ m) := by
  refine ⟨fun r hr => ?_, sortO_append h1.2 h2.2 fun x hx y hy => ?_⟩
  · rcases List.mem_append.1 hr with hr | hr
    · have := h1.1 r hr
      omega
    · have := h2.1 r hr
      omega
  · have := h1.1 x hx
    have := h2.1 y hy
    omega
theorem InvM_all {c v : Int} {M : LogS} (h : InvM c v M) : recsIn (lowP M) M.2.2.1 (catG (segsL M)) := by
  rw [catG_segs]
  have := chainS_le h.chain
  exact recsIn_join (chainS_recs h.chain) h.act (by omega) h.ord
theorem InvM_len {c v : Int} {M : LogS} (h : InvM c v M) : ((catG (segsL M)).length : Int) ≤ c := by
  have h1 := chainS_le h.chain
  have h2 := h.ord
  have := sort_len (by omega) (InvM_all h)
  have := h.low
  have := h.hi
  omega
theorem catG_mem {f : List Seg} {g : Seg} (h : g ∈ f) : g.2.2.2.2.1.length ≤ (catG f).length := by
  obtain ⟨s, t, e⟩ := List.append_of_mem h
  rw [e, catG_append, catG_cons]
  simp only [List.length_append]
  omega
theorem InvM_num {c v : Int} {M : LogS} (h : InvM c v M) : (M.1.length : Int) ≤ c := by
  have := chainS_le h.chain
  have := h.ord
  have := h.hi
  have := h.low
  omega
theorem InvM_ok {c : Nat} {v : Int} {M : LogS} (h : InvM c v M) (hc : c ≤ 1000000000) : okB c M = true := by
  have h1 := chainS_le h.chain
  have h2 := h.ord
  have h3 := h.low
  have h4 := h.hi
  have h5 := InvM_len h
  rw [catG_segs, List.length_append] at h5
  have h6 := of_decide_eq_true h.size
  have h7 := bytS_len M.2.2.2.2
  have h8 := InvM_num h
  refine okB_iff.2 ⟨by omega, h2, h4, by omega, by omega, by omega, by omega, List.all_eq_true.2 fun g hg => ?_⟩
  have := catG_mem hg
  exact decide_eq_true (by omega)
theorem InvM_gen {c : Nat} {v : Int} {M : LogS} (h : InvM c v M) (hc : c ≤ 500000000) (hv : v ≤ 1000000) : (segsL M).all genB = true := by
  have h5 := InvM_len h
  rw [catG_segs, List.length_append] at h5
  refine List.all_eq_true.2 fun g hg => ?_
  unfold genB
  rcases List.mem_append.1 hg with hg | hg
  · have := catG_mem hg
    have := (chainS_mem h.chain g hg).1.gen
    simp only [Bool.and_eq_true, decide_eq_true_eq]
    omega
  · have := List.mem_singleton.1 hg
    subst this
    show (decide (M.2.2.2.2.length ≤ 500000000) && decide (-9000000000000000000 ≤ (0 : Int)) && decide ((0 : Int) ≤ 9000000000000000000)) = true
    simp only [Bool.and_eq_true, decide_eq_true_eq]
    omega
theorem InvM_zero : InvM 0 0 ([], 0, 0, 0, []) := ⟨by decide, rfl, trivial, Int.le_refl _, Int.le_refl _, ⟨fun r h => (by cases h), trivial⟩, fun r h => (by cases h), rfl⟩
theorem recR_off {n : Int} {x : Int × List UInt8 × List UInt8 × Bool} (h : recR (0, x) = true) (h1 : 0 ≤ n) (h2 : n ≤ 1125899906842624) : recR (n, x) = true := by
  unfold recR at h ⊢
  simp only [Bool.and_eq_true, decide_eq_true_eq] at h ⊢
  exact ⟨h1, h2, h.2.2⟩
theorem InvM_push {c v : Int} {M : LogS} {r : Rec} (h : InvM c v M) (hr : recR (0, r.2) = true) (hc : c < 1125899906842624) : InvM (c + 1) v (pushP M r) := by
  have h1 := chainS_le h.chain
  have h2 := h.ord
  have h3 := h.low
  have h4 := h.hi
  refine ⟨h.low, h.chain, h.rem, ?_, ?_, ?_, fun q hq => ?_, pushP_size r h.size⟩
  · show M.2.1 ≤ M.2.2.1 + 1
    omega
  · show M.2.2.1 + 1 ≤ c + 1
    omega
  · show recsIn M.2.1 (M.2.2.1 + 1) (M.2.2.2.2 ++ [(M.2.2.1, r.2)])
    exact recsIn_join h.act ⟨fun q hq => by have := List.mem_singleton.1 hq; subst this; exact ⟨Int.le_refl _, by show M.2.2.1 < M.2.2.1 + 1; omega⟩, ⟨fun q hq => (by cases hq), trivial⟩⟩ h.ord (by omega)
  · have hq : q ∈ M.2.2.2.2 ++ [(M.2.2.1, r.2)] := hq
    rcases List.mem_append.1 hq with hq | hq
    · exact h.actR q hq
    · have := List.mem_singleton.1 hq
      subst this
      exact recR_off hr (by omega) (by omega)
theorem chainS_snoc {v : Int} {g : Seg} : ∀ {f : List Seg} {a e : Int}, chainS v a f e → g.1 = e → SegOK v g → chainS v a (f ++ [g]) g.2.1
  | [], a, e, h, h1, h2 => by
    have h : a = e := h
    subst h
    exact ⟨h1, h2, rfl⟩
  | x :: f, a, e, h, h1, h2 => ⟨h.1, h.2.1, chainS_snoc h.2.2 h1 h2⟩
theorem remOK_snoc {g : Seg} (hg : g.2.2.2.2.2.2.2.1 = false) : ∀ {f : List Seg}, remOK f → remOK (f ++ [g])
  | [], _ => ⟨fun _ h hh => (by cases hh), trivial⟩
  | x :: f, h => ⟨fun hx q hq => by
      rcases List.mem_append.1 hq with hq | hq
      · exact h.1 hx q hq
      · have := List.mem_singleton.1 hq
        subst this
        exact hg, remOK_snoc hg h.2⟩
theorem latI_in {l : List Rec} (h : ∀ r ∈ l, recR r = true) : ∀ i, i ≤ l.length → -1099511627776 ≤ latI l i ∧ latI l i ≤ 1099511627776
  | 0, _ => by unfold latI; omega
  | i + 1, hi => by
    have ih := latI_in h i (by omega)
    have hm : l.getD i recTy.zero ∈ l := by
      rw [List.getD_eq_getElem?_getD, List.getElem?_eq_getElem (by omega)]
      exact List.getElem_mem _
    have hr := h _ hm
    unfold recR at hr
    simp only [Bool.and_eq_true, decide_eq_true_eq] at hr
    unfold latI
    cases decide (i = 0) || decide ((l.getD i recTy.zero).2.1 > latI l i) with
    | true => rw [cond_true]; omega
    | false => rw [cond_false]; exact ih
theorem InvM_seal {c v : Int} {M : LogS} (h : InvM c v M) (hv : 0 ≤ v) : InvM c v (sealP M) := by
  have h2 := h.ord
  have hl := lowP_seal M
  refine ⟨by rw [hl]; exact h.low, ?_, ?_, ?_, by rw [sealP_next]; exact h.hi, ?_, ?_, sealP_size h.size⟩
  · rw [hl]
    unfold sealP
    cases hb : M.2.1 == M.2.2.1 with
    | true => exact h.chain
    | false =>
      rw [cond_false]
      have hne : M.2.1 ≠ M.2.2.1 := by simpa using hb
      have h6 := of_decide_eq_true h.size
      have hlat := latI_in h.actR M.2.2.2.2.length (Nat.le_refl _)
      refine chainS_snoc (g := (M.2.1, M.2.2.1, latS M.2.2.2.2, 0, M.2.2.2.2, true, false, false, M.2.2.2.1, 0)) h.chain rfl
        ⟨by show M.2.1 < M.2.2.1; omega, rfl, ⟨Int.le_refl _, hv⟩, hlat, by show 0 ≤ M.2.2.2.1; omega, h.act, h.actR, fun h => (by cases h), fun _ => ⟨h6, rfl⟩⟩
  · unfold sealP
    cases hb : M.2.1 == M.2.2.1 with
    | true => exact h.rem
    | false => exact remOK_snoc rfl h.rem
  · unfold sealP
    cases hb : M.2.1 == M.2.2.1 with
    | true => exact h.ord
    | false => exact Int.le_refl _
  · unfold sealP
    cases hb : M.2.1 == M.2.2.1 with
    | true => exact h.act
    | false => exact ⟨fun r hr => (by cases hr), trivial⟩
  · unfold sealP
    cases hb : M.2.1 == M.2.2.1 with
    | true => exact h.actR
    | false => exact fun r hr => (by cases hr)
theorem InvM_app {c v : Int} {M : LogS} (most : Int) (LL : List Rec) (h : InvM c v M) (hv : 0 ≤ v) (h0 : 0 ≤ c) : ∀ k : Nat, c + k ≤ 1000000 → InvM (c + k) v (apL most LL M k)
  | 0, _ => by
    have e : c + ((0 : Nat) : Int) = c := by simp
    rw [e]
    exact h
  | k + 1, hk => by
    have ih := InvM_app most LL h hv h0 k (by omega)
    have e : c + ((k + 1 : Nat) : Int) = c + k + 1 := by omega
    show InvM (c + ((k + 1 : Nat) : Int)) v (apR most (apL most LL M k) (LL.getD k recTy.zero))
    rw [e]
    unfold apR
    cases hr : recR (0, (LL.getD k recTy.zero).2) with
    | false => exact InvM_mono ih (by omega) (Int.le_refl _)
    | true =>
      have hp := InvM_push (r := LL.getD k recTy.zero) ih hr (by omega)
      rw [cond_true]
      cases decide ((apL most LL M k).2.2.1 + 1 - (apL most LL M k).2.1 ≥ mxI most) with
      | true => exact InvM_seal hp hv
      | false => exact hp
end Go.Sim
namespace Go.Sim
set_option linter.unusedSimpArgs false
set_option linter.unusedVariables false
set_option maxRecDepth 10000
theorem rret_segs (c : Cnf) (now : Int) (M : LogS) : rretP c now (segsL M) = segsL (retainP c now M) := by
  have h := dropN_leA c now (actS M) rfl M.1
  unfold rretP retainP
  show List.drop (dropN c now (segsL M)) (M.1 ++ [actS M]) = List.drop (dropN c now (segsL M)) M.1 ++ [actS M]
  exact List.drop_append_of_le_length h
theorem chainS_drop {v : Int} : ∀ {f : List Seg} {a e : Int} (d : Nat), chainS v a f e → ∃ b, a ≤ b ∧ chainS v b (f.drop d) e ∧ (f.drop d = [] → b = e) ∧ (∀ g r, f.drop d = g :: r → b = g.1)
  | f, a, e, 0, h => ⟨a, Int.le_refl _, h, fun hf => by have hf : f = [] := hf; subst hf; exact h, fun g r hf => by have hf : f = g :: r := hf; subst hf; exact h.1.symm⟩
  | [], a, e, d + 1, h => ⟨e, by have h : a = e := h; omega, rfl, fun _ => rfl, fun g r hf => by cases hf⟩
  | g :: f, a, e, d + 1, h => by
    obtain ⟨b, h1, h2, h3, h4⟩ := chainS_drop d h.2.2
    have := h.1
    have := h.2.1.lt
    exact ⟨b, by omega, h2, h3, h4⟩
theorem remOK_drop : ∀ {f : List Seg} (d : Nat), remOK f → remOK (f.drop d)
  | f, 0, h => h
  | [], d + 1, h => h
  | g :: f, d + 1, h => remOK_drop d h.2
theorem lowP_cons (g : Seg) (f : List Seg) (y : Int × Int × Int × List Rec) : lowP (g :: f, y) = g.1 := by unfold lowP; rw [cond_pos (by simp)]; rfl
theorem lowP_nil (y : Int × Int × Int × List Rec) : lowP ([], y) = y.1 := rfl
theorem InvM_retain {k v : Int} {M : LogS} (c : Cnf) (now : Int) (h : InvM k v M) : InvM k v (retainP c now M) ∧ lowP M ≤ lowP (retainP c now M) := by
  obtain ⟨b, h1, h2, h3, h4⟩ := chainS_drop (dropN c now (segsL M)) h.chain
  have hb : lowP (retainP c now M) = b := by
    unfold retainP
    cases hd : M.1.drop (dropN c now (segsL M)) with
    | nil => rw [lowP_nil]; exact (h3 hd).symm
    | cons g r => rw [lowP_cons]; exact (h4 g r hd).symm
  have := h.low
  exact ⟨⟨by rw [hb]; omega, by rw [hb]; exact h2, remOK_drop _ h.rem, h.ord, h.hi, h.act, h.actR, h.size⟩, by rw [hb]; exact h1⟩
theorem firstFrom_ext {p q : Nat → Bool} : ∀ {m i : Nat}, (∀ k, i ≤ k → k < i + m → p k = q k) → firstFrom p i m = firstFrom q i m
  | 0, _, _ => rfl
  | m + 1, i, h => by
    simp only [firstFrom]
    rw [h i (Nat.le_refl _) (by omega), firstFrom_ext (p := p) (q := q) (m := m) (i := i + 1) fun k h1 h2 => h k (by omega) (by omega)]
theorem firstFrom_snoc {p : Nat → Bool} : ∀ {m i : Nat}, p (i + m) = false → firstFrom p i (m + 1) = firstFrom p i m
  | 0, i, h => by
    simp only [firstFrom]
    rw [show i = i + 0 from rfl, h]
    rfl
  | m + 1, i, h => by
    have ih := firstFrom_snoc (p := p) (m := m) (i := i + 1) (by rw [show i + 1 + m = i + (m + 1) by omega]; exact h)
    rw [firstFrom, ih]
    rfl
theorem sealed_at {v a e : Int} {f : List Seg} (h : chainS v a f e) {i : Nat} (hi : i < f.length) : SegOK v (f.getD i segTy.zero) := by
  have : f.getD i segTy.zero ∈ f := by
    rw [List.getD_eq_getElem?_getD, List.getElem?_eq_getElem hi]
    exact List.getElem_mem hi
  exact (chainS_mem h _ this).1
theorem rmg_at {v a e : Int} {M : LogS} (most : Int) (h : chainS v a M.1 e) : rmgAt most (segsL M) = mgAt most M.1 := by
  unfold rmgAt mgAt
  rw [segsL_len]
  cases hn : M.1.length with
  | zero => rfl
  | succ n =>
    rw [show n + 1 + 1 - 2 = n by omega, firstFrom_snoc (p := mgP most M.1) (m := n) (i := 0)]
    · refine firstFrom_ext fun k _ hk => ?_
      have s1 := (sealed_at h (i := k) (by omega)).sealed
      have s2 := (sealed_at h (i := k + 1) (by omega)).sealed
      unfold rmgP mgP wholeS
      rw [segsL_lt (by omega), segsL_lt (by omega), decide_eq_true (show k + 1 < M.1.length by omega), s1, s2]
      have e3 : ∀ x : Int, decide (x > most) = !decide (x ≤ most) := fun x => by rw [Bool.eq_iff_iff]; simp
      rw [e3]
      cases (M.1.getD k segTy.zero).2.2.2.2.2.2.2.1 <;> cases (M.1.getD (k + 1) segTy.zero).2.2.2.2.2.2.2.1 <;> simp
    · unfold mgP
      rw [decide_eq_false (by omega)]
      rfl
theorem mgAt_lt {most : Int} {f : List Seg} {j : Nat} (h : mgAt most f = some j) : j + 1 < f.length ∧ wholeS (f.getD j segTy.zero) = true ∧ wholeS (f.getD (j + 1) segTy.zero) = true := by
  obtain ⟨_, _, j3, _⟩ := firstFrom_spec h
  unfold mgP at j3
  simp only [Bool.and_eq_true, decide_eq_true_eq] at j3
  exact ⟨j3.1, j3.2.1, j3.2.2.1⟩
theorem mgL_segs (M : LogS) {i : Nat} (h : i + 1 < M.1.length) : mgL (segsL M) i = segsL (mgL M.1 i, M.2) := by
  unfold mgL twoOne
  rw [segsL_lt (by omega), segsL_lt h]
  unfold segsL
  rw [List.take_append_of_le_length (by omega), List.drop_append_of_le_length (by omega)]
  simp [actS]
theorem rmerge_segs {v a e : Int} {M : LogS} (most : Int) (h : chainS v a M.1 e) : rmergeP most (segsL M) = segsL (mergeP most M) := by
  unfold rmergeP mergeP
  rw [rmg_at most h]
  cases hj : mgAt most M.1 with
  | none => rfl
  | some j => exact mgL_segs M (mgAt_lt hj).1
theorem chainS_split {v : Int} : ∀ {l m : List Seg} {a e : Int}, chainS v a (l ++ m) e → ∃ c, chainS v a l c ∧ chainS v c m e
  | [], m, a, e, h => ⟨a, rfl, h⟩
  | x :: l, m, a, e, h => by
    obtain ⟨c, i1, i2⟩ := chainS_split h.2.2
    exact ⟨c, ⟨h.1, h.2.1, i1⟩, i2⟩
theorem chainS_join {v : Int} : ∀ {l m : List Seg} {a c e : Int}, chainS v a l c → chainS v c m e → chainS v a (l ++ m) e
  | [], m, a, c, e, h, g => by
    have h : a = c := h
    subst h
    exact g
  | x :: l, m, a, c, e, h, g => ⟨h.1, h.2.1, chainS_join h.2.2 g⟩
theorem remOK_iff : ∀ {l m : List Seg}, remOK (l ++ m) ↔ remOK l ∧ remOK m ∧ ((∃ g ∈ l, g.2.2.2.2.2.2.2.1 = false) → ∀ h ∈ m, h.2.2.2.2.2.2.2.1 = false)
  | [], m => by simp [remOK]
  | x :: l, m => by
    simp only [List.cons_append, remOK]
    rw [remOK_iff (l := l) (m := m)]
    constructor
    · rintro ⟨h1, h2, h3, h4⟩
      refine ⟨⟨fun hx h hh => h1 hx h (List.mem_append_left _ hh), h2⟩, h3, ?_⟩
      rintro ⟨g, hg, hl⟩ q hq
      rcases List.mem_cons.1 hg with rfl | hg
      · exact h1 hl q (List.mem_append_right _ hq)
      · exact h4 ⟨g, hg, hl⟩ q hq
    · rintro ⟨⟨h1, h2⟩, h3, h4⟩
      refine ⟨fun hx q hq => ?_, h2, h3, fun ⟨g, hg, hl⟩ => h4 ⟨g, List.mem_cons_of_mem _ hg, hl⟩⟩
      rcases List.mem_append.1 hq with hq | hq
      · exact h1 hx q hq
      · exact h4 ⟨x, List.mem_cons_self, hx⟩ q hq
theorem mxZ_in {a b lo hi : Int} (h1 : lo ≤ a ∧ a ≤ hi) (h2 : lo ≤ b ∧ b ≤ hi) : lo ≤ mxZ a b ∧ mxZ a b ≤ hi := by
  unfold mxZ
  cases decide (b > a) with
  | true => exact h2
  | false => exact h1
theorem merge2_ok {v : Int} {g q : Seg} (h1 : SegOK v g) (h2 : SegOK v q) (hb : q.1 = g.2.1) : SegOK (v + 1) (merge2 g q) := by
  have l1 := h1.lt
  have l2 := h2.lt
  have m := mxZ_in h1.gen h2.gen
  refine ⟨?_, rfl, ?_, mxZ_in h1.time h2.time, ?_, ?_, ?_, fun h => ?_, fun _ => ⟨rfl, rfl⟩⟩
  · show g.1 < q.2.1
    omega
  · show 0 ≤ mxZ g.2.2.2.1 q.2.2.2.1 + 1 ∧ mxZ g.2.2.2.1 q.2.2.2.1 + 1 ≤ v + 1
    omega
  · show (0 : Int) ≤ ((bytS (g.2.2.2.2.1 ++ q.2.2.2.2.1)).length : Int)
    omega
  · have := h2.recs
    rw [hb] at this
    show recsIn g.1 q.2.1 (g.2.2.2.2.1 ++ q.2.2.2.2.1)
    exact recsIn_join h1.recs this (by omega) (by omega)
  · intro r hr
    have hr : r ∈ g.2.2.2.2.1 ++ q.2.2.2.2.1 := hr
    rcases List.mem_append.1 hr with hr | hr
    · exact h1.right r hr
    · exact h2.right r hr
  · have h : false = true := h
    cases h
theorem InvM_merge {k v : Int} {M : LogS} (most : Int) (h : InvM k v M) : InvM k (v + 1) (mergeP most M) ∧ lowP (mergeP most M) = lowP M := by
  unfold mergeP
  cases hj : mgAt most M.1 with
  | none => exact ⟨InvM_mono h (Int.le_refl _) (by omega), rfl⟩
  | some j =>
    obtain ⟨hlt, w1, w2⟩ := mgAt_lt hj
    simp only [Option.isSome_some, cond_true, Option.getD_some]
    have hsp := split_two hlt
    obtain ⟨P, hP⟩ : ∃ P, P = M.1.take j := ⟨_, rfl⟩
    obtain ⟨g, hg⟩ : ∃ g, g = M.1.getD j segTy.zero := ⟨_, rfl⟩
    obtain ⟨q, hq⟩ : ∃ q, q = M.1.getD (j + 1) segTy.zero := ⟨_, rfl⟩
    obtain ⟨D, hD⟩ : ∃ D, D = M.1.drop (j + 2) := ⟨_, rfl⟩
    have hm : mgL M.1 j = P ++ merge2 g q :: D := by unfold mgL twoOne; rw [hP, hg, hq, hD]; simp
    rw [← hg] at w1
    rw [← hq] at w2
    rw [← hP, ← hg, ← hq, ← hD] at hsp
    rw [hm]
    have hch := h.chain
    have hre := h.rem
    rw [hsp] at hch hre
    obtain ⟨x, k1, k2⟩ := chainS_split hch
    obtain ⟨a1, a2, b1, b2, k3⟩ := k2
    have hlow : lowP (P ++ merge2 g q :: D, M.2) = lowP M := by
      have e : lowP M = lowP (P ++ g :: q :: D, M.2) := by rw [← hsp]
      rw [e]
      cases P with
      | nil => rw [List.nil_append, List.nil_append, lowP_cons, lowP_cons]; rfl
      | cons p P => rw [List.cons_append, List.cons_append, lowP_cons, lowP_cons]
    refine ⟨⟨by rw [hlow]; exact h.low, ?_, ?_, h.ord, h.hi, h.act, h.actR, h.size⟩, hlow⟩
    · rw [hlow]
      refine chainS_join (chainS_mono (by omega) k1) ⟨a1, merge2_ok a2 b2 b1, ?_⟩
      exact chainS_mono (by omega) k3
    · obtain ⟨r1, r2, r3⟩ := remOK_iff.1 hre
      have g0 : g.2.2.2.2.2.2.2.1 = false := by unfold wholeS at w1; simp only [Bool.and_eq_true, Bool.not_eq_true'] at w1; exact w1.2
      have hD0 : ∀ y ∈ D, y.2.2.2.2.2.2.2.1 = false := fun y hy => r2.1 g0 y (List.mem_cons_of_mem _ hy)
      refine remOK_iff.2 ⟨r1, ⟨fun _ => hD0, r2.2.2⟩, fun hx y hy => ?_⟩
      rcases List.mem_cons.1 hy with rfl | hy
      · rfl
      · exact hD0 y hy
theorem rof_at {v a e : Int} {M : LogS} (bs gn : Int) (h : chainS v a M.1 e) : rofAt bs gn (segsL M) = odAt bs gn M := by
  unfold rofAt odAt
  rw [segsL_len, Nat.add_sub_cancel, firstFrom_snoc (p := offB bs gn M) (m := M.1.length) (i := 0)]
  · refine firstFrom_ext fun k _ hk => ?_
    have s1 := (sealed_at h (i := k) (by omega)).sealed
    unfold rofB offB
    rw [segsL_lt (by omega), s1]
    cases (M.1.getD k segTy.zero).2.2.2.2.2.2.2.1 <;> cases h1 : (M.1.getD k segTy.zero).1 == bs <;> cases h2 : (M.1.getD k segTy.zero).2.2.2.1 == gn <;> simp_all
  · unfold offB
    rw [Nat.zero_add, segsL_last]
    rfl
theorem roff_segs {v a e : Int} {M : LogS} (bs gn by2 su : Int) (h : chainS v a M.1 e) : roffP bs gn by2 su (segsL M) = (segsL (offloadP bs gn by2 su M).1, (offloadP bs gn by2 su M).2) := by
  unfold roffP offloadP
  rw [rof_at bs gn h]
  cases hk : odAt bs gn M with
  | none => rfl
  | some k =>
    have hlt := odAt_lt hk
    have hb : ofBad by2 su (segsL M) k = ofBad by2 su M.1 k := by
      unfold ofBad
      rw [segsL_lt hlt]
      by_cases h0 : 0 < k
      · rw [segsL_lt (by omega)]
      · rw [decide_eq_false h0]; rfl
    simp only
    rw [hb]
    cases ofBad by2 su M.1 k with
    | true => rfl
    | false =>
      simp only [cond_false]
      rw [segsL_lt hlt]
      congr 1
      unfold segsL
      rw [List.set_append_left _ _ hlt]
      rfl
theorem odAt_seg {v a e : Int} {M : LogS} {bs gn : Int} {k : Nat} (h : odAt bs gn M = some k) : k < M.1.length ∧ (M.1.getD k segTy.zero).2.2.2.2.2.2.2.1 = false ∧ (M.1.getD k segTy.zero).1 = bs ∧ (M.1.getD k segTy.zero).2.2.2.1 = gn := by
  have hlt := odAt_lt h
  obtain ⟨_, _, h3, _⟩ := firstFrom_spec h
  unfold offB at h3
  rw [segsL_lt hlt] at h3
  simp only [Bool.and_eq_true, Bool.not_eq_true', beq_iff_eq] at h3
  exact ⟨hlt, h3.2.1, h3.2.2.1, h3.2.2.2⟩
theorem split_one {f : List Seg} {k : Nat} (h : k < f.length) : f = f.take k ++ f.getD k segTy.zero :: f.drop (k + 1) := by
  conv => lhs; rw [← List.take_append_drop k f, getD_drop f k segTy.zero h]
theorem set_split {f : List Seg} {k : Nat} (h : k < f.length) (g : Seg) : f.set k g = f.take k ++ g :: f.drop (k + 1) := by
  rw [List.set_eq_take_append_cons_drop, if_pos h]
theorem ofG_ok {v : Int} {g : Seg} (su : Int) (h : SegOK v g) : SegOK v (ofG g su) :=
  ⟨h.lt, h.sealed, h.gen, h.time, h.size, ⟨fun r hr => (by cases hr), trivial⟩, fun r hr => (by cases hr), fun _ => rfl, fun h => by have h : true = false := h; cases h⟩
theorem take_remote {f : List Seg} {k : Nat} (hr : remOK f) (hk : k < f.length) (h0 : k = 0 ∨ (f.getD (k - 1) segTy.zero).2.2.2.2.2.2.2.1 = true) : ∀ g ∈ f.take k, g.2.2.2.2.2.2.2.1 = true := by
  intro g hg
  rcases h0 with rfl | h0
  · simp at hg
  · cases hgr : g.2.2.2.2.2.2.2.1 with
    | true => rfl
    | false =>
      obtain ⟨j, hj, e⟩ := List.mem_iff_getElem.1 hg
      have hjk : j < k := by simp at hj; omega
      have e2 : f.getD j segTy.zero = g := by
        rw [List.getD_eq_getElem?_getD, List.getElem?_eq_getElem (by omega), ← e, List.getElem_take]
        rfl
      by_cases hj1 : j = k - 1
      · rw [← hj1, e2, hgr] at h0
        cases h0
      · have hs := List.take_append_drop (j + 1) f
        rw [← hs] at hr
        obtain ⟨_, _, r3⟩ := remOK_iff.1 hr
        have hm : f.getD (k - 1) segTy.zero ∈ f.drop (j + 1) := by
          rw [List.getD_eq_getElem?_getD, List.getElem?_eq_getElem (by omega)]
          refine List.mem_iff_getElem.2 ⟨k - 1 - (j + 1), by simp; omega, ?_⟩
          rw [List.getElem_drop]
          congr 1
          omega
        have hm2 : g ∈ f.take (j + 1) := by
          rw [stake_snoc (by omega), e2]
          simp
        have := r3 ⟨g, hm2, hgr⟩ _ hm
        rw [this] at h0
        cases h0
theorem ofBad_no {by2 su : Int} {f : List Seg} {k : Nat} (h : ofBad by2 su f k = false) : (k = 0 ∨ (f.getD (k - 1) segTy.zero).2.2.2.2.2.2.2.1 = true) ∧ by2 = (f.getD k segTy.zero).2.2.2.2.2.2.2.2.1 ∧ su = sumI (bytS (f.getD k segTy.zero).2.2.2.2.1) := by
  unfold ofBad at h
  simp only [Bool.or_eq_false_iff, Bool.and_eq_false_iff, decide_eq_false_iff_not, Bool.not_eq_false', bne_eq_false_iff_eq] at h
  obtain ⟨h1, h2, h3⟩ := h
  refine ⟨?_, h2, h3⟩
  rcases h1 with h1 | h1
  · exact .inl (by omega)
  · exact .inr h1
theorem InvM_off {k v : Int} {M : LogS} (bs gn by2 su : Int) (h : InvM k v M) : InvM k v (offloadP bs gn by2 su M).1 ∧ lowP (offloadP bs gn by2 su M).1 = lowP M := by
  unfold offloadP
  cases hk : odAt bs gn M with
  | none => exact ⟨h, rfl⟩
  | some j =>
    obtain ⟨hlt, g1, g2, g3⟩ := odAt_seg (v := v) (a := 0) (e := 0) hk
    simp only
    cases hb : ofBad by2 su M.1 j with
    | true => exact ⟨h, rfl⟩
    | false =>
      rw [cond_false]
      simp only
      obtain ⟨f1, _, _⟩ := ofBad_no hb
      have hsp := split_one hlt
      have hst := set_split hlt (ofG (M.1.getD j segTy.zero) su)
      have htk := take_remote h.rem hlt f1
      have hch := h.chain
      have hre := h.rem
      rw [hst]
      rw [hsp] at hch hre
      obtain ⟨x, k1, k2⟩ := chainS_split hch
      obtain ⟨a1, a2, a3⟩ := k2
      obtain ⟨r1, r2, r3⟩ := remOK_iff.1 hre
      have hlow : lowP (M.1.take j ++ ofG (M.1.getD j segTy.zero) su :: M.1.drop (j + 1), M.2) = lowP M := by
        have e : lowP M = lowP (M.1.take j ++ M.1.getD j segTy.zero :: M.1.drop (j + 1), M.2) := by rw [← hsp]
        rw [e]
        cases M.1.take j with
        | nil => rw [List.nil_append, List.nil_append, lowP_cons, lowP_cons]; rfl
        | cons p P => rw [List.cons_append, List.cons_append, lowP_cons, lowP_cons]
      refine ⟨⟨by rw [hlow]; exact h.low, ?_, ?_, h.ord, h.hi, h.act, h.actR, h.size⟩, hlow⟩
      · rw [hlow]
        exact chainS_join k1 ⟨a1, ofG_ok su a2, a3⟩
      · refine remOK_iff.2 ⟨r1, ⟨fun hx => ?_, r2.2⟩, fun ⟨g, hg, hl⟩ => ?_⟩
        · have hx : true = false := hx
          cases hx
        · rw [htk g hg] at hl
          cases hl
end Go.Sim
namespace Go.Sim
set_option linter.unusedSimpArgs false
set_option linter.unusedVariables false
set_option maxRecDepth 10000
theorem sort_split (t : Int) : ∀ {l : List Rec}, sortO l → ∃ X Y, l = X ++ Y ∧ (∀ r ∈ X, r.1 < t) ∧ (∀ r ∈ Y, t ≤ r.1) ∧ sortO Y
  | [], _ => ⟨[], [], rfl, fun r h => (by cases h), fun r h => (by cases h), trivial⟩
  | x :: l, h => by
    by_cases hx : x.1 < t
    · obtain ⟨X, Y, e, h1, h2, h3⟩ := sort_split t h.2
      refine ⟨x :: X, Y, by rw [e]; rfl, fun r hr => ?_, h2, h3⟩
      rcases List.mem_cons.1 hr with rfl | hr
      · exact hx
      · exact h1 r hr
    · refine ⟨[], x :: l, rfl, fun r h => (by cases h), fun r hr => ?_, h⟩
      rcases List.mem_cons.1 hr with rfl | hr
      · omega
      · have := h.1 r hr
        omega
theorem filter_in {g : Seg} {pre X Y : List Rec} (h1 : ∀ r ∈ pre, r.1 < g.1) (h2 : ∀ r ∈ X, g.1 ≤ r.1 ∧ r.1 < g.2.1) (h3 : ∀ r ∈ Y, g.2.1 ≤ r.1) : (pre ++ (X ++ Y)).filter (inG g) = X := by
  rw [List.filter_append, List.filter_append]
  have e1 : pre.filter (inG g) = [] := List.filter_eq_nil_iff.2 fun r hr => by have := h1 r hr; unfold inG; rw [decide_eq_false (show ¬ r.1 ≥ g.1 by omega)]; simp
  have e2 : X.filter (inG g) = X := List.filter_eq_self.2 fun r hr => by have := h2 r hr; unfold inG; rw [decide_eq_true (show r.1 ≥ g.1 by omega), decide_eq_true this.2]; rfl
  have e3 : Y.filter (inG g) = [] := List.filter_eq_nil_iff.2 fun r hr => by have := h3 r hr; unfold inG; rw [decide_eq_false (show ¬ r.1 < g.2.1 by omega)]; simp
  rw [e1, e2, e3, List.nil_append, List.append_nil]
theorem clR_map {v : Int} (p : Int) (kept : List Rec) : ∀ {f : List Seg} {a e : Int}, chainS v a f e → ∀ pre kp : List Rec, kept = pre ++ kp → (∀ r ∈ pre, r.1 < a) → sortO kp → (∀ r ∈ kp, a ≤ r.1) → (∀ r ∈ kp, r ∈ catG f ∨ e ≤ r.1) →
    (clR p f kp).1 = f.map (rclOne p kept)
  | [], a, e, h, pre, kp, _, _, _, _, _ => rfl
  | g :: f, a, e, h, pre, kp, hk, hp, hs, ha, hm => by
    obtain ⟨h1, h2, h3⟩ := h
    have hlt := h2.lt
    have hle := chainS_le h3
    have hrf := (chainS_recs h3).1
    unfold clR
    rw [List.map_cons]
    cases hr : g.2.2.2.2.2.2.2.1 with
    | true =>
      have e1 : clOne p g kp = (g, kp) := by unfold clOne; rw [hr, Bool.or_true]; rfl
      have e2 : rclOne p kept g = g := by unfold rclOne; rw [hr]; rfl
      have hg := h2.away hr
      rw [e1, e2]
      have ih := clR_map p kept h3 pre kp hk (fun r hr => by have := hp r hr; omega) hs (fun r hr => ?_) (fun r hr => ?_)
      · rw [ih]
      · rcases hm r hr with hc | hc
        · rw [catG_cons, hg, List.nil_append] at hc
          exact (hrf r hc).1
        · omega
      · rcases hm r hr with hc | hc
        · rw [catG_cons, hg, List.nil_append] at hc
          exact .inl hc
        · exact .inr hc
    | false =>
      obtain ⟨X, Y, e0, x1, y1, y2⟩ := sort_split g.2.1 hs
      have hX : ∀ r ∈ X, g.1 ≤ r.1 ∧ r.1 < g.2.1 := fun r hr => ⟨by rw [h1]; exact ha r (by rw [e0]; exact List.mem_append_left _ hr), x1 r hr⟩
      have hcut : cutN g.2.1 kp = X.length := by rw [e0]; exact cutN_split x1 y1
      have hfil : kept.filter (inG g) = X := by rw [hk, e0]; exact filter_in (fun r hr => by rw [h1]; exact hp r hr) hX y1
      have e1 : clOne p g kp = (rclG p kept g, Y) := by
        unfold clOne
        rw [h2.sealed, hr, hcut]
        have t1 : kp.take X.length = X := by rw [e0]; simp
        have t2 : kp.drop X.length = Y := by rw [e0]; simp
        rw [t2]
        unfold clG rclG
        rw [t1, hfil]
        rfl
      have e2 : rclOne p kept g = rclG p kept g := by unfold rclOne; rw [hr]; rfl
      rw [e1, e2]
      have ih := clR_map p kept h3 (pre ++ X) Y (by rw [hk, e0, List.append_assoc]) (fun r hr => ?_) y2 y1 (fun r hr => ?_)
      · rw [ih]
      · rcases List.mem_append.1 hr with hr | hr
        · have := hp r hr
          omega
        · exact x1 r hr
      · rcases hm r (by rw [e0]; exact List.mem_append_right _ hr) with hc | hc
        · rw [catG_cons] at hc
          rcases List.mem_append.1 hc with hc | hc
          · have := (h2.recs.1 r hc).2
            have := y1 r hr
            omega
          · exact .inl hc
        · exact .inr hc
theorem keepL_sort {pt nw gr : Int} {d : Bool} : ∀ {l : List Rec}, sortO l → sortO (keepL pt nw gr d l)
  | [], _ => trivial
  | r :: l, h => by
    simp only [keepL]
    cases staysR pt nw gr d r l with
    | true => exact ⟨fun q hq => h.1 q (keepL_mem hq), keepL_sort h.2⟩
    | false => exact keepL_sort h.2
def keptM (pt nw gr : Int) (M : LogS) : List Rec := keepL (minZ pt M.2.1) nw gr (locG (segsL M)) (catG (segsL M))
theorem cleanP_map {c v : Int} {M : LogS} (pt nw gr : Int) (h : InvM c v M) : cleanP pt nw gr M = (M.1.map (rclOne (minZ pt M.2.1) (keptM pt nw gr M)), M.2) := by
  unfold cleanP
  rw [clS_all]
  have ha := InvM_all h
  have hm : ∀ r ∈ keptM pt nw gr M, lowP M ≤ r.1 := fun r hr => (ha.1 r (keepL_mem hr)).1
  have := clR_map (minZ pt M.2.1) (keptM pt nw gr M) h.chain [] (keptM pt nw gr M) rfl (fun r hr => (by cases hr)) (keepL_sort ha.2) hm fun r hr => by
    have hc := keepL_mem hr
    rw [catG_segs] at hc
    rcases List.mem_append.1 hc with hc | hc
    · exact .inl hc
    · exact .inr (h.act.1 r hc).1
  unfold keptM at this
  rw [this]
  rfl
theorem rrem_segs {M : LogS} (h : remOK M.1) : (!rremP (segsL M)) = locG (segsL M) := by
  unfold rremP segsL
  cases hf : M.1 with
  | nil => rfl
  | cons g f =>
    rw [hf] at h
    have e : ((g :: f ++ [actS M]).getD 0 segTy.zero) = g := rfl
    rw [e]
    unfold locG
    rw [List.cons_append, List.all_cons]
    cases hg : g.2.2.2.2.2.2.2.1 with
    | true => rfl
    | false =>
      rw [Bool.not_false, Bool.true_and]
      refine (List.all_eq_true.2 fun q hq => ?_).symm
      rcases List.mem_append.1 hq with hq | hq
      · rw [h.1 hg q hq]; rfl
      · have := List.mem_singleton.1 hq
        subst this
        rfl
theorem rclean_segs {c v : Int} {M : LogS} (pt nw gr : Int) (h : InvM c v M) : rclnP pt nw gr (segsL M) = segsL (cleanP pt nw gr M) := by
  rw [cleanP_map pt nw gr h]
  unfold rclnP
  rw [lastS_segs, rrem_segs h.rem]
  have e : (segsL M).dropLast = M.1 := by unfold segsL; exact List.dropLast_concat
  rw [e]
  rfl
theorem filter_sort {q : Rec → Bool} : ∀ {l : List Rec}, sortO l → sortO (l.filter q)
  | [], _ => trivial
  | r :: l, h => by
    rw [List.filter_cons]
    by_cases hq : q r = true
    · rw [if_pos hq]
      exact ⟨fun x hx => h.1 x (List.mem_filter.1 hx).1, filter_sort h.2⟩
    · rw [if_neg hq]
      exact filter_sort h.2
theorem rclOne_ok {v : Int} {g : Seg} (p : Int) {kept : List Rec} (h : SegOK v g) (hs : sortO kept) (hr : ∀ r ∈ kept, recR r = true) (hv : v ≤ 1000000) : SegOK (v + 1) (rclOne p kept g) := by
  unfold rclOne
  cases hg : g.2.2.2.2.2.2.2.1 with
  | true => exact SegOK_mono h (by omega)
  | false =>
    rw [cond_false]
    have hgen := h.gen
    have hw : IntKind.i64.wrap (g.2.2.2.1 + 1) = g.2.2.2.1 + 1 := wrap64 (by omega) (by omega)
    refine ⟨h.lt, h.sealed, ?_, h.time, ?_, ⟨fun r hr2 => ?_, filter_sort hs⟩, fun r hr2 => hr r (List.mem_filter.1 hr2).1, fun h2 => ?_, fun _ => ⟨rfl, (h.here hg).2⟩⟩
    · unfold rclG
      simp only
      rw [hw]
      cases decide (((kept.filter (inG g)).length : Int) < (g.2.2.2.2.1.length : Int)) <;> simp only [cond_true, cond_false] <;> omega
    · show (0 : Int) ≤ ((bytS (kept.filter (inG g))).length : Int)
      omega
    · have h3 := (List.mem_filter.1 hr2).2
      unfold inG at h3
      simp only [Bool.and_eq_true, decide_eq_true_eq] at h3
      exact h3
    · have h2 : g.2.2.2.2.2.2.2.1 = true := h2
      rw [hg] at h2
      cases h2
theorem rclOne_keep (p : Int) (kept : List Rec) (g : Seg) : (rclOne p kept g).1 = g.1 ∧ (rclOne p kept g).2.1 = g.2.1 ∧ (rclOne p kept g).2.2.2.2.2.2.2.1 = g.2.2.2.2.2.2.2.1 := by
  unfold rclOne
  cases hg : g.2.2.2.2.2.2.2.1 with
  | true => exact ⟨rfl, rfl, hg⟩
  | false => exact ⟨rfl, rfl, hg⟩
theorem chainS_map {v w : Int} {F : Seg → Seg} (hF : ∀ g, SegOK v g → SegOK w (F g)) (h1 : ∀ g, (F g).1 = g.1 ∧ (F g).2.1 = g.2.1) : ∀ {f : List Seg} {a e : Int}, chainS v a f e → chainS w a (f.map F) e
  | [], a, e, h => h
  | g :: f, a, e, h => by
    refine ⟨by rw [(h1 g).1]; exact h.1, hF g h.2.1, ?_⟩
    rw [(h1 g).2]
    exact chainS_map hF h1 h.2.2
theorem remOK_map {F : Seg → Seg} (h1 : ∀ g, (F g).2.2.2.2.2.2.2.1 = g.2.2.2.2.2.2.2.1) : ∀ {f : List Seg}, remOK f → remOK (f.map F)
  | [], h => h
  | g :: f, h => ⟨fun hg q hq => by
      obtain ⟨x, hx, rfl⟩ := List.mem_map.1 hq
      rw [h1] at hg ⊢
      exact h.1 hg x hx, remOK_map h1 h.2⟩
theorem right_all {c v : Int} {M : LogS} (h : InvM c v M) : ∀ r ∈ catG (segsL M), recR r = true := by
  intro r hr
  rw [catG_segs] at hr
  rcases List.mem_append.1 hr with hr | hr
  · unfold catG at hr
    obtain ⟨l, hl, hrl⟩ := List.mem_flatten.1 hr
    obtain ⟨g, hg, rfl⟩ := List.mem_map.1 hl
    exact (chainS_mem h.chain g hg).1.right r hrl
  · exact h.actR r hr
theorem InvM_clean {c v : Int} {M : LogS} (pt nw gr : Int) (h : InvM c v M) (hv : v ≤ 1000000) : InvM c (v + 1) (cleanP pt nw gr M) ∧ lowP (cleanP pt nw gr M) = lowP M := by
  rw [cleanP_map pt nw gr h]
  have ha := InvM_all h
  have hlow : lowP (M.1.map (rclOne (minZ pt M.2.1) (keptM pt nw gr M)), M.2) = lowP M := by
    have e : lowP M = lowP (M.1, M.2) := rfl
    rw [e]
    cases hf : M.1 with
    | nil => rfl
    | cons g f => rw [List.map_cons, lowP_cons, lowP_cons, (rclOne_keep _ _ _).1]
  refine ⟨⟨by rw [hlow]; exact h.low, ?_, remOK_map (fun g => (rclOne_keep _ _ g).2.2) h.rem, h.ord, h.hi, h.act, h.actR, h.size⟩, hlow⟩
  rw [hlow]
  exact chainS_map (fun g hg => rclOne_ok _ hg (keepL_sort ha.2) (fun r hr => right_all h r (keepL_mem hr)) hv) (fun g => ⟨(rclOne_keep _ _ g).1, (rclOne_keep _ _ g).2.1⟩) h.chain
theorem ff_none {p : Nat → Bool} {m i : Nat} (h : ∀ k, i ≤ k → k < i + m → p k = false) : firstFrom p i m = none := by
  cases hf : firstFrom p i m with
  | none => rfl
  | some j =>
    obtain ⟨h1, h2, h3, _⟩ := firstFrom_spec hf
    rw [h j h1 h2] at h3
    cases h3
theorem sortO_get : ∀ {l : List Rec} {i : Nat}, sortO l → i + 1 < l.length → (l.getD i recTy.zero).1 < (l.getD (i + 1) recTy.zero).1
  | [], i, h, hi => by simp at hi
  | [r], i, h, hi => by simp at hi
  | r :: q :: l, 0, h, hi => h.1 q List.mem_cons_self
  | r :: q :: l, i + 1, h, hi => sortO_get (l := q :: l) h.2 (by simpa using hi)
theorem getD_memR {l : List Rec} {i : Nat} (h : i < l.length) : l.getD i recTy.zero ∈ l := by
  rw [List.getD_eq_getElem?_getD, List.getElem?_eq_getElem h]
  exact List.getElem_mem h
theorem chainB_ok {g : Seg} (h : recsIn g.1 g.2.1 g.2.2.2.2.1) (hr : ∀ r ∈ g.2.2.2.2.1, recR r = true) (h0 : 0 ≤ g.1) (hn : g.2.1 ≤ 1125899906842624) : chainB g = true := by
  unfold chainB
  rw [ff_none fun k _ hk => ?_]
  · rfl
  · rw [Nat.zero_add] at hk
    have hm := getD_memR hk
    have hb := h.1 _ hm
    unfold badRc
    rw [hr _ hm, decide_eq_false (show ¬ (g.2.2.2.2.1.getD k recTy.zero).1 ≥ g.2.1 by omega), Bool.or_false]
    cases k with
    | zero => rw [decide_eq_false (show ¬ (g.2.2.2.2.1.getD 0 recTy.zero).1 < nextR g 0 by show ¬ _ < g.1; omega)]; rfl
    | succ k =>
      have h3 := h.1 _ (getD_memR (l := g.2.2.2.2.1) (i := k) (by omega))
      have h4 := sortO_get h.2 hk
      have e : nextR g (k + 1) = (g.2.2.2.2.1.getD k recTy.zero).1 + 1 := wrap64 (by omega) (by omega)
      rw [e, decide_eq_false (by omega)]
      rfl
theorem mayB_seg {v : Int} {g : Seg} (h : SegOK v g) (h0 : 0 ≤ g.1) (hn : g.2.1 ≤ 1125899906842624) : mayB g false = true := by
  have hlt := h.lt
  have hg := h.gen
  have ht := h.time
  have hs := h.size
  unfold mayB
  rw [decide_eq_false (show ¬ g.1 < 0 by omega), decide_eq_false (show ¬ g.2.2.2.1 < 0 by omega), decide_eq_false (show ¬ g.2.2.2.2.2.2.2.2.1 < 0 by omega), decide_eq_false (show ¬ g.2.1 < g.1 by omega), decide_eq_false (show ¬ g.2.1 > 1125899906842624 by omega), chainB_ok h.recs h.right h0 hn, h.sealed, decide_eq_false (show ¬ g.2.2.1 < -1099511627776 by omega), decide_eq_false (show ¬ g.2.2.1 > 1099511627776 by omega)]
  have e : (g.2.1 == g.1) = false := by simp; omega
  rw [e]
  cases hr : g.2.2.2.2.2.2.2.1 with
  | true => rw [h.away hr]; rfl
  | false =>
    obtain ⟨e1, e2⟩ := h.here hr
    rw [cond_false, e2, e1]
    simp
theorem mayB_act {c v : Int} {M : LogS} (h : InvM c v M) (hc : c ≤ 1125899906842624) : mayB (actS M) true = true := by
  have h1 := chainS_le h.chain
  have h2 := h.ord
  have h3 := h.low
  have h4 := h.hi
  have h5 := of_decide_eq_true h.size
  unfold mayB
  have hb := chainB_ok (g := actS M) h.act h.actR (by show 0 ≤ M.2.1; omega) (by show M.2.2.1 ≤ _; omega)
  rw [hb]
  show (!(decide (M.2.1 < 0) || (decide ((0 : Int) < 0) || (decide (M.2.2.2.1 < 0) || (decide (M.2.2.1 < M.2.1) || (decide (M.2.2.1 > 1125899906842624) || !true))))) && (!(false == true) && (!(false && M.2.2.1 == M.2.1) && (!(decide ((0 : Int) < -1099511627776) || decide ((0 : Int) > 1099511627776)) && (!(true && ((0 : Int) != 0 || (false || false))) && (bif false then ((List.length M.2.2.2.2 : Int) == 0) else (0 : Int) == 0 && M.2.2.2.1 == ((bytS M.2.2.2.2).length : Int))))))) = true
  rw [decide_eq_false (show ¬ M.2.1 < 0 by omega), decide_eq_false (show ¬ M.2.2.2.1 < 0 by omega), decide_eq_false (show ¬ M.2.2.1 < M.2.1 by omega), decide_eq_false (show ¬ M.2.2.1 > 1125899906842624 by omega), ← h5]
  simp
theorem chainS_next {v : Int} : ∀ {f : List Seg} {a e : Int}, chainS v a f e → ∀ i, i + 1 < f.length → (f.getD (i + 1) segTy.zero).1 = (f.getD i segTy.zero).2.1
  | [], a, e, h, i, hi => by simp at hi
  | [g], a, e, h, i, hi => by simp at hi
  | g :: q :: f, a, e, h, 0, hi => h.2.2.1
  | g :: q :: f, a, e, h, i + 1, hi => chainS_next (f := q :: f) h.2.2 i (by simpa using hi)
theorem chainS_last {v : Int} : ∀ {f : List Seg} {a e : Int}, chainS v a f e → 0 < f.length → (f.getD (f.length - 1) segTy.zero).2.1 = e
  | [], a, e, h, hi => by simp at hi
  | [g], a, e, h, hi => h.2.2
  | g :: q :: f, a, e, h, hi => by
    have := chainS_last (f := q :: f) h.2.2 (by simp)
    simpa using this
theorem remOK_at : ∀ {f : List Seg}, remOK f → ∀ i, i + 1 < f.length → (f.getD (i + 1) segTy.zero).2.2.2.2.2.2.2.1 = true → (f.getD i segTy.zero).2.2.2.2.2.2.2.1 = true
  | [], h, i, hi, _ => by simp at hi
  | [g], h, i, hi, _ => by simp at hi
  | g :: q :: f, h, 0, hi, hq => by
    cases hg : g.2.2.2.2.2.2.2.1 with
    | true => exact hg
    | false =>
      have := h.1 hg q List.mem_cons_self
      have hq : q.2.2.2.2.2.2.2.1 = true := hq
      rw [this] at hq
      cases hq
  | g :: q :: f, h, i + 1, hi, hq => remOK_at (f := q :: f) h.2 i (by simpa using hi) hq
theorem InvM_right {c v : Int} {M : LogS} (h : InvM c v M) (hc : c ≤ 1125899906842624) : rightB (segsL M) = true := by
  rw [← right_eq]
  have h1 := chainS_le h.chain
  have h2 := h.ord
  have h3 := h.low
  have h4 := h.hi
  unfold rightO
  rw [decide_eq_true (show 0 < (segsL M).length by rw [segsL_len]; omega), ff_none fun k _ hk => ?_]
  · rfl
  · rw [segsL_len, Nat.zero_add] at hk
    unfold badO
    rw [segsL_len]
    by_cases hlt : k < M.1.length
    · have hmem : M.1.getD k segTy.zero ∈ M.1 := by
        rw [List.getD_eq_getElem?_getD, List.getElem?_eq_getElem hlt]
        exact List.getElem_mem hlt
      obtain ⟨s1, s2, s3⟩ := chainS_mem h.chain _ hmem
      have e1 : (((k + 1 : Nat) : Int) == ((M.1.length + 1 : Nat) : Int)) = false := by simp; omega
      rw [segsL_lt hlt, e1, mayB_seg s1 (by omega) (by omega), Bool.not_true, Bool.false_or]
      cases k with
      | zero => rfl
      | succ k =>
        rw [show k + 1 - 1 = k from rfl, segsL_lt (by omega), chainS_next h.chain k hlt]
        cases hr : (M.1.getD (k + 1) segTy.zero).2.2.2.2.2.2.2.1 with
        | false => simp
        | true => rw [remOK_at h.rem k hlt hr]; simp
    · obtain rfl : k = M.1.length := by omega
      have e1 : (((M.1.length + 1 : Nat) : Int) == ((M.1.length + 1 : Nat) : Int)) = true := by simp
      rw [segsL_last, e1, mayB_act h hc, Bool.not_true, Bool.false_or]
      by_cases h0 : 0 < M.1.length
      · rw [segsL_lt (by omega), chainS_last h.chain h0]
        have e2 : (actS M).1 = M.2.1 := rfl
        have e3 : (actS M).2.2.2.2.2.2.2.1 = false := rfl
        rw [e2, e3]
        simp
      · rw [decide_eq_false (show ¬ M.1.length > 0 by omega)]
        rfl
end Go.Sim
namespace Go.Sim
set_option linter.unusedSectionVars false
set_option linter.unusedSimpArgs false
set_option linter.unusedVariables false
def locsAll (get : Nat → AObj) : List Nat → List Nat
  | [] => []
  | k :: ks => (get k).locs ++ locsAll get ks
def keptN (ks : List Nat) (n nx : Nat) : List Nat := (List.range n).map fun i => cond (has ks i) i (nx + i)
def finN (ks : List Nat) (n : Nat) (v : AV) (s : St) : Option (AV × List AObj) :=
  (fun ls => cond (nodupB ls) (some (v.ren (idx ls 0), ls.map fun l => (getO s.objs l).ren (idx ls 0))) none)
    (keptN ks n s.nx ++ (reach (getO s.objs) reachFuel (locsAll (getO s.objs) ks ++ v.locs) ks).drop ks.length)
def finVN (out : Pat) (outs : List OPat) (ks : List Nat) (n : Nat) (v : AV) (s : St) : Option (out.den × opatsDen outs) := (finN ks n v s).bind fun r => (out.view r.1).bind fun a => (opatsView outs r.2).bind fun b => some (a, b)
section
variable {P : Program} [Tabs P] {own : Own P} {φ φ' : Nat → Nat} {β β' : Beta} {w w' : World} {E : Env} {H : Hint} {R : Type}
theorem finN_sound {ks : List Nat} {n : FuncId} {args : List AV} {objs objs' : List AObj} {v r : AV} {s' : St} (hfin : finN ks objs.length v s' = some (r, objs'))
    (hC : ∀ (own : Own P) φ β w vs, VL φ β w args vs → WInv own φ β (fun l => (objs[l]?).getD .dead) w → (∀ l, objs.length ≤ l → β l = none) →
      Calls P n vs.toArray w fun e w' => ∃ u φ' β', e = .returned u ∧ Run objs.length own φ β w φ' β' w' ∧ V φ' β' w' v u ∧ WInv own φ' β' (getO s'.objs) w' ∧ (∀ l, s'.nx ≤ l → β' l = none)) : EffGood P n args objs r objs' := by
  unfold finN at hfin
  obtain ⟨hc, hfin⟩ := cond_none hfin
  generalize (reach (getO s'.objs) reachFuel (locsAll (getO s'.objs) ks ++ v.locs) ks).drop ks.length = rest at hc hfin
  obtain ⟨ls, hls⟩ : ∃ ls, ls = keptN ks objs.length s'.nx ++ rest := ⟨_, rfl⟩
  rw [← hls] at hc hfin
  simp only [Option.some.injEq, Prod.mk.injEq] at hfin
  obtain ⟨rfl, rfl⟩ := hfin
  have hkl : (keptN ks objs.length s'.nx).length = objs.length := by unfold keptN; simp
  have hat : ∀ l, l < objs.length → ls[l]? = some (cond (has ks l) l (s'.nx + l)) := fun l hl => by
    rw [hls, List.getElem?_append_left (by rw [hkl]; exact hl)]
    unfold keptN
    rw [List.getElem?_map, List.getElem?_range hl]
    rfl
  have hlen : objs.length ≤ ls.length := by rw [hls, List.length_append, hkl]; omega
  intro own φ β w vs hV hW htop
  refine (hC own φ β w vs hV hW htop).mono fun e w' ⟨u, φ', β', he, hrun, hVu, hWI, ht⟩ => ?_
  have hW1 := hWI.sub hc
  have hmn : ∀ l, l < objs.length → has ks l = false → subB ls β' l = none := fun l h1 h2 => by
    unfold subB
    rw [hat l h1, h2]
    exact ht _ (by simp)
  have hmk : ∀ l, l < objs.length → has ks l = true → subB ls β' l = β l := fun l h1 h2 => by
    unfold subB
    rw [hat l h1, h2]
    exact hrun.agree l h1
  obtain ⟨β2, hβ2⟩ : ∃ β2 : Beta, β2 = fun l => if l < objs.length then β l else subB ls β' l := ⟨_, rfl⟩
  have hb1 : ∀ l, ¬ (l < objs.length) → β2 l = subB ls β' l := fun l h => by rw [hβ2]; simp only [h, if_false]
  have hb2 : ∀ l, l < objs.length → β2 l = β l := fun l h1 => by rw [hβ2]; simp only [h1, if_true]
  have hext : Ext (subB ls β') β2 := fun l x hx => by
    by_cases h : l < objs.length
    · cases hk : has ks l with
      | true => rw [hb2 l h, ← hmk l h hk]; exact hx
      | false => rw [hmn l h hk] at hx; cases hx
    · rw [hb1 l h]; exact hx
  have e2 : (fun l => ((ls.map fun l => (getO s'.objs l).ren (idx ls 0))[l]?).getD .dead) = getO (numbered 0 (ls.map fun l => (getO s'.objs l).ren (idx ls 0))) := funext fun l => (getO_numbered _ l).symm
  have hsame : ∀ l, getO (numbered 0 (ls.map fun l => (getO s'.objs l).ren (idx ls 0))) l ≠ .dead → β2 l = subB ls β' l := fun l hl => by
    by_cases h : l < objs.length
    · cases hk : has ks l with
      | true => rw [hb2 l h, hmk l h hk]
      | false => exact absurd (dead_none (hW1.rel l) (hmn l h hk)) hl
    · exact hb1 l h
  refine ⟨u, φ', β2, he, ⟨hrun.keeps, fun l hl => hb2 l hl, hrun.grow, hrun.old⟩, V.keep (.refl _ _) hext _ _ (V.ren subB_idx _ _ hVu), ?_, fun l hl => ?_⟩
  · rw [e2]
    refine ⟨fun m => (hW1.rel m).keep (.refl _ _) hext (fun _ _ => ⟨rfl, rfl⟩), fun m p hm hp => hW1.mine m p hm (by rw [← hsame m hm]; exact hp), fun m m' p q hne h1 h2 h3 h4 => hW1.dist m m' p q hne h1 h2 (by rw [← hsame m h1]; exact h3) (by rw [← hsame m' h2]; exact h4), hW1.fresh, hW1.laid⟩
  · have hl : ls.length ≤ l := by simpa using hl
    rw [hb1 l (fun h => by omega)]
    have : ls[l]? = none := by simpa using hl
    simp [subB, this]
theorem vcase_okN (hE : EnvOK P E) (hg : GlobOK P E) (hm : P.follows .mixedOrders = true) {n : FuncId} {fn : Func} (hf : P.funcs[n]? = some fn) {c : VCase} {cd : Code} (hb : fn.body = some cd) (ks : List Nat)
    (hok : (Nat.beq H.nt fn.ntmps && Nat.ble c.ins.length fn.ntmps) = true) {LP : Loops (c.out.den × opatsDen c.outs)} (hL : LoopsGood P H c.objs.length LP cd)
    (h : ∀ x y r, pick (c.f x y) = some r → patsWf c.ins x → opatsWf c.objs y → evFnM c.objs.length E H LP fn (patsMk c.ins x) (opatsMk c.objs y) (finVN c.out c.outs ks c.objs.length) = some r) : c.e.ok P n := fun (x : patsDen c.ins) (y : opatsDen c.objs) r objs' hxy hw1 hw2 => by
  obtain ⟨z, hz, e0⟩ := pick_mapAlt hxy
  cases e0
  have he := h x y z hz hw1 hw2
  have hlen : ∀ (ps : List Pat) (x : patsDen ps), (patsMk ps x).length = ps.length := fun ps => by
    induction ps with
    | nil => intro _; rfl
    | cons p ps ih => intro x; simp [patsMk, ih]
  have holen : ∀ (ps : List OPat) (x : opatsDen ps), (opatsMk ps x).length = ps.length := fun ps => by
    induction ps with
    | nil => intro _; rfl
    | cons p ps ih => intro x; simp [opatsMk, ih]
  have hl : c.objs.length = (opatsMk c.objs y).length := (holen c.objs y).symm
  rw [hl] at he hL
  obtain ⟨v, s', hv, hC⟩ := evFn_coreM hE hg hm hf (args := patsMk c.ins x) (objs := opatsMk c.objs y) (by unfold fnOk; rw [hlen c.ins x]; exact hok) hb (Nat.le_refl _) hL he
  unfold finVN at hv
  obtain ⟨⟨r, os⟩, h1, hv⟩ := bind_some hv
  obtain ⟨a, h2, hv⟩ := bind_some hv
  obtain ⟨b, h3, hv⟩ := bind_some hv
  cases hv
  have hE2 := finN_sound h1 hC
  exact hE2.told h2 h3
end
end Go.Sim
