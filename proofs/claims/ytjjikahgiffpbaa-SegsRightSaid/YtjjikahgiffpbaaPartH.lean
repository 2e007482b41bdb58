/-
  SimMk: a function of whose objects only some named ones keep their numbers; the others go over to it. · WkWA: one call, by both logs. · WkWB: rows of calls, by both logs: SegsRight, SegsRetains.
-/
import Derived.Test.YtjjikahgiffpbaaPartG
namespace Go.Sim
set_option linter.unusedSectionVars false
set_option linter.unusedSimpArgs false
set_option linter.unusedVariables false

def locsAll (get : Nat → AObj) : List Nat → List Nat
  | [] => []
  | k :: ks => (get k).locs ++ locsAll get ks
/-- The numbers below n that are kept stay, the others go. -/
def keptN (ks : List Nat) (n nx : Nat) : List Nat := (List.range n).map fun i => cond (has ks i) i (nx + i)
def finN (ks : List Nat) (n : Nat) (v : AV) (s : St) : Option (AV × List AObj) :=
  (fun ls => cond (nodupB ls) (some (v.ren (idx ls 0), ls.map fun l => (getO s.objs l).ren (idx ls 0))) none)
    (keptN ks n s.nx ++ (reach (getO s.objs) reachFuel (locsAll (getO s.objs) ks ++ v.locs) ks).drop ks.length)
def finVN (out : Pat) (outs : List OPat) (ks : List Nat) (n : Nat) (v : AV) (s : St) : Option (out.den × opatsDen outs) := (finN ks n v s).bind fun r => (out.view r.1).bind fun a => (opatsView outs r.2).bind fun b => some (a, b)

section
variable {P : Program} [Tabs P] {own : Own P} {φ φ' : Nat → Nat} {β β' : Beta} {w w' : World} {E : Env} {H : Hint} {R : Type}

theorem finN_sound {ks : List Nat} {n : FuncId} {args : List AV} {objs objs' : List AObj} {v r : AV} {s' : St} (hfin : finN ks objs.length v s' = some (r, objs'))
    (hC : ∀ (own : Own P) φ β w vs, VL φ β w args vs → WInv own φ β (fun l => (objs[l]?).getD .dead) w → (∀ l, objs.length ≤ l → β l = none) →
      Calls P n vs.toArray w fun e w' => ∃ u φ' β', e = .returned u ∧ Run objs.length own φ β w φ' β' w' ∧ V φ' β' w' v u ∧ WInv own φ' β' (getO s'.objs) w' ∧ (∀ l, s'.nx ≤ l → β' l = none)) : EffGood P n args objs r objs' := by
  unfold finN at hfin
  obtain ⟨hc, hfin⟩ := cond_none hfin
  generalize (reach (getO s'.objs) reachFuel (locsAll (getO s'.objs) ks ++ v.locs) ks).drop ks.length = rest at hc hfin
  obtain ⟨ls, hls⟩ : ∃ ls, ls = keptN ks objs.length s'.nx ++ rest := ⟨_, rfl⟩
  rw [← hls] at hc hfin
  simp only [Option.some.injEq, Prod.mk.injEq] at hfin
  obtain ⟨rfl, rfl⟩ := hfin
  have hkl : (keptN ks objs.length s'.nx).length = objs.length := by unfold keptN; simp
  have hat : ∀ l, l < objs.length → ls[l]? = some (cond (has ks l) l (s'.nx + l)) := fun l hl => by
    rw [hls, List.getElem?_append_left (by rw [hkl]; exact hl)]
    unfold keptN
    rw [List.getElem?_map, List.getElem?_range hl]
    rfl
  have hlen : objs.length ≤ ls.length := by rw [hls, List.length_append, hkl]; omega
  intro own φ β w vs hV hW htop
  refine (hC own φ β w vs hV hW htop).mono fun e w' ⟨u, φ', β', he, hrun, hVu, hWI, ht⟩ => ?_
  have hW1 := hWI.sub hc
  have hmn : ∀ l, l < objs.length → has ks l = false → subB ls β' l = none := fun l h1 h2 => by
    unfold subB
    rw [hat l h1, h2]
    exact ht _ (by simp)
  have hmk : ∀ l, l < objs.length → has ks l = true → subB ls β' l = β l := fun l h1 h2 => by
    unfold subB
    rw [hat l h1, h2]
    exact hrun.agree l h1
  obtain ⟨β2, hβ2⟩ : ∃ β2 : Beta, β2 = fun l => if l < objs.length then β l else subB ls β' l := ⟨_, rfl⟩
  have hb1 : ∀ l, ¬ (l < objs.length) → β2 l = subB ls β' l := fun l h => by rw [hβ2]; simp only [h, if_false]
  have hb2 : ∀ l, l < objs.length → β2 l = β l := fun l h1 => by rw [hβ2]; simp only [h1, if_true]
  have hext : Ext (subB ls β') β2 := fun l x hx => by
    by_cases h : l < objs.length
    · cases hk : has ks l with
      | true => rw [hb2 l h, ← hmk l h hk]; exact hx
      | false => rw [hmn l h hk] at hx; cases hx
    · rw [hb1 l h]; exact hx
  have e2 : (fun l => ((ls.map fun l => (getO s'.objs l).ren (idx ls 0))[l]?).getD .dead) = getO (numbered 0 (ls.map fun l => (getO s'.objs l).ren (idx ls 0))) := funext fun l => (getO_numbered _ l).symm
  have hsame : ∀ l, getO (numbered 0 (ls.map fun l => (getO s'.objs l).ren (idx ls 0))) l ≠ .dead → β2 l = subB ls β' l := fun l hl => by
    by_cases h : l < objs.length
    · cases hk : has ks l with
      | true => rw [hb2 l h, hmk l h hk]
      | false => exact absurd (dead_none (hW1.rel l) (hmn l h hk)) hl
    · exact hb1 l h
  refine ⟨u, φ', β2, he, ⟨hrun.keeps, fun l hl => hb2 l hl, hrun.grow, hrun.old⟩, V.keep (.refl _ _) hext _ _ (V.ren subB_idx _ _ hVu), ?_, fun l hl => ?_⟩
  · rw [e2]
    refine ⟨fun m => (hW1.rel m).keep (.refl _ _) hext (fun _ _ => ⟨rfl, rfl⟩), fun m p hm hp => hW1.mine m p hm (by rw [← hsame m hm]; exact hp), fun m m' p q hne h1 h2 h3 h4 => hW1.dist m m' p q hne h1 h2 (by rw [← hsame m h1]; exact h3) (by rw [← hsame m' h2]; exact h4), hW1.fresh, hW1.laid⟩
  · have hl : ls.length ≤ l := by simpa using hl
    rw [hb1 l (fun h => by omega)]
    have : ls[l]? = none := by simpa using hl
    simp [subB, this]
/-- A case some of whose objects keep their numbers. -/
theorem vcase_okN (hE : EnvOK P E) (hg : GlobOK P E) (hm : P.follows .mixedOrders = true) {n : FuncId} {fn : Func} (hf : P.funcs[n]? = some fn) {c : VCase} {cd : Code} (hb : fn.body = some cd) (ks : List Nat)
    (hok : (Nat.beq H.nt fn.ntmps && Nat.ble c.ins.length fn.ntmps) = true) {LP : Loops (c.out.den × opatsDen c.outs)} (hL : LoopsGood P H c.objs.length LP cd)
    (h : ∀ x y r, pick (c.f x y) = some r → patsWf c.ins x → opatsWf c.objs y → evFnM c.objs.length E H LP fn (patsMk c.ins x) (opatsMk c.objs y) (finVN c.out c.outs ks c.objs.length) = some r) : c.e.ok P n := fun (x : patsDen c.ins) (y : opatsDen c.objs) r objs' hxy hw1 hw2 => by
  obtain ⟨z, hz, e0⟩ := pick_mapAlt hxy
  cases e0
  have he := h x y z hz hw1 hw2
  have hlen : ∀ (ps : List Pat) (x : patsDen ps), (patsMk ps x).length = ps.length := fun ps => by
    induction ps with
    | nil => intro _; rfl
    | cons p ps ih => intro x; simp [patsMk, ih]
  have holen : ∀ (ps : List OPat) (x : opatsDen ps), (opatsMk ps x).length = ps.length := fun ps => by
    induction ps with
    | nil => intro _; rfl
    | cons p ps ih => intro x; simp [opatsMk, ih]
  have hl : c.objs.length = (opatsMk c.objs y).length := (holen c.objs y).symm
  rw [hl] at he hL
  obtain ⟨v, s', hv, hC⟩ := evFn_coreM hE hg hm hf (args := patsMk c.ins x) (objs := opatsMk c.objs y) (by unfold fnOk; rw [hlen c.ins x]; exact hok) hb (Nat.le_refl _) hL he
  unfold finVN at hv
  obtain ⟨⟨r, os⟩, h1, hv⟩ := bind_some hv
  obtain ⟨a, h2, hv⟩ := bind_some hv
  obtain ⟨b, h3, hv⟩ := bind_some hv
  cases hv
  have hE2 := finN_sound h1 hC
  exact hE2.told h2 h3
end
end Go.Sim
namespace Go.Sim
set_option linter.unusedSimpArgs false
set_option linter.unusedVariables false
set_option maxRecDepth 10000
theorem num_ev (n : Int) : evFn (env []) H.cooperagelaw15_num (LPof []) F.cooperagelaw15_num [.int .i64 n] [] (finT [.int .i64]) = some (n, ()) := by kernel_rfl

def caseNum : PCase := ⟨[.ty (.int .i64)], [.int .i64], fun x => (fun (n : Int) => [(true, (n, ()))]) x.1⟩
theorem num_val (n : Int) : evFn (env []) H.cooperagelaw15_num (LPof []) F.cooperagelaw15_num [.int .i64 n] [] (finT [.int .i64]) = some (n, ()) := by
  exact num_ev n
theorem num_ok : caseNum.ok P0 I.cooperagelaw15_num := case_ok2 (H := H.cooperagelaw15_num) (E := env []) (env_ok env_nil) glob0 mixed0 G.cooperagelaw15_num Bd.cooperagelaw15_num (by kernel_rfl) noLoops fun ⟨n, ()⟩ y h hw => by
  obtain ⟨hc, rfl⟩ := pick_pre h
  exact num_val n
noncomputable abbrev consDo : List (FuncId × Con) := [(I.cooperagelaw15_num, .pure (pureOf [caseNum])), (I.segs_Log_Append, .eff (effOf [caseAppend.e])), (I.segs_Log_Seal, .eff (effOf [caseSeal.e])), (I.segs_Log_Clean, .eff (effOf [caseClean.e])), (I.segs_Log_Retain, .eff (effOf [caseRetain.e])), (I.segs_Log_Merge, .eff (effOf [caseMerge.e])), (I.segs_Log_Offload, .eff (effOf [caseOffload.e])), (I.cooperageref10_Log_Append, .eff (effOf [caseRapp.e])), (I.cooperageref10_Log_Seal, .eff (effOf [caseRseal.e])), (I.cooperageref10_Log_Clean, .eff (effOf [caseRclean.e])), (I.cooperageref10_Log_Retain, .eff (effOf [caseRret.e])), (I.cooperageref10_Log_Merge, .eff (effOf [caseRmerge.e])), (I.cooperageref10_Log_Offload, .eff (effOf [caseRoff.e])), (I.cooperageref10_Log_Find, .eff (effOf [caseRfind.e])), (I.cooperageref1_Bytes, .pure (pureOf [caseRbytes])), (I.cooperageref1_Sum, .pure (pureOf [caseRcrcS]))]
theorem consDo_ok : ∀ x ∈ consDo, HoldsC P0 x.1 x.2 := by
  intro x hx
  simp at hx
  rcases hx with rfl | rfl | rfl | rfl | rfl | rfl | rfl | rfl | rfl | rfl | rfl | rfl | rfl | rfl | rfl | rfl
  · exact ⟨pureOf_holds (by simp; exact num_ok), C.cooperagelaw15_num⟩
  · exact ⟨fun args objs r objs2 h _ => effOf_holds (by simp; exact append_ok) args objs r objs2 h, C.segs_Log_Append⟩
  · exact ⟨fun args objs r objs2 h _ => effOf_holds (by simp; exact seal_ok) args objs r objs2 h, C.segs_Log_Seal⟩
  · exact ⟨fun args objs r objs2 h _ => effOf_holds (by simp; exact clean_ok) args objs r objs2 h, C.segs_Log_Clean⟩
  · exact ⟨fun args objs r objs2 h _ => effOf_holds (by simp; exact retain_ok) args objs r objs2 h, C.segs_Log_Retain⟩
  · exact ⟨fun args objs r objs2 h _ => effOf_holds (by simp; exact merge_ok) args objs r objs2 h, C.segs_Log_Merge⟩
  · exact ⟨fun args objs r objs2 h _ => effOf_holds (by simp; exact offload_ok) args objs r objs2 h, C.segs_Log_Offload⟩
  · exact ⟨fun args objs r objs2 h _ => effOf_holds (by simp; exact rapp_ok) args objs r objs2 h, C.cooperageref10_Log_Append⟩
  · exact ⟨fun args objs r objs2 h _ => effOf_holds (by simp; exact rseal_ok) args objs r objs2 h, C.cooperageref10_Log_Seal⟩
  · exact ⟨fun args objs r objs2 h _ => effOf_holds (by simp; exact rclean_ok) args objs r objs2 h, C.cooperageref10_Log_Clean⟩
  · exact ⟨fun args objs r objs2 h _ => effOf_holds (by simp; exact rret_ok) args objs r objs2 h, C.cooperageref10_Log_Retain⟩
  · exact ⟨fun args objs r objs2 h _ => effOf_holds (by simp; exact rmerge_ok) args objs r objs2 h, C.cooperageref10_Log_Merge⟩
  · exact ⟨fun args objs r objs2 h _ => effOf_holds (by simp; exact roff_ok) args objs r objs2 h, C.cooperageref10_Log_Offload⟩
  · exact ⟨fun args objs r objs2 h _ => effOf_holds (by simp; exact rfind_ok) args objs r objs2 h, C.cooperageref10_Log_Find⟩
  · exact ⟨pureOf_holds (by simp; exact rbytes_ok), C.cooperageref1_Bytes⟩
  · exact ⟨pureOf_holds (by simp; exact rcrcs_ok), C.cooperageref1_Sum⟩
def H.do2 : Hint := { H.cooperagelaw15_Do with vs := [19] }
abbrev actW (b n z : Int) (k : Nat) : List AV := [.int .i64 b, .int .i64 n, .int .i64 0, .int .i64 0, .hw k, .bool false, .bool false, .bool false, .int .i64 z, .int .u32 0]
abbrev actWP (k : Nat) : List Pat := [.int .i64, .int .i64, .lit (.int .i64 0), .lit (.int .i64 0), .lit (.hw k), .lit (.bool false), .lit (.bool false), .lit (.bool false), .int .i64, .lit (.int .u32 0)]
abbrev twoP : List OPat := [.box 1 [[.lit (.hw 1)]], .arr 10 segT [actWP 2], .log recT, .box 1 [[.lit (.hw 4)]], .arr 10 segT []]
abbrev twoQ : List OPat := [.box 1 [[.lit (.hw 5)]], .dead, .dead, .box 1 [[.lit (.hw 7)]], .dead, .arr 10 segT [actWP 6], .log recT, .arr 10 segT []]
abbrev actAV (w x y g : Int) (LL : List Rec) (c1 c2 c3 c4 : Int) (mo : Bool) : AV := .agg [.int .i64 w, .int .i64 x, .int .i64 y, .int .i64 g, .vl recT LL, .int .i64 c1, .int .i64 c2, .int .i64 c3, .int .i64 c4, .bool mo]
theorem do_ev (w x y g : Int) (LL : List Rec) (c1 c2 c3 c4 : Int) (mo : Bool) (f : List Seg) (b n z : Int) (rs : List Rec) (l : List Seg) : evFnM 5 (env consDo) H.do2 (LPof []) F.cooperagelaw15_Do [.ptr 0 (.tl 0) 0, .ptr 3 (.tl 0) 0, actAV w x y g LL c1 c2 c3 c4 mo] [.arr 1 .bool [] [[.hw 1]], .arr 10 segT f [actW b n z 2], .log recT rs, .arr 1 .bool [] [[.hw 4]], .arr 10 segT l []] (finVN .bool twoQ [0, 3] 5) = bif w == (0 : Int) then bif decide (LL.length * 56 ≤ 140737488355328) then bif decide (LL.length ≤ 200000000) && okB 500000000 (f, b, n, z, rs) then bif decide (LL.length ≤ 200000000) && appB l then some (n == rhighP l, (((), ()), ()), (), (), (((), ()), ()), (), ((apL x LL (f, b, n, z, rs) LL.length).fst, ((apL x LL (f, b, n, z, rs) LL.length).snd.fst, (apL x LL (f, b, n, z, rs) LL.length).snd.snd.fst, (), (), (), (), (), (), (apL x LL (f, b, n, z, rs) LL.length).snd.snd.snd.fst, (), ()), ()), (apL x LL (f, b, n, z, rs) LL.length).snd.snd.snd.snd, (segsL (apL x LL (unL l) LL.length), ()), ()) else none else none else none else bif w == (1 : Int) then bif decide (f.length ≤ 1000000000) then bif docB l then some (true, (((), ()), ()), (), (), (((), ()), ()), (), ((sealP (f, b, n, z, rs)).fst, ((sealP (f, b, n, z, rs)).snd.fst, (sealP (f, b, n, z, rs)).snd.snd.fst, (), (), (), (), (), (), (sealP (f, b, n, z, rs)).snd.snd.snd.fst, (), ()), ()), (sealP (f, b, n, z, rs)).snd.snd.snd.snd, (rsealP l, ()), ()) else none else none else bif w == (2 : Int) then bif decide (f.length ≤ 1000000000) && decide ((catG (segsL (f, b, n, z, rs))).length ≤ 1048576) then bif rclnB l then some (true, (((), ()), ()), (), (), (((), ()), ()), (), ((cleanP x y g (f, b, n, z, rs)).fst, ((cleanP x y g (f, b, n, z, rs)).snd.fst, (cleanP x y g (f, b, n, z, rs)).snd.snd.fst, (), (), (), (), (), (), (cleanP x y g (f, b, n, z, rs)).snd.snd.snd.fst, (), ()), ()), (cleanP x y g (f, b, n, z, rs)).snd.snd.snd.snd, (rclnP x y g l, ()), ()) else none else none else bif w == (3 : Int) then bif decide (f.length < 1000000000) then bif docB l then some (true, (((), ()), ()), (), (), (((), ()), ()), (), ((retainP (c1, c2, c3, c4) y (f, b, n, z, rs)).fst, ((retainP (c1, c2, c3, c4) y (f, b, n, z, rs)).snd.fst, (retainP (c1, c2, c3, c4) y (f, b, n, z, rs)).snd.snd.fst, (), (), (), (), (), (), (retainP (c1, c2, c3, c4) y (f, b, n, z, rs)).snd.snd.snd.fst, (), ()), ()), (retainP (c1, c2, c3, c4) y (f, b, n, z, rs)).snd.snd.snd.snd, (rretP (c1, c2, c3, c4) y l, ()), ()) else none else none else bif w == (4 : Int) then bif decide (f.length < 1000000000) && f.all genB then bif decide (l.length < 1000000000) && l.all genB then some ((mgAt x f).isSome == (rmgAt x l).isSome, (((), ()), ()), (), (), (((), ()), ()), (), ((mergeP x (f, b, n, z, rs)).fst, ((mergeP x (f, b, n, z, rs)).snd.fst, (mergeP x (f, b, n, z, rs)).snd.snd.fst, (), (), (), (), (), (), (mergeP x (f, b, n, z, rs)).snd.snd.snd.fst, (), ()), ()), (mergeP x (f, b, n, z, rs)).snd.snd.snd.snd, (rmergeP x l, ()), ()) else none else none else bif w == (5 : Int) then bif docB l then bif (rfndP x l).snd then bif decide (List.length (segD (rfndP x l).fst).snd.snd.snd.snd.fst ≤ 1000000000) then bif !mo then bif smallL f then bif smallL l then some ((offloadP (segD (rfndP x l).fst).fst (segD (rfndP x l).fst).snd.snd.snd.fst (IntKind.i64.wrap ((↑(bytS (segD (rfndP x l).fst).snd.snd.snd.snd.fst).length : Int) + (1 : Int))) (sumI (bytS (segD (rfndP x l).fst).snd.snd.snd.snd.fst)) (f, b, n, z, rs)).snd == (roffP (segD (rfndP x l).fst).fst (segD (rfndP x l).fst).snd.snd.snd.fst (IntKind.i64.wrap ((↑(bytS (segD (rfndP x l).fst).snd.snd.snd.snd.fst).length : Int) + (1 : Int))) (sumI (bytS (segD (rfndP x l).fst).snd.snd.snd.snd.fst)) l).snd, (((), ()), ()), (), (), (((), ()), ()), (), ((offloadP (segD (rfndP x l).fst).fst (segD (rfndP x l).fst).snd.snd.snd.fst (IntKind.i64.wrap ((↑(bytS (segD (rfndP x l).fst).snd.snd.snd.snd.fst).length : Int) + (1 : Int))) (sumI (bytS (segD (rfndP x l).fst).snd.snd.snd.snd.fst)) (f, b, n, z, rs)).fst.fst, ((offloadP (segD (rfndP x l).fst).fst (segD (rfndP x l).fst).snd.snd.snd.fst (IntKind.i64.wrap ((↑(bytS (segD (rfndP x l).fst).snd.snd.snd.snd.fst).length : Int) + (1 : Int))) (sumI (bytS (segD (rfndP x l).fst).snd.snd.snd.snd.fst)) (f, b, n, z, rs)).fst.snd.fst, (offloadP (segD (rfndP x l).fst).fst (segD (rfndP x l).fst).snd.snd.snd.fst (IntKind.i64.wrap ((↑(bytS (segD (rfndP x l).fst).snd.snd.snd.snd.fst).length : Int) + (1 : Int))) (sumI (bytS (segD (rfndP x l).fst).snd.snd.snd.snd.fst)) (f, b, n, z, rs)).fst.snd.snd.fst, (), (), (), (), (), (), (offloadP (segD (rfndP x l).fst).fst (segD (rfndP x l).fst).snd.snd.snd.fst (IntKind.i64.wrap ((↑(bytS (segD (rfndP x l).fst).snd.snd.snd.snd.fst).length : Int) + (1 : Int))) (sumI (bytS (segD (rfndP x l).fst).snd.snd.snd.snd.fst)) (f, b, n, z, rs)).fst.snd.snd.snd.fst, (), ()), ()), (offloadP (segD (rfndP x l).fst).fst (segD (rfndP x l).fst).snd.snd.snd.fst (IntKind.i64.wrap ((↑(bytS (segD (rfndP x l).fst).snd.snd.snd.snd.fst).length : Int) + (1 : Int))) (sumI (bytS (segD (rfndP x l).fst).snd.snd.snd.snd.fst)) (f, b, n, z, rs)).fst.snd.snd.snd.snd, ((roffP (segD (rfndP x l).fst).fst (segD (rfndP x l).fst).snd.snd.snd.fst (IntKind.i64.wrap ((↑(bytS (segD (rfndP x l).fst).snd.snd.snd.snd.fst).length : Int) + (1 : Int))) (sumI (bytS (segD (rfndP x l).fst).snd.snd.snd.snd.fst)) l).fst, ()), ()) else none else none else bif smallL f then bif smallL l then some ((offloadP (segD (rfndP x l).fst).fst (segD (rfndP x l).fst).snd.snd.snd.fst (↑(bytS (segD (rfndP x l).fst).snd.snd.snd.snd.fst).length : Int) (sumI (bytS (segD (rfndP x l).fst).snd.snd.snd.snd.fst)) (f, b, n, z, rs)).snd == (roffP (segD (rfndP x l).fst).fst (segD (rfndP x l).fst).snd.snd.snd.fst (↑(bytS (segD (rfndP x l).fst).snd.snd.snd.snd.fst).length : Int) (sumI (bytS (segD (rfndP x l).fst).snd.snd.snd.snd.fst)) l).snd, (((), ()), ()), (), (), (((), ()), ()), (), ((offloadP (segD (rfndP x l).fst).fst (segD (rfndP x l).fst).snd.snd.snd.fst (↑(bytS (segD (rfndP x l).fst).snd.snd.snd.snd.fst).length : Int) (sumI (bytS (segD (rfndP x l).fst).snd.snd.snd.snd.fst)) (f, b, n, z, rs)).fst.fst, ((offloadP (segD (rfndP x l).fst).fst (segD (rfndP x l).fst).snd.snd.snd.fst (↑(bytS (segD (rfndP x l).fst).snd.snd.snd.snd.fst).length : Int) (sumI (bytS (segD (rfndP x l).fst).snd.snd.snd.snd.fst)) (f, b, n, z, rs)).fst.snd.fst, (offloadP (segD (rfndP x l).fst).fst (segD (rfndP x l).fst).snd.snd.snd.fst (↑(bytS (segD (rfndP x l).fst).snd.snd.snd.snd.fst).length : Int) (sumI (bytS (segD (rfndP x l).fst).snd.snd.snd.snd.fst)) (f, b, n, z, rs)).fst.snd.snd.fst, (), (), (), (), (), (), (offloadP (segD (rfndP x l).fst).fst (segD (rfndP x l).fst).snd.snd.snd.fst (↑(bytS (segD (rfndP x l).fst).snd.snd.snd.snd.fst).length : Int) (sumI (bytS (segD (rfndP x l).fst).snd.snd.snd.snd.fst)) (f, b, n, z, rs)).fst.snd.snd.snd.fst, (), ()), ()), (offloadP (segD (rfndP x l).fst).fst (segD (rfndP x l).fst).snd.snd.snd.fst (↑(bytS (segD (rfndP x l).fst).snd.snd.snd.snd.fst).length : Int) (sumI (bytS (segD (rfndP x l).fst).snd.snd.snd.snd.fst)) (f, b, n, z, rs)).fst.snd.snd.snd.snd, ((roffP (segD (rfndP x l).fst).fst (segD (rfndP x l).fst).snd.snd.snd.fst (↑(bytS (segD (rfndP x l).fst).snd.snd.snd.snd.fst).length : Int) (sumI (bytS (segD (rfndP x l).fst).snd.snd.snd.snd.fst)) l).fst, ()), ()) else none else none else none else some (true, (((), ()), ()), (), (), (((), ()), ()), (), (f, (b, n, (), (), (), (), (), (), z, (), ()), ()), rs, (l, ()), ()) else none else bif w == (6 : Int) then bif smallL f then bif smallL l then some ((offloadP x y g (7 : Int) (f, b, n, z, rs)).snd == (roffP x y g (7 : Int) l).snd, (((), ()), ()), (), (), (((), ()), ()), (), ((offloadP x y g (7 : Int) (f, b, n, z, rs)).fst.fst, ((offloadP x y g (7 : Int) (f, b, n, z, rs)).fst.snd.fst, (offloadP x y g (7 : Int) (f, b, n, z, rs)).fst.snd.snd.fst, (), (), (), (), (), (), (offloadP x y g (7 : Int) (f, b, n, z, rs)).fst.snd.snd.snd.fst, (), ()), ()), (offloadP x y g (7 : Int) (f, b, n, z, rs)).fst.snd.snd.snd.snd, ((roffP x y g (7 : Int) l).fst, ()), ()) else none else none else some (true, (((), ()), ()), (), (), (((), ()), ()), (), (f, (b, n, (), (), (), (), (), (), z, (), ()), ()), rs, (l, ()), ()) := by kernel_rfl
abbrev ActD := Int × Int × Int × Int × List Rec × (Int × Int × Int × Int) × Bool
/-- What a call leaves. -/
def offSz (mo : Bool) (g : Seg) : Int := bif mo then ((bytS g.2.2.2.2.1).length : Int) else ((bytS g.2.2.2.2.1).length : Int) + 1
def doP (a : ActD) (M : LogS) : LogS := bif a.1 == 0 then apL a.2.1 a.2.2.2.2.1 M a.2.2.2.2.1.length else bif a.1 == 1 then sealP M else bif a.1 == 2 then cleanP a.2.1 a.2.2.1 a.2.2.2.1 M else
  bif a.1 == 3 then retainP a.2.2.2.2.2.1 a.2.2.1 M else bif a.1 == 4 then mergeP a.2.1 M else bif a.1 == 5 then (bif (fndP a.2.1 M).2 then (offloadP (fndP a.2.1 M).1.1 (fndP a.2.1 M).1.2.2.2.1 (offSz a.2.2.2.2.2.2 (fndP a.2.1 M).1) (sumI (bytS (fndP a.2.1 M).1.2.2.2.2.1)) M).1 else M) else
  bif a.1 == 6 then (offloadP a.2.1 a.2.2.1 a.2.2.2.1 7 M).1 else M
theorem InvM_small {c : Nat} {v : Int} {M : LogS} (h : InvM c v M) (hc : c ≤ 900000000) : smallL (segsL M) = true ∧ smallL M.1 = true ∧ M.1.length < 1000000000 := by
  obtain ⟨h1, h2, h3, h4, h5, h6, h7, h9⟩ := okB_iff.1 (InvM_ok h (by omega))
  unfold smallL
  refine ⟨?_, ?_, by omega⟩
  · rw [segsL_len, decide_eq_true (by omega), Bool.true_and]
    unfold segsL
    rw [List.all_append, h9, Bool.true_and]
    simp only [List.all_cons, List.all_nil, Bool.and_true]
    exact decide_eq_true (show M.2.2.2.2.length ≤ 1000000000 by omega)
  · rw [decide_eq_true (by omega), h9]
    rfl
theorem fnd_mem {off : Int} {M : LogS} (h : (fndP off M).2 = true) : (fndP off M).1 ∈ segsL M := by
  unfold fndP at h ⊢
  cases hd : decide (off < lowP M) with
  | true => rw [hd] at h; cases h
  | false =>
    rw [hd] at h
    simp only [cond_false] at h ⊢
    cases hf : (segsL M).find? (nextG off) with
    | none => rw [hf] at h; cases h
    | some g => exact List.mem_of_find?_eq_some hf
theorem InvM_fnd {c : Nat} {v : Int} {M : LogS} (h : InvM c v M) (off : Int) (hf : (fndP off M).2 = true) : (fndP off M).1.2.2.2.2.1.length ≤ c := by
  have := catG_mem (fnd_mem hf)
  have := InvM_len h
  omega
theorem lowP_app (most : Int) (LL : List Rec) (M : LogS) : ∀ k, lowP (apL most LL M k) = lowP M
  | 0 => rfl
  | k + 1 => by
    show lowP (apR most (apL most LL M k) (LL.getD k recTy.zero)) = _
    rw [← lowP_app most LL M k]
    unfold apR
    cases recR (0, (LL.getD k recTy.zero).2) with
    | false => rfl
    | true =>
      rw [cond_true]
      cases decide ((apL most LL M k).2.2.1 + 1 - (apL most LL M k).2.1 ≥ mxI most) with
      | true => rw [cond_true, lowP_seal]; rfl
      | false => rfl
theorem app_high (most : Int) (LL : List Rec) (M : LogS) : ∀ k, M.2.2.1 ≤ (apL most LL M k).2.2.1
  | 0 => Int.le_refl _
  | k + 1 => by
    have ih := app_high most LL M k
    show _ ≤ (apR most (apL most LL M k) (LL.getD k recTy.zero)).2.2.1
    unfold apR
    cases recR (0, (LL.getD k recTy.zero).2) with
    | false => exact ih
    | true =>
      rw [cond_true]
      have e : (pushP (apL most LL M k) (LL.getD k recTy.zero)).2.2.1 = (apL most LL M k).2.2.1 + 1 := rfl
      cases decide ((apL most LL M k).2.2.1 + 1 - (apL most LL M k).2.1 ≥ mxI most) with
      | true => rw [cond_true, sealP_next, e]; omega
      | false => rw [cond_false, e]; omega
theorem off_high (bs gn by2 su : Int) (M : LogS) : (offloadP bs gn by2 su M).1.2.2.1 = M.2.2.1 := by
  unfold offloadP
  cases odAt bs gn M with
  | none => rfl
  | some k => simp only; cases ofBad by2 su M.1 k <;> rfl
theorem InvM_do {c : Nat} {v : Int} {M : LogS} (a : ActD) (h : InvM c v M) (hv : 0 ≤ v) (hv2 : v ≤ 1000000) (hc : c + a.2.2.2.2.1.length ≤ 1000000) : InvM (c + a.2.2.2.2.1.length : Nat) (v + 1) (doP a M) ∧ lowP M ≤ lowP (doP a M) ∧ M.2.2.1 ≤ (doP a M).2.2.1 := by
  have hm : InvM (c + a.2.2.2.2.1.length : Nat) (v + 1) M := InvM_mono h (by omega) (by omega)
  unfold doP
  cases a.1 == 0 with
  | true =>
    rw [cond_true]
    have h1 := InvM_app a.2.1 a.2.2.2.2.1 h hv (by omega) a.2.2.2.2.1.length (by omega)
    exact ⟨InvM_mono h1 (by omega) (by omega), Int.le_of_eq (lowP_app _ _ _ _).symm, app_high _ _ _ _⟩
  | false =>
    rw [cond_false]
    cases a.1 == 1 with
    | true => exact ⟨InvM_mono (InvM_seal h hv) (by omega) (by omega), Int.le_of_eq (lowP_seal _).symm, Int.le_of_eq (sealP_next _).symm⟩
    | false =>
      rw [cond_false]
      cases a.1 == 2 with
      | true =>
        obtain ⟨h1, h2⟩ := InvM_clean a.2.1 a.2.2.1 a.2.2.2.1 h hv2
        exact ⟨InvM_mono h1 (by omega) (by omega), Int.le_of_eq h2.symm, Int.le_refl _⟩
      | false =>
        rw [cond_false]
        cases a.1 == 3 with
        | true =>
          obtain ⟨h1, h2⟩ := InvM_retain a.2.2.2.2.2.1 a.2.2.1 h
          exact ⟨InvM_mono h1 (by omega) (by omega), h2, Int.le_refl _⟩
        | false =>
          rw [cond_false]
          cases a.1 == 4 with
          | true =>
            obtain ⟨h1, h2⟩ := InvM_merge a.2.1 h
            exact ⟨InvM_mono h1 (by omega) (by omega), Int.le_of_eq h2.symm, Int.le_refl _⟩
          | false =>
            rw [cond_false]
            cases a.1 == 5 with
            | true =>
              rw [cond_true]
              cases (fndP a.2.1 M).2 with
              | false => exact ⟨hm, Int.le_refl _, Int.le_refl _⟩
              | true =>
                rw [cond_true]
                obtain ⟨h1, h2⟩ := InvM_off (fndP a.2.1 M).1.1 (fndP a.2.1 M).1.2.2.2.1 (offSz a.2.2.2.2.2.2 (fndP a.2.1 M).1) (sumI (bytS (fndP a.2.1 M).1.2.2.2.2.1)) h
                exact ⟨InvM_mono h1 (by omega) (by omega), Int.le_of_eq h2.symm, Int.le_of_eq (off_high _ _ _ _ _).symm⟩
            | false =>
              rw [cond_false]
              cases a.1 == 6 with
              | true =>
                obtain ⟨h1, h2⟩ := InvM_off a.2.1 a.2.2.1 a.2.2.2.1 7 h
                exact ⟨InvM_mono h1 (by omega) (by omega), Int.le_of_eq h2.symm, Int.le_of_eq (off_high _ _ _ _ _).symm⟩
              | false => exact ⟨hm, Int.le_refl _, Int.le_refl _⟩
abbrev twoD (M : LogS) : opatsDen twoQ := ((((), ()), ()), (), (), (((), ()), ()), (), (M.1, (M.2.1, M.2.2.1, (), (), (), (), (), (), M.2.2.2.1, (), ()), ()), M.2.2.2.2, (segsL M, ()), ())
theorem do_val (a : ActD) (M : LogS) {c : Nat} {v : Int} (h : InvM c v M) (hv : 0 ≤ v) (hv2 : v ≤ 1000000) (hc : c ≤ 1000000) (hL : a.2.2.2.2.1.length ≤ 1000000) :
    evFnM 5 (env consDo) H.do2 (LPof []) F.cooperagelaw15_Do [.ptr 0 (.tl 0) 0, .ptr 3 (.tl 0) 0, actAV a.1 a.2.1 a.2.2.1 a.2.2.2.1 a.2.2.2.2.1 a.2.2.2.2.2.1.1 a.2.2.2.2.2.1.2.1 a.2.2.2.2.2.1.2.2.1 a.2.2.2.2.2.1.2.2.2 a.2.2.2.2.2.2] [.arr 1 .bool [] [[.hw 1]], .arr 10 segT M.1 [actW M.2.1 M.2.2.1 M.2.2.2.1 2], .log recT M.2.2.2.2, .arr 1 .bool [] [[.hw 4]], .arr 10 segT (segsL M) []] (finVN .bool twoQ [0, 3] 5) =
      some (true, twoD (doP a M)) := by
  have hM : (M.1, M.2.1, M.2.2.1, M.2.2.2.1, M.2.2.2.2) = M := rfl
  have hok := InvM_ok h (by omega)
  obtain ⟨sm1, sm2, sm3⟩ := InvM_small h (by omega)
  have hlen := InvM_len h
  have hdoc := docB_segs hok (by omega)
  have happ : appB (segsL M) = true := by
    unfold appB
    rw [isL_segs, unL_segs, okB_mono hok (show c ≤ 400000000 by omega), h.size]
    rfl
  have hro : ∀ bs gn by2 su : Int, roffP bs gn by2 su (segsL M) = (segsL (offloadP bs gn by2 su M).1, (offloadP bs gn by2 su M).2) := fun bs gn by2 su => roff_segs bs gn by2 su h.chain
  rw [do_ev, hM]
  unfold doP
  cases a.1 == 0 with
  | true =>
    have p1 : decide (a.2.2.2.2.1.length * 56 ≤ 140737488355328) = true := decide_eq_true (by omega)
    have p2 : decide (a.2.2.2.2.1.length ≤ 200000000) = true := decide_eq_true (by omega)
    rw [p1, p2, okB_mono hok (show c ≤ 500000000 by omega), happ, rhigh_segs, unL_segs]
    simp only [Bool.and_self, cond_true, beq_self_eq_true]
  | false =>
    rw [cond_false, cond_false]
    cases a.1 == 1 with
    | true =>
      rw [decide_eq_true (show M.1.length ≤ 1000000000 by omega), hdoc, rseal_segs]
      rfl
    | false =>
      rw [cond_false, cond_false]
      cases a.1 == 2 with
      | true =>
        have p3 : rclnB (segsL M) = true := by unfold rclnB; rw [hdoc, decide_eq_true (by omega)]; rfl
        rw [decide_eq_true (show M.1.length ≤ 1000000000 by omega), decide_eq_true (show (catG (segsL M)).length ≤ 1048576 by omega), p3, rclean_segs _ _ _ h]
        rfl
      | false =>
        rw [cond_false, cond_false]
        cases a.1 == 3 with
        | true =>
          rw [decide_eq_true sm3, hdoc, rret_segs]
          rfl
        | false =>
          rw [cond_false, cond_false]
          cases a.1 == 4 with
          | true =>
            have g1 := InvM_gen h (by omega) hv2
            have g2 : M.1.all genB = true := by unfold segsL at g1; rw [List.all_append, Bool.and_eq_true] at g1; exact g1.1
            have p4 : decide ((segsL M).length < 1000000000) = true := decide_eq_true (by rw [segsL_len]; have := InvM_num h; omega)
            rw [decide_eq_true sm3, g2, p4, g1, rmg_at _ h.chain, rmerge_segs _ h.chain]
            simp only [Bool.and_self, cond_true, beq_self_eq_true]
          | false =>
            rw [cond_false, cond_false]
            cases a.1 == 5 with
            | true =>
              rw [hdoc, rfnd_segs, sm1, sm2]
              cases hf : (fndP a.2.1 M).2 with
              | false => rfl
              | true =>
                have hl := InvM_fnd h _ hf
                have p5 : decide (List.length (segD (fndP a.2.1 M).1).2.2.2.2.1 ≤ 1000000000) = true := decide_eq_true (by show (fndP a.2.1 M).1.2.2.2.2.1.length ≤ _; omega)
                have hb := bytS_len (fndP a.2.1 M).1.2.2.2.2.1
                have hw : IntKind.i64.wrap (((bytS (fndP a.2.1 M).1.2.2.2.2.1).length : Int) + 1) = ((bytS (fndP a.2.1 M).1.2.2.2.2.1).length : Int) + 1 := wrap64 (by omega) (by omega)
                have q1 : (segD (fndP a.2.1 M).1).2.2.2.2.1 = (fndP a.2.1 M).1.2.2.2.2.1 := rfl
                have q2 : (segD (fndP a.2.1 M).1).1 = (fndP a.2.1 M).1.1 := rfl
                have q3 : (segD (fndP a.2.1 M).1).2.2.2.1 = (fndP a.2.1 M).1.2.2.2.1 := rfl
                rw [p5, q1, q2, q3, hw]
                unfold offSz
                cases a.2.2.2.2.2.2 with
                | true =>
                  simp only [hro, Bool.not_true, cond_false, cond_true, beq_self_eq_true]
                | false =>
                  simp only [hro, Bool.not_false, cond_false, cond_true, beq_self_eq_true]
            | false =>
              rw [cond_false, cond_false]
              cases a.1 == 6 with
              | true =>
                rw [sm1, sm2]
                simp only [hro, cond_true, beq_self_eq_true]
              | false => rfl
end Go.Sim
namespace Go.Sim
set_option linter.unusedSimpArgs false
set_option linter.unusedVariables false
set_option maxRecDepth 10000
noncomputable def doB (LL : List Rec) (M : LogS) (l : List Seg) : Bool := @decide (l = segsL M ∧ InvM 1000000 1000000 M ∧ LL.length ≤ 1000000) (Classical.propDecidable _)
theorem doB_at {LL : List Rec} {M : LogS} {l : List Seg} (h : doB LL M l = true) : l = segsL M ∧ InvM 1000000 1000000 M ∧ LL.length ≤ 1000000 := @of_decide_eq_true _ (Classical.propDecidable _) h
theorem doB_of {LL : List Rec} {M : LogS} {l : List Seg} (h1 : l = segsL M) (h2 : InvM 1000000 1000000 M) (h3 : LL.length ≤ 1000000) : doB LL M l = true := @decide_eq_true _ (Classical.propDecidable _) ⟨h1, h2, h3⟩
noncomputable def caseDo : VCase := ⟨[.lit (.ptr 0 (.tl 0) 0), .lit (.ptr 3 (.tl 0) 0), .agg [.int .i64, .int .i64, .int .i64, .int .i64, .vl recT, .int .i64, .int .i64, .int .i64, .int .i64, .bool]], twoP, .bool, twoQ, fun ⟨_, _, ⟨w, x, y, g, LL, c1, c2, c3, c4, mo, _⟩, _⟩ ⟨_, ⟨f, ⟨b, n, _, _, _, _, _, _, z, _, _⟩, _⟩, rs, _, ⟨l, _⟩, _⟩ =>
  [(doB LL (f, b, n, z, rs) l, (true, ((((), ()), ()), (), (), (((), ()), ()), (), ((doP (w, x, y, g, LL, (c1, c2, c3, c4), mo) (f, b, n, z, rs)).1, ((doP (w, x, y, g, LL, (c1, c2, c3, c4), mo) (f, b, n, z, rs)).2.1, (doP (w, x, y, g, LL, (c1, c2, c3, c4), mo) (f, b, n, z, rs)).2.2.1, (), (), (), (), (), (), (doP (w, x, y, g, LL, (c1, c2, c3, c4), mo) (f, b, n, z, rs)).2.2.2.1, (), ()), ()), (doP (w, x, y, g, LL, (c1, c2, c3, c4), mo) (f, b, n, z, rs)).2.2.2.2, (segsL (doP (w, x, y, g, LL, (c1, c2, c3, c4), mo) (f, b, n, z, rs)), ()), ())))]⟩
theorem do_go (a : ActD) (M : LogS) (l : List Seg) (h : doB a.2.2.2.2.1 M l = true) :
    evFnM 5 (env consDo) H.do2 (LPof []) F.cooperagelaw15_Do [.ptr 0 (.tl 0) 0, .ptr 3 (.tl 0) 0, actAV a.1 a.2.1 a.2.2.1 a.2.2.2.1 a.2.2.2.2.1 a.2.2.2.2.2.1.1 a.2.2.2.2.2.1.2.1 a.2.2.2.2.2.1.2.2.1 a.2.2.2.2.2.1.2.2.2 a.2.2.2.2.2.2] [.arr 1 .bool [] [[.hw 1]], .arr 10 segT M.1 [actW M.2.1 M.2.2.1 M.2.2.2.1 2], .log recT M.2.2.2.2, .arr 1 .bool [] [[.hw 4]], .arr 10 segT l []] (finVN .bool twoQ [0, 3] 5) =
      some (true, twoD (doP a M)) := by
  obtain ⟨rfl, h2, h3⟩ := doB_at h
  exact do_val a M (c := 1000000) h2 (by decide) (by decide) (by decide) h3
theorem do_ok : caseDo.e.ok P0 I.cooperagelaw15_Do := vcase_okN (c := caseDo) (H := H.do2) (E := env consDo) (env_ok consDo_ok) glob0 mixed0 G.cooperagelaw15_Do Bd.cooperagelaw15_Do [0, 3] (by kernel_rfl) noLoops fun ⟨_, _, ⟨w, x, y, g, LL, c1, c2, c3, c4, mo, _⟩, _⟩ ⟨_, ⟨f, ⟨b, n, _, _, _, _, _, _, z, _, _⟩, _⟩, rs, _, ⟨l, _⟩, _⟩ r h hw1 hw2 => by
  obtain ⟨hc, rfl⟩ := pick_pre h
  exact do_go (w, x, y, g, LL, (c1, c2, c3, c4), mo) (f, b, n, z, rs) l hc
/-- What the first i calls leave. -/
def runD (l : List ractT.den) : Nat → LogS
  | 0 => ([], 0, 0, 0, [])
  | i + 1 => doP (l.getD i ractT.zero) (runD l i)
theorem act_small {l : List ractT.den} (hb : (firstFrom (bigA l) 0 l.length).isSome = false) {i : Nat} (hi : i < l.length) : (l.getD i ractT.zero).2.2.2.2.1.length ≤ 12 := by
  have hn : firstFrom (bigA l) 0 l.length = none := by
    cases hf : firstFrom (bigA l) 0 l.length with
    | none => rfl
    | some k => rw [hf] at hb; cases hb
  have hbi := firstFrom_none hn i (Nat.zero_le _) (by omega)
  unfold bigA at hbi
  rw [Bool.or_eq_false_iff] at hbi
  have := of_decide_eq_false hbi.2
  omega
theorem runD_inv {l : List ractT.den} (hl : l.length ≤ 40) (hb : (firstFrom (bigA l) 0 l.length).isSome = false) : ∀ i, i ≤ l.length → InvM ((12 * i : Nat) : Int) ((i : Nat) : Int) (runD l i)
  | 0, _ => InvM_zero
  | i + 1, h => by
    have h1 := runD_inv hl hb i (by omega)
    have h12 := act_small hb (i := i) (by omega)
    have h2 := (InvM_do (c := 12 * i) (v := i) (l.getD i ractT.zero) h1 (by omega) (by omega) (by omega)).1
    exact InvM_mono h2 (by omega) (by omega)
theorem runD_big {l : List ractT.den} (hl : l.length ≤ 40) (hb : (firstFrom (bigA l) 0 l.length).isSome = false) {i : Nat} (h : i ≤ l.length) : InvM 1000000 1000000 (runD l i) := InvM_mono (runD_inv hl hb i h) (by omega) (by omega)
noncomputable abbrev consWB : List (FuncId × Con) := [(I.cooperagelaw15_Do, .eff (effOf [caseDo.e])), (I.cooperageref10_NewLog, .eff (effOf [caseRnew.e])), (I.cooperagelaw15_Big, .pure (pureOf [caseBigA])), (I.segs_Log_Retain, .eff (effOf [caseRetain.e])), (I.cooperageref10_Drop, .pure (pureOf [caseRDrop])), (I.cooperageref10_RightLog, .pure (pureOf [caseRlog])), (I.cooperageref10_SameSegments, .pure (pureOf [caseSsame]))] ++ consD3
theorem consWB_ok : ∀ x ∈ consWB, HoldsC P0 x.1 x.2 := by
  intro x hx
  rcases List.mem_append.1 hx with hx | hx
  · simp at hx
    rcases hx with rfl | rfl | rfl | rfl | rfl | rfl | rfl
    · exact ⟨fun args objs r objs2 h _ => effOf_holds (by simp; exact do_ok) args objs r objs2 h, C.cooperagelaw15_Do⟩
    · exact ⟨fun args objs r objs2 h _ => effOf_holds (by simp; exact rnew_ok) args objs r objs2 h, C.cooperageref10_NewLog⟩
    · exact ⟨pureOf_holds (by simp; exact biga_ok), C.cooperagelaw15_Big⟩
    · exact ⟨fun args objs r objs2 h _ => effOf_holds (by simp; exact retain_ok) args objs r objs2 h, C.segs_Log_Retain⟩
    · exact ⟨pureOf_holds (by simp; exact rdrop_ok), C.cooperageref10_Drop⟩
    · exact ⟨pureOf_holds (by simp; exact rlog_ok), C.cooperageref10_RightLog⟩
    · exact ⟨pureOf_holds (by simp; exact ssame_ok), C.cooperageref10_SameSegments⟩
  · exact consD3_ok x hx
def H.right15 : Hint := { H.cooperagelaw15_SegsRight with join := [(3, 17)] }
theorem sr_rd {R : Type} (l : List ractT.den) (q : Bool) (lo hi i : Int) (f : List Seg) (b n z : Int) (rs : List Rec) (d : List Seg) (K : Ex → St → Option R) : roundK (env consWB) H.right15 0 (LPof []) V.cooperagelaw15_SegsRight_10 L.cooperagelaw15_SegsRight_10 ⟨[(0, .vl ractT l), (2, .bool q), (5, .ptr 0 (.tl 0) 0), (6, .ptr 3 (.tl 0) 0), (7, .int .i64 lo), (8, .int .i64 hi), (9, .int .i64 i)], [(0, .arr 1 .bool [] [[.hw 1]]), (1, .arr 10 segT f [actW b n z 2]), (2, .log recT rs), (3, .arr 1 .bool [] [[.hw 4]]), (4, .arr 10 segT d [])], 5⟩ K = bif decide (i < (↑l.length : Int)) then bif decide ((0 : Int) ≤ i) && decide (i < (↑l.length : Int)) then bif doB (l.getD i.toNat ractT.zero).snd.snd.snd.snd.fst (f, b, n, z, rs) d then bif smallL (doP (l.getD i.toNat ractT.zero) (f, b, n, z, rs)).fst && decide ((doP (l.getD i.toNat ractT.zero) (f, b, n, z, rs)).snd.snd.snd.snd.length ≤ 1000000000) then bif smallL (segsL (doP (l.getD i.toNat ractT.zero) (f, b, n, z, rs))) then bif !rightB (segsL (doP (l.getD i.toNat ractT.zero) (f, b, n, z, rs))) then K Ex.ret { slots := [(0, AV.vl ((Ty.int IntKind.i64).pair ((Ty.int IntKind.i64).pair ((Ty.int IntKind.i64).pair ((Ty.int IntKind.i64).pair (recTy.sl.pair (confTy.pair Ty.bool)))))) l), (2, AV.bool false), (5, AV.ptr 0 (Elt.tl 0) 0), (6, AV.ptr 3 (Elt.tl 0) 0), (7, AV.int IntKind.i64 lo), (8, AV.int IntKind.i64 hi), (9, AV.int IntKind.i64 i)], objs := [(0, AObj.arr 1 Ty.bool [] [[AV.hw 1]]), (1, AObj.arr 10 segTy (doP (l.getD i.toNat ractT.zero) (f, b, n, z, rs)).fst [[AV.int IntKind.i64 (doP (l.getD i.toNat ractT.zero) (f, b, n, z, rs)).snd.fst, AV.int IntKind.i64 (doP (l.getD i.toNat ractT.zero) (f, b, n, z, rs)).snd.snd.fst, AV.int IntKind.i64 (0 : Int), AV.int IntKind.i64 (0 : Int), AV.hw 2, AV.bool false, AV.bool false, AV.bool false, AV.int IntKind.i64 (doP (l.getD i.toNat ractT.zero) (f, b, n, z, rs)).snd.snd.snd.fst, AV.int IntKind.u32 (0 : Int)]]), (2, AObj.log recTy (doP (l.getD i.toNat ractT.zero) (f, b, n, z, rs)).snd.snd.snd.snd), (3, AObj.arr 1 Ty.bool [] [[AV.hw 4]]), (4, AObj.arr 10 segTy (segsL (doP (l.getD i.toNat ractT.zero) (f, b, n, z, rs))) [])], nx := 5 } else bif decide (lowP (doP (l.getD i.toNat ractT.zero) (f, b, n, z, rs)) < lo) then K Ex.ret { slots := [(0, AV.vl ((Ty.int IntKind.i64).pair ((Ty.int IntKind.i64).pair ((Ty.int IntKind.i64).pair ((Ty.int IntKind.i64).pair (recTy.sl.pair (confTy.pair Ty.bool)))))) l), (2, AV.bool false), (5, AV.ptr 0 (Elt.tl 0) 0), (6, AV.ptr 3 (Elt.tl 0) 0), (7, AV.int IntKind.i64 lo), (8, AV.int IntKind.i64 hi), (9, AV.int IntKind.i64 i)], objs := [(0, AObj.arr 1 Ty.bool [] [[AV.hw 1]]), (1, AObj.arr 10 segTy (doP (l.getD i.toNat ractT.zero) (f, b, n, z, rs)).fst [[AV.int IntKind.i64 (doP (l.getD i.toNat ractT.zero) (f, b, n, z, rs)).snd.fst, AV.int IntKind.i64 (doP (l.getD i.toNat ractT.zero) (f, b, n, z, rs)).snd.snd.fst, AV.int IntKind.i64 (0 : Int), AV.int IntKind.i64 (0 : Int), AV.hw 2, AV.bool false, AV.bool false, AV.bool false, AV.int IntKind.i64 (doP (l.getD i.toNat ractT.zero) (f, b, n, z, rs)).snd.snd.snd.fst, AV.int IntKind.u32 (0 : Int)]]), (2, AObj.log recTy (doP (l.getD i.toNat ractT.zero) (f, b, n, z, rs)).snd.snd.snd.snd), (3, AObj.arr 1 Ty.bool [] [[AV.hw 4]]), (4, AObj.arr 10 segTy (segsL (doP (l.getD i.toNat ractT.zero) (f, b, n, z, rs))) [])], nx := 5 } else bif decide ((doP (l.getD i.toNat ractT.zero) (f, b, n, z, rs)).fst.length ≤ 1000000000) then bif decide ((doP (l.getD i.toNat ractT.zero) (f, b, n, z, rs)).snd.snd.fst < hi) then K Ex.ret { slots := [(0, AV.vl ((Ty.int IntKind.i64).pair ((Ty.int IntKind.i64).pair ((Ty.int IntKind.i64).pair ((Ty.int IntKind.i64).pair (recTy.sl.pair (confTy.pair Ty.bool)))))) l), (2, AV.bool false), (5, AV.ptr 0 (Elt.tl 0) 0), (6, AV.ptr 3 (Elt.tl 0) 0), (7, AV.int IntKind.i64 lo), (8, AV.int IntKind.i64 hi), (9, AV.int IntKind.i64 i)], objs := [(0, AObj.arr 1 Ty.bool [] [[AV.hw 1]]), (1, AObj.arr 10 segTy (doP (l.getD i.toNat ractT.zero) (f, b, n, z, rs)).fst [[AV.int IntKind.i64 (doP (l.getD i.toNat ractT.zero) (f, b, n, z, rs)).snd.fst, AV.int IntKind.i64 (doP (l.getD i.toNat ractT.zero) (f, b, n, z, rs)).snd.snd.fst, AV.int IntKind.i64 (0 : Int), AV.int IntKind.i64 (0 : Int), AV.hw 2, AV.bool false, AV.bool false, AV.bool false, AV.int IntKind.i64 (doP (l.getD i.toNat ractT.zero) (f, b, n, z, rs)).snd.snd.snd.fst, AV.int IntKind.u32 (0 : Int)]]), (2, AObj.log recTy (doP (l.getD i.toNat ractT.zero) (f, b, n, z, rs)).snd.snd.snd.snd), (3, AObj.arr 1 Ty.bool [] [[AV.hw 4]]), (4, AObj.arr 10 segTy (segsL (doP (l.getD i.toNat ractT.zero) (f, b, n, z, rs))) [])], nx := 5 } else bif decide ((doP (l.getD i.toNat ractT.zero) (f, b, n, z, rs)).fst.length ≤ 1000000000) then K Ex.normal { slots := [(0, AV.vl ((Ty.int IntKind.i64).pair ((Ty.int IntKind.i64).pair ((Ty.int IntKind.i64).pair ((Ty.int IntKind.i64).pair (recTy.sl.pair (confTy.pair Ty.bool)))))) l), (2, AV.bool q), (5, AV.ptr 0 (Elt.tl 0) 0), (6, AV.ptr 3 (Elt.tl 0) 0), (7, AV.int IntKind.i64 (lowP (doP (l.getD i.toNat ractT.zero) (f, b, n, z, rs)))), (8, AV.int IntKind.i64 (doP (l.getD i.toNat ractT.zero) (f, b, n, z, rs)).snd.snd.fst), (9, AV.int IntKind.i64 (IntKind.i64.wrap (i + (1 : Int))))], objs := [(0, AObj.arr 1 Ty.bool [] [[AV.hw 1]]), (1, AObj.arr 10 segTy (doP (l.getD i.toNat ractT.zero) (f, b, n, z, rs)).fst [[AV.int IntKind.i64 (doP (l.getD i.toNat ractT.zero) (f, b, n, z, rs)).snd.fst, AV.int IntKind.i64 (doP (l.getD i.toNat ractT.zero) (f, b, n, z, rs)).snd.snd.fst, AV.int IntKind.i64 (0 : Int), AV.int IntKind.i64 (0 : Int), AV.hw 2, AV.bool false, AV.bool false, AV.bool false, AV.int IntKind.i64 (doP (l.getD i.toNat ractT.zero) (f, b, n, z, rs)).snd.snd.snd.fst, AV.int IntKind.u32 (0 : Int)]]), (2, AObj.log recTy (doP (l.getD i.toNat ractT.zero) (f, b, n, z, rs)).snd.snd.snd.snd), (3, AObj.arr 1 Ty.bool [] [[AV.hw 4]]), (4, AObj.arr 10 segTy (segsL (doP (l.getD i.toNat ractT.zero) (f, b, n, z, rs))) [])], nx := 5 } else none else none else none else none else none else none else K (Ex.exit 0) { slots := [(0, AV.vl ((Ty.int IntKind.i64).pair ((Ty.int IntKind.i64).pair ((Ty.int IntKind.i64).pair ((Ty.int IntKind.i64).pair (recTy.sl.pair (confTy.pair Ty.bool)))))) l), (2, AV.bool q), (5, AV.ptr 0 (Elt.tl 0) 0), (6, AV.ptr 3 (Elt.tl 0) 0), (7, AV.int IntKind.i64 lo), (8, AV.int IntKind.i64 hi), (9, AV.int IntKind.i64 i)], objs := [(0, AObj.arr 1 Ty.bool [] [[AV.hw 1]]), (1, AObj.arr 10 segTy f [[AV.int IntKind.i64 b, AV.int IntKind.i64 n, AV.int IntKind.i64 (0 : Int), AV.int IntKind.i64 (0 : Int), AV.hw 2, AV.bool false, AV.bool false, AV.bool false, AV.int IntKind.i64 z, AV.int IntKind.u32 (0 : Int)]]), (2, AObj.log recTy rs), (3, AObj.arr 1 Ty.bool [] [[AV.hw 4]]), (4, AObj.arr 10 segTy d [])], nx := 5 } := by kernel_rfl
abbrev twoO (M : LogS) : List (Nat × AObj) := [(0, .arr 1 .bool [] [[.hw 1]]), (1, .arr 10 segT M.1 [actW M.2.1 M.2.2.1 M.2.2.2.1 2]), (2, .log recT M.2.2.2.2), (3, .arr 1 .bool [] [[.hw 4]]), (4, .arr 10 segT (segsL M) [])]
def srSt (l : List ractT.den) (q : Bool) (i : Nat) : St := ⟨[(0, .vl ractT l), (2, .bool q), (5, .ptr 0 (.tl 0) 0), (6, .ptr 3 (.tl 0) 0), (7, .int .i64 (lowP (runD l i))), (8, .int .i64 (runD l i).2.2.1), (9, .int .i64 i)], twoO (runD l i), 5⟩
theorem sr_round {R : Type} (l : List ractT.den) (q : Bool) (hl : l.length ≤ 40) (hb : (firstFrom (bigA l) 0 l.length).isSome = false) (i : Nat) (hi : i < l.length) (K : Ex → St → Option R) :
    roundK (env consWB) H.right15 0 (LPof []) V.cooperagelaw15_SegsRight_10 L.cooperagelaw15_SegsRight_10 (srSt l q i) K = K .normal (srSt l q (i + 1)) := by
  have hM : ((runD l i).1, (runD l i).2.1, (runD l i).2.2.1, (runD l i).2.2.2.1, (runD l i).2.2.2.2) = runD l i := rfl
  have h12 := act_small hb hi
  have hinv := runD_inv hl hb i (by omega)
  have hnext := runD_inv hl hb (i + 1) (by omega)
  have hstep : doP (l.getD i ractT.zero) (runD l i) = runD l (i + 1) := rfl
  have hmono := (InvM_do (c := 12 * i) (v := i) (l.getD i ractT.zero) hinv (by omega) (by omega) (by omega)).2
  rw [hstep] at hmono
  obtain ⟨s1, s2, s3⟩ := InvM_small hnext (by omega)
  have hok := okB_iff.1 (InvM_ok hnext (by omega))
  have e1 : IntKind.i64.wrap ((i : Int) + 1) = ((i + 1 : Nat) : Int) := by rw [wrap64 (by omega) (by omega)]; omega
  have p1 : decide ((runD l (i + 1)).2.2.2.2.length ≤ 1000000000) = true := decide_eq_true (by omega)
  have p2 : decide (lowP (runD l (i + 1)) < lowP (runD l i)) = false := decide_eq_false (by omega)
  have p3 : decide ((runD l (i + 1)).2.2.1 < (runD l i).2.2.1) = false := decide_eq_false (by omega)
  have p4 : decide ((runD l (i + 1)).1.length ≤ 1000000000) = true := decide_eq_true (by omega)
  refine (sr_rd _ _ _ _ _ _ _ _ _ _ _ _).trans ?_
  rw [cond_pos (by omega), cond_pos2 (by omega) (by omega), Int.toNat_natCast, hM, doB_of rfl (runD_big hl hb (by omega)) (by omega), hstep, e1, s2, p1, s1, InvM_right hnext (by omega), p2, p3, p4]
  rfl
theorem sr_rounds {R : Type} (l : List ractT.den) (q : Bool) (hl : l.length ≤ 40) (hb : (firstFrom (bigA l) 0 l.length).isSome = false) (K : Ex → St → Option R) : ∀ (m i : Nat), i + m = l.length →
    rounds (env consWB) H.right15 0 (LPof []) V.cooperagelaw15_SegsRight_10 L.cooperagelaw15_SegsRight_10 (m + 1) (srSt l q i) K = K (.exit 0) (srSt l q l.length)
  | 0, i, h => by
    obtain rfl : i = l.length := by omega
    rw [rounds_succ']
    refine (sr_rd _ _ _ _ _ _ _ _ _ _ _ _).trans ?_
    rw [cond_neg (by omega)]
    rfl
  | m + 1, i, h => by
    have ih := sr_rounds l q hl hb K m (i + 1) (by omega)
    rw [rounds_succ']
    exact (sr_round l q hl hb i (by omega) _).trans ih
abbrev srLC : LoopC := LoopC.of ⟨[(0, .vl ractT), (2, .bool), (5, .lit (.ptr 0 (.tl 0) 0)), (6, .lit (.ptr 3 (.tl 0) 0)), (7, .int .i64), (8, .int .i64), (9, .int .i64)], twoP⟩
  (fun ⟨⟨l, q, _, _, lo, hi, i, _⟩, ⟨_, ⟨f, ⟨b, n, _, _, _, _, _, _, z, _, _⟩, _⟩, rs, _, ⟨d, _⟩, _⟩⟩ => decide (i = (0 : Int)) && decide (lo = (0 : Int)) && decide (hi = (0 : Int)) && decide (List.length l ≤ 40) && !(firstFrom (bigA l) 0 (List.length l)).isSome && decide ((f, b, n, z, rs) = (([], 0, 0, 0, []) : LogS)) && decide (d = [segTy.zero]))
  fun ⟨⟨l, q, _, _, lo, hi, i, _⟩, ⟨_, ⟨f, ⟨b, n, _, _, _, _, _, _, z, _, _⟩, _⟩, rs, _, ⟨d, _⟩, _⟩⟩ => [(true, .exit 0, srSt l q (List.length l))]
theorem sr_go (l : List ractT.den) (q : Bool) (lo hi i : Int) (M : LogS) (d : List Seg) (h1 : i = 0) (h2 : lo = 0) (h3 : hi = 0) (h4 : l.length ≤ 40) (h5 : (firstFrom (bigA l) 0 l.length).isSome = false) (h6 : M = ([], 0, 0, 0, [])) (h7 : d = [segTy.zero]) :
    ∃ m, rounds (env consWB) H.right15 0 (LPof []) V.cooperagelaw15_SegsRight_10 L.cooperagelaw15_SegsRight_10 m ⟨[(0, .vl ractT l), (2, .bool q), (5, .ptr 0 (.tl 0) 0), (6, .ptr 3 (.tl 0) 0), (7, .int .i64 lo), (8, .int .i64 hi), (9, .int .i64 i)], [(0, .arr 1 .bool [] [[.hw 1]]), (1, .arr 10 segT M.1 [actW M.2.1 M.2.2.1 M.2.2.2.1 2]), (2, .log recT M.2.2.2.2), (3, .arr 1 .bool [] [[.hw 4]]), (4, .arr 10 segT d [])], 5⟩ (fun e s => some (e, s)) = some (.exit 0, srSt l q l.length) := by
  subst h1 h2 h3 h6 h7
  exact ⟨_, sr_rounds l q h4 h5 _ l.length 0 (Nat.zero_add _)⟩
theorem sr_lok : LoopOK P0 H.right15 0 L.cooperagelaw15_SegsRight_10 srLC :=
  loop_ok_of (env_ok consWB_ok) glob0 mixed0 noLoops V.cooperagelaw15_SegsRight_10 (by decide) fun ⟨⟨l, q, _, _, lo, hi, i, _⟩, ⟨_, ⟨f, ⟨b, n, _, _, _, _, _, _, z, _, _⟩, _⟩, rs, _, ⟨d, _⟩, _⟩⟩ h hw => by
    simp only [Bool.and_eq_true, decide_eq_true_eq, Bool.not_eq_true'] at h
    obtain ⟨⟨⟨⟨⟨⟨h1, h2⟩, h3⟩, h4⟩, h5⟩, h6⟩, h7⟩ := h
    exact sr_go l q lo hi i (f, b, n, z, rs) d h1 h2 h3 h4 h5 h6 h7
theorem sright_ev (l : List ractT.den) : evFn (env consWB) H.right15 (LPof [(10, srLC)]) F.cooperagelaw15_SegsRight [.vl ractT l] [] (finT [.bool]) = bif bigAct l then some (true, ()) else bif decide (l.length ≤ 40) && !(firstFrom (bigA l) 0 l.length).isSome && true && true && true then some (true, ()) else none := by kernel_rfl
theorem bigAct_no {l : List ractT.den} (h : bigAct l = false) : l.length ≤ 40 ∧ (firstFrom (bigA l) 0 l.length).isSome = false := by
  unfold bigAct at h
  rw [Bool.or_eq_false_iff, Bool.or_eq_false_iff] at h
  obtain ⟨b1, b2, b3⟩ := h
  have := of_decide_eq_false b2
  exact ⟨by omega, b1⟩
def caseSright : PCase := ⟨[.ty (.sl ractT)], [.bool], fun x => [(true, (true, ()))]⟩
theorem sright_val (l : List ractT.den) : evFn (env consWB) H.right15 (LPof [(10, srLC)]) F.cooperagelaw15_SegsRight [.vl ractT l] [] (finT [.bool]) = some (true, ()) := by
  rw [sright_ev]
  cases hb : bigAct l with
  | true => rfl
  | false =>
    obtain ⟨b1, b2⟩ := bigAct_no hb
    rw [decide_eq_true b1, b2]
    rfl
theorem sright_ok : caseSright.ok P0 I.cooperagelaw15_SegsRight := case_ok2 (H := H.right15) (E := env consWB) (env_ok consWB_ok) glob0 mixed0 G.cooperagelaw15_SegsRight Bd.cooperagelaw15_SegsRight (by kernel_rfl) (loops_good (tab := [(10, srLC)]) (by kernel_rfl) (fun x hx => by simp at hx; subst hx; exact sr_lok)) fun ⟨l, ()⟩ y h hw => by
  obtain ⟨hc, rfl⟩ := pick_pre h
  exact sright_val l
theorem sright_good (x : tysDen [.sl ractT]) (hw : tysWf [.sl ractT] x) : ∃ o, EffGood P0 I.cooperagelaw15_SegsRight (valsOf [.sl ractT] x) [] (.bool true) o := sright_ok x (true, ()) rfl hw
end Go.Sim
