/-
  WkX5: StateOnce: the inner loop. · WkX6: StateOnce: the outer loop. · WkX7: the law StateOnce. · LdN: what the rows say of the tables of package utf8 holds of the tables of PlTab.
-/
import Derived.Test.YtpkobajkogcmkaaGreatDoorRows
import Derived.OpenShut
import Derived.MakeChecks
import Derived.FnData
import Derived.Test.YtpkobajkogcmkaaGreatDoorPartF
namespace Go.Sim
set_option linter.unusedSimpArgs false
set_option linter.unusedVariables false
set_option maxRecDepth 10000
open Go.Sim.XU
theorem ask_new (p : Int) : askL [] p 0 = (0, 0) := rfl
theorem has_one (p s o : Int) : hasL [(p, s, o)] p = true := by simp [hasL, posL, atL]
theorem pos_one (p s o : Int) : posL [(p, s, o)] p = 0 := by simp [posL]
theorem ask_same (p s o : Int) : askL [(p, s, o)] p s = (1, o) := by
  unfold askL
  rw [has_one, pos_one]
  simp [atL]
theorem ask_next (p s o t : Int) (h : t = s + 1) : askL [(p, s, o)] p t = (0, 0) := by
  unfold askL
  rw [has_one, pos_one]
  have e1 : (s == t) = false := by simp; omega
  have e2 : decide (s < t) = true := decide_eq_true (by omega)
  have e3 : (s == t - 1) = true := by simp; omega
  simp [atL, e1, e2, e3]
theorem ask_far (p s o t : Int) (h : t = s + 2) : askL [(p, s, o)] p t = (2, 0) := by
  unfold askL
  rw [has_one, pos_one]
  have e1 : (s == t) = false := by simp; omega
  have e3 : (s == t - 1) = false := by simp; omega
  simp [atL, e1, e3]
theorem set_one (p s o t u : Int) : setL [(p, s, o)] (p, t, u) = ([(p, t, u)], 0) := by
  unfold setL
  simp only [has_one, pos_one, cond_true]
  rfl
/-- A batch of a producer. -/
abbrev cmdO (pid sq : Int) (l : List Rec) : Cmd := ((1 : Int), pid, sq, l, [], (0 : Int), (0 : Int), (0 : Int), (0 : Int), (0 : Int), (0 : Int), (0 : Int), (0 : Int))
theorem right_one (pid sq : Int) (l : List Rec) : rightC (cmdO pid sq l) = (withinB pid 0 1099511627776 && (withinB sq 0 1099511627776 && ((decide (pid > 0) || sq == 0) && recsB l))) := by
  unfold rightC
  have : plainC (cmdO pid sq l) = true := by unfold plainC; simp
  rw [this]
  rfl
theorem right_seq {pid sq : Int} {l : List Rec} (h : rightC (cmdO pid 0 l) = true) (hp : 1 ≤ pid) (h1 : 0 ≤ sq) (h2 : sq ≤ 1000) : rightC (cmdO pid sq l) = true := by
  rw [right_one] at h ⊢
  simp only [Bool.and_eq_true] at h ⊢
  refine ⟨h.1, ?_, ?_, h.2.2.2⟩
  · unfold withinB; simp; omega
  · rw [decide_eq_true (show pid > 0 by omega)]; rfl
theorem recs_ok {l : List Rec} (h : recsB l = true) : (1 ≤ l.length ∧ l.length ≤ 50) ∧ ∀ r ∈ l, r.1 = 0 ∧ recR (0, r.2) = true := by
  unfold recsB withinB at h
  simp only [Bool.and_eq_true, decide_eq_true_eq, Bool.not_eq_true', List.any_eq_false] at h
  refine ⟨by omega, fun r hr => ?_⟩
  have := h.2 r hr
  unfold badR1 at this
  simp only [Bool.or_eq_true, not_or, Bool.not_eq_true, bne_eq_false_iff_eq, Bool.not_eq_false'] at this
  obtain ⟨o, t⟩ := r
  simp only at this
  obtain ⟨rfl, h2⟩ := this
  exact ⟨rfl, h2⟩
theorem apR_next {most : Int} {L : LogS} {r : Rec} (h : recR (0, r.2) = true) : (apR most L r).2.2.1 = L.2.2.1 + 1 := by
  unfold apR
  rw [h, cond_true]
  cases decide (L.2.2.1 + 1 - L.2.1 ≥ mxI most) with
  | true => rw [cond_true, sealP_next]; rfl
  | false => rfl
theorem apR_low (most : Int) (L : LogS) (r : Rec) : lowP (apR most L r) = lowP L := by
  unfold apR
  cases recR (0, r.2) with
  | false => rfl
  | true =>
    rw [cond_true]
    cases decide (L.2.2.1 + 1 - L.2.1 ≥ mxI most) with
    | true => rw [cond_true, lowP_seal]; rfl
    | false => rfl
theorem apL_low (most : Int) (l : List Rec) (L : LogS) : ∀ k, lowP (apL most l L k) = lowP L
  | 0 => rfl
  | k + 1 => (apR_low most _ _).trans (apL_low most l L k)
theorem apL_next {most : Int} {l : List Rec} (h : ∀ r ∈ l, recR (0, r.2) = true) (L : LogS) : ∀ k, k ≤ l.length → (apL most l L k).2.2.1 = L.2.2.1 + (k : Int)
  | 0, _ => by simp [apL]
  | k + 1, hk => by
    have hr : l.getD k recTy.zero ∈ l := by
      rw [List.getD_eq_getElem?_getD, List.getElem?_eq_getElem (by omega)]
      exact List.getElem_mem (by omega)
    show (apR most (apL most l L k) (l.getD k recTy.zero)).2.2.1 = _
    rw [apR_next (h _ hr), apL_next h L k (by omega)]
    omega
def mO (ag : List Int) (i : Nat) : Nat := (BitVec.ofInt 64 (ag.getD i 0) &&& BitVec.ofInt 64 3).toNat
theorem mO_le (ag : List Int) (i : Nat) : mO ag i ≤ 3 := by
  unfold mO
  rw [BitVec.toNat_and]
  exact Nat.and_le_right
theorem mO_wrap (ag : List Int) (i : Nat) : IntKind.i64.wrap ((BitVec.ofInt 64 (ag.getD i (0 : Int)) &&& BitVec.ofInt 64 (3 : Int)).toNat : Int) = (mO ag i : Int) := by
  have h := mO_le ag i
  unfold mO at h ⊢
  exact wrap64 (by omega) (by omega)
abbrev oSl (l : List Rec) (ag : List Int) (q : Bool) (wn i k : Int) : Slots := [(1, .vl recT l), (2, .vl (.int .i64) ag), (6, .bool q), (8, .ptr 0 (.tl 0) 0), (10, .ptr 1 (.tl 0) 0), (11, .int .i64 wn), (12, .int .i64 i), (13, .int .i64 k)]
/-- The first of a producer's batches. -/
theorem o13_first {R : Type} (l l2 : List Rec) (ag : List Int) (pid wn : Int) (i : Nat) (q : Bool) (M : LogS) (hi : i < ag.length) (hr : rightC (cmdO pid 0 l) = true) (hp : 1 ≤ pid) (hl : l.length ≤ 50) (hok : okB 500000000 M = true) (hn : M.2.2.1 = wn) (K : Ex → St → Option R) :
    roundK (env consX4) H.onc2 0 (LPof []) V.cooperagelaw16_StateOnce_13 L.cooperagelaw16_StateOnce_13 ⟨oSl l2 ag q wn i 0, onN pid 0 l M, 7⟩ K = K .normal ⟨oSl l2 ag q wn i 1, onR pid 0 l (apL 100 l M l.length) [(pid, 0, wn)], 8⟩ := by
  obtain ⟨f, b, n, z, rs⟩ := M
  obtain ⟨h1, h2, h3, h4, h5, h6, h7, h9⟩ := okB_iff.1 hok
  simp only at h1 h2 h3 h4 h5 h6 h7 hn
  subst hn
  refine (o13n_rd l l2 ag pid 0 n i 0 q f b n z rs K).trans ?_
  have hm := mO_le ag i
  rw [cond_pos2 (by omega) (by omega), Int.toNat_natCast, mO_wrap, cond_pos (by omega), hr, ask_new]
  have e1 : (n != n) = false := by simp
  rw [cond_pos (show f.length ≤ 1000000000 by omega), decide_eq_true (show l.length ≤ 200000000 by omega), hok, e1, cond_pos (show pid > 0 by omega)]
  rfl
/-- A batch that is there. -/
theorem o13_same {R : Type} (l l2 : List Rec) (ag : List Int) (pid sq wn : Int) (i k : Nat) (q : Bool) (M : LogS) (hi : i < ag.length) (hk : k ≤ mO ag i) (hr : rightC (cmdO pid sq l) = true) (hp : 1 ≤ pid) (K : Ex → St → Option R) :
    roundK (env consX4) H.onc2 0 (LPof []) V.cooperagelaw16_StateOnce_13 L.cooperagelaw16_StateOnce_13 ⟨oSl l2 ag q wn i k, onR pid sq l M [(pid, sq, wn)], 8⟩ K = K .normal ⟨oSl l2 ag q wn i (k + 1 : Nat), onR pid sq l M [(pid, sq, wn)], 8⟩ := by
  obtain ⟨f, b, n, z, rs⟩ := M
  refine (o13r_rd l l2 ag pid sq wn i k q f b n z rs [(pid, sq, wn)] K).trans ?_
  have hm := mO_le ag i
  have e1 : (wn != wn) = false := by simp
  have e2 : IntKind.i64.wrap ((k : Int) + 1) = ((k + 1 : Nat) : Int) := by rw [wrap64 (by omega) (by omega)]; omega
  rw [cond_pos2 (by omega) (by omega), Int.toNat_natCast, mO_wrap, cond_pos (by omega), hr, ask_same, e1, e2, cond_pos (show pid > 0 by omega)]
  rfl
/-- The next batch of a producer. -/
theorem o13_next {R : Type} (l l2 : List Rec) (ag : List Int) (pid sq o wn : Int) (i : Nat) (q : Bool) (M : LogS) (hi : i < ag.length) (hr : rightC (cmdO pid sq l) = true) (hp : 1 ≤ pid) (hl : l.length ≤ 50) (hok : okB 500000000 M = true) (hn : M.2.2.1 = wn) (K : Ex → St → Option R) :
    roundK (env consX4) H.onc2 0 (LPof []) V.cooperagelaw16_StateOnce_13 L.cooperagelaw16_StateOnce_13 ⟨oSl l2 ag q wn i 0, onR pid sq l M [(pid, sq - 1, o)], 8⟩ K = K .normal ⟨oSl l2 ag q wn i 1, onR pid sq l (apL 100 l M l.length) [(pid, sq, wn)], 8⟩ := by
  obtain ⟨f, b, n, z, rs⟩ := M
  obtain ⟨h1, h2, h3, h4, h5, h6, h7, h9⟩ := okB_iff.1 hok
  simp only at h1 h2 h3 h4 h5 h6 h7 hn
  subst hn
  refine (o13r_rd l l2 ag pid sq n i 0 q f b n z rs [(pid, sq - 1, o)] K).trans ?_
  have hm := mO_le ag i
  have e1 : (n != n) = false := by simp
  rw [cond_pos2 (by omega) (by omega), Int.toNat_natCast, mO_wrap, cond_pos (by omega), hr, ask_next pid (sq - 1) o sq (by omega), has_one, set_one]
  rw [cond_pos (show f.length ≤ 1000000000 by omega), decide_eq_true (show l.length ≤ 200000000 by omega), hok, e1, cond_pos (show pid > 0 by omega)]
  rfl
theorem o13_exit {R : Type} (l l2 : List Rec) (ag : List Int) (pid sq wn : Int) (i k : Nat) (q : Bool) (M : LogS) (ps : List Row3) (hi : i < ag.length) (hk : k = mO ag i + 1) (K : Ex → St → Option R) :
    roundK (env consX4) H.onc2 0 (LPof []) V.cooperagelaw16_StateOnce_13 L.cooperagelaw16_StateOnce_13 ⟨oSl l2 ag q wn i k, onR pid sq l M ps, 8⟩ K = K (.exit 2) ⟨oSl l2 ag q wn i k, onR pid sq l M ps, 8⟩ := by
  obtain ⟨f, b, n, z, rs⟩ := M
  refine (o13r_rd l l2 ag pid sq wn i k q f b n z rs ps K).trans ?_
  rw [cond_pos2 (by omega) (by omega), Int.toNat_natCast, mO_wrap, cond_neg (by omega)]
theorem o13_rest {R : Type} (l l2 : List Rec) (ag : List Int) (pid sq wn : Int) (i : Nat) (q : Bool) (M : LogS) (hi : i < ag.length) (hr : rightC (cmdO pid sq l) = true) (hp : 1 ≤ pid) (K : Ex → St → Option R) : ∀ (m k : Nat), k + m = mO ag i + 1 →
    rounds (env consX4) H.onc2 0 (LPof []) V.cooperagelaw16_StateOnce_13 L.cooperagelaw16_StateOnce_13 (m + 1) ⟨oSl l2 ag q wn i k, onR pid sq l M [(pid, sq, wn)], 8⟩ K = K (.exit 2) ⟨oSl l2 ag q wn i (mO ag i + 1 : Nat), onR pid sq l M [(pid, sq, wn)], 8⟩
  | 0, k, h => by
    rw [rounds_succ']
    obtain rfl : k = mO ag i + 1 := by omega
    exact o13_exit l l2 ag pid sq wn i _ q M _ hi rfl _
  | m + 1, k, h => by
    rw [rounds_succ']
    refine (o13_same l l2 ag pid sq wn i k q M hi (by omega) hr hp _).trans ?_
    exact o13_rest l l2 ag pid sq wn i q M hi hr hp K m (k + 1) (by omega)
abbrev oSP : List (Nat × Pat) := [(1, .vl recT), (2, .vl (.int .i64)), (6, .bool), (8, .lit (.ptr 0 (.tl 0) 0)), (10, .lit (.ptr 1 (.tl 0) 0)), (11, .int .i64), (12, .int .i64), (13, .int .i64)]
abbrev o13nLC : LoopC := LoopC.of ⟨oSP, onNP⟩
  (fun ⟨⟨l2, ag, q, _, _, wn, i, k, _⟩, ⟨⟨_, pid, sq, l, _⟩, _⟩, _, _, ⟨f, ⟨b, n, _, _, _, _, _, _, z, _, _⟩, _⟩, rs, _⟩ => decide (k = (0 : Int)) && decide (sq = (0 : Int)) && decide ((0 : Int) ≤ i) && decide (i < (List.length ag : Int)) && decide ((1 : Int) ≤ pid) && rightC (cmdO pid 0 l) && decide (List.length l ≤ 50) && okB 500000000 (f, b, n, z, rs) && decide (n = wn))
  fun ⟨⟨l2, ag, q, _, _, wn, i, k, _⟩, ⟨⟨_, pid, sq, l, _⟩, _⟩, _, _, ⟨f, ⟨b, n, _, _, _, _, _, _, z, _, _⟩, _⟩, rs, _⟩ => [(true, .exit 2, ⟨oSl l2 ag q wn i (mO ag i.toNat + 1 : Nat), onR pid 0 l (apL 100 l (f, b, n, z, rs) (List.length l)) [(pid, 0, wn)], 8⟩)]
theorem o13n_go {R : Type} (l l2 : List Rec) (ag : List Int) (pid wn i k sq : Int) (q : Bool) (M : LogS) (hk : k = 0) (hsq : sq = 0) (h0 : 0 ≤ i) (hi : i < (ag.length : Int)) (hp : 1 ≤ pid) (hr : rightC (cmdO pid 0 l) = true) (hl : l.length ≤ 50) (hok : okB 500000000 M = true) (hn : M.2.2.1 = wn) (K : Ex → St → Option R) :
    ∃ c, rounds (env consX4) H.onc2 0 (LPof []) V.cooperagelaw16_StateOnce_13 L.cooperagelaw16_StateOnce_13 c ⟨oSl l2 ag q wn i k, onN pid sq l M, 7⟩ K = K (.exit 2) ⟨oSl l2 ag q wn i (mO ag i.toNat + 1 : Nat), onR pid 0 l (apL 100 l M l.length) [(pid, 0, wn)], 8⟩ := by
  subst hk hsq
  obtain ⟨j, rfl⟩ := Int.eq_ofNat_of_zero_le h0
  refine ⟨mO ag j + 1 + 1, ?_⟩
  rw [rounds_succ']
  refine (o13_first l l2 ag pid wn j q M (by omega) hr hp hl hok hn _).trans ?_
  exact o13_rest l l2 ag pid 0 wn j q _ (by omega) hr hp K (mO ag j) 1 (by omega)
theorem o13n_lok : LoopOK P0 H.onc2 0 L.cooperagelaw16_StateOnce_13 o13nLC :=
  loop_ok_of (env_ok consX4_ok) glob0 mixed0 noLoops V.cooperagelaw16_StateOnce_13 (by decide) fun ⟨⟨l2, ag, q, _, _, wn, i, k, _⟩, ⟨⟨_, pid, sq, l, _⟩, _⟩, _, _, ⟨f, ⟨b, n, _, _, _, _, _, _, z, _, _⟩, _⟩, rs, _⟩ h hw => by
    simp only [Bool.and_eq_true, decide_eq_true_eq] at h
    obtain ⟨⟨⟨⟨⟨⟨⟨⟨h1, h2⟩, h3⟩, h4⟩, h5⟩, h6⟩, h7⟩, h8⟩, h9⟩ := h
    exact o13n_go l l2 ag pid wn i k sq q (f, b, n, z, rs) h1 h2 h3 h4 h5 h6 h7 h8 h9 _
abbrev o13rLC : LoopC := LoopC.of ⟨oSP, onRP⟩
  (fun ⟨⟨l2, ag, q, _, _, wn, i, k, _⟩, ⟨⟨_, pid, sq, l, _⟩, _⟩, _, _, ⟨f, ⟨b, n, _, _, _, _, _, _, z, _, _⟩, _⟩, rs, _, _, ⟨ps, _⟩, _⟩ => decide (k = (0 : Int)) && decide ((0 : Int) ≤ i) && decide (i < (List.length ag : Int)) && decide ((1 : Int) ≤ pid) && rightC (cmdO pid sq l) && decide (List.length l ≤ 50) && okB 500000000 (f, b, n, z, rs) && decide (n = wn) && decide (ps = [(pid, sq - 1, (atL ps 0).2.2)]))
  fun ⟨⟨l2, ag, q, _, _, wn, i, k, _⟩, ⟨⟨_, pid, sq, l, _⟩, _⟩, _, _, ⟨f, ⟨b, n, _, _, _, _, _, _, z, _, _⟩, _⟩, rs, _, _, ⟨ps, _⟩, _⟩ => [(true, .exit 2, ⟨oSl l2 ag q wn i (mO ag i.toNat + 1 : Nat), onR pid sq l (apL 100 l (f, b, n, z, rs) (List.length l)) [(pid, sq, wn)], 8⟩)]
theorem o13r_go {R : Type} (l l2 : List Rec) (ag : List Int) (pid wn i k sq : Int) (q : Bool) (M : LogS) (ps : List Row3) (hk : k = 0) (h0 : 0 ≤ i) (hi : i < (ag.length : Int)) (hp : 1 ≤ pid) (hr : rightC (cmdO pid sq l) = true) (hl : l.length ≤ 50) (hok : okB 500000000 M = true) (hn : M.2.2.1 = wn) (hps : ps = [(pid, sq - 1, (atL ps 0).2.2)]) (K : Ex → St → Option R) :
    ∃ c, rounds (env consX4) H.onc2 0 (LPof []) V.cooperagelaw16_StateOnce_13 L.cooperagelaw16_StateOnce_13 c ⟨oSl l2 ag q wn i k, onR pid sq l M ps, 8⟩ K = K (.exit 2) ⟨oSl l2 ag q wn i (mO ag i.toNat + 1 : Nat), onR pid sq l (apL 100 l M l.length) [(pid, sq, wn)], 8⟩ := by
  subst hk
  obtain ⟨j, rfl⟩ := Int.eq_ofNat_of_zero_le h0
  rw [hps]
  refine ⟨mO ag j + 1 + 1, ?_⟩
  rw [rounds_succ']
  refine (o13_next l l2 ag pid sq _ wn j q M (by omega) hr hp hl hok hn _).trans ?_
  exact o13_rest l l2 ag pid sq wn j q _ (by omega) hr hp K (mO ag j) 1 (by omega)
theorem o13r_lok : LoopOK P0 H.onc2 0 L.cooperagelaw16_StateOnce_13 o13rLC :=
  loop_ok_of (env_ok consX4_ok) glob0 mixed0 noLoops V.cooperagelaw16_StateOnce_13 (by decide) fun ⟨⟨l2, ag, q, _, _, wn, i, k, _⟩, ⟨⟨_, pid, sq, l, _⟩, _⟩, _, _, ⟨f, ⟨b, n, _, _, _, _, _, _, z, _, _⟩, _⟩, rs, _, _, ⟨ps, _⟩, _⟩ h hw => by
    simp only [Bool.and_eq_true, decide_eq_true_eq] at h
    obtain ⟨⟨⟨⟨⟨⟨⟨⟨h1, h3⟩, h4⟩, h5⟩, h6⟩, h7⟩, h8⟩, h9⟩, h10⟩ := h
    exact o13r_go l l2 ag pid wn i k sq q (f, b, n, z, rs) ps h1 h3 h4 h5 h6 h7 h8 h9 h10 _
end Go.Sim
namespace Go.Sim
set_option linter.unusedSimpArgs false
set_option linter.unusedVariables false
set_option maxRecDepth 10000
open Go.Sim.XU
theorem o9n_rd {R : Type} (l l2 : List Rec) (ag : List Int) (pid sq wn i : Int) (q : Bool) (f : List Seg) (b n z : Int) (rs : List Rec) (K : Ex → St → Option R) : roundK (env consX4) H.onc2 0 (LPs [(13, [o13nLC, o13rLC])]) V.cooperagelaw16_StateOnce_9 L.cooperagelaw16_StateOnce_9 ⟨[(1, .vl recT l2), (2, .vl (.int .i64) ag), (6, .bool q), (8, .ptr 0 (.tl 0) 0), (10, .ptr 1 (.tl 0) 0), (11, .int .i64 wn), (12, .int .i64 i)], onN pid sq l (f, b, n, z, rs), 7⟩ K = bif decide (i < (↑ag.length : Int)) then bif decide (i = (0 : Int)) && decide ((0 : Int) ≤ i) && decide (i < (↑ag.length : Int)) && decide ((1 : Int) ≤ pid) && rightC (cmdO pid (0 : Int) l) && decide (l.length ≤ 50) && okB 500000000 (f, b, n, z, rs) && decide (n = wn) && true then bif !rightC ((1 : Int), pid, IntKind.i64.wrap (i + (2 : Int)), l, [], (0 : Int), (0 : Int), (0 : Int), (0 : Int), (0 : Int), (0 : Int), (0 : Int), (0 : Int)) then K Ex.ret { slots := [(1, AV.vl recTy l2), (2, AV.vl (Ty.int IntKind.i64) ag), (6, AV.bool false), (8, AV.ptr 0 (Elt.tl 0) 0), (10, AV.ptr 1 (Elt.tl 0) 0), (11, AV.int IntKind.i64 (IntKind.i64.wrap (wn + (↑l2.length : Int)))), (12, AV.int IntKind.i64 i)], objs := [(0, AObj.arr 13 Ty.bool [] [[AV.int IntKind.i64 (1 : Int), AV.int IntKind.i64 pid, AV.int IntKind.i64 (IntKind.i64.wrap (i + (2 : Int))), AV.vl recTy l, AV.str [], AV.int IntKind.i64 (0 : Int), AV.int IntKind.i64 (0 : Int), AV.int IntKind.i64 (0 : Int), AV.int IntKind.u32 (0 : Int), AV.int IntKind.i64 (0 : Int), AV.int IntKind.i64 (0 : Int), AV.int IntKind.i64 (0 : Int), AV.int IntKind.i64 (0 : Int)]]), (1, AObj.arr 7 Ty.bool [] [[AV.ptr 2 (Elt.tl 0) 0, AV.int IntKind.i64 (100 : Int), AV.int IntKind.i64 (0 : Int), AV.int IntKind.i64 (0 : Int), AV.int IntKind.i64 (0 : Int), AV.ptr 5 (Elt.tl 0) 0, AV.ptr 6 (Elt.tl 0) 0]]), (2, AObj.arr 1 Ty.bool [] [[AV.hw 3]]), (3, AObj.arr 10 segTy (apL (100 : Int) l (f, b, n, z, rs) l.length).fst [[AV.int IntKind.i64 (apL (100 : Int) l (f, b, n, z, rs) l.length).snd.fst, AV.int IntKind.i64 (apL (100 : Int) l (f, b, n, z, rs) l.length).snd.snd.fst, AV.int IntKind.i64 (0 : Int), AV.int IntKind.i64 (0 : Int), AV.hw 4, AV.bool false, AV.bool false, AV.bool false, AV.int IntKind.i64 (apL (100 : Int) l (f, b, n, z, rs) l.length).snd.snd.snd.fst, AV.int IntKind.u32 (0 : Int)]]), (4, AObj.log recTy (apL (100 : Int) l (f, b, n, z, rs) l.length).snd.snd.snd.snd), (5, AObj.arr 1 Ty.bool [] [[AV.nils]]), (6, AObj.arr 1 Ty.bool [] [[AV.hw 7]]), (7, AObj.arr 3 ((Ty.int IntKind.i64).pair ((Ty.int IntKind.i64).pair (Ty.int IntKind.i64))) [(pid, (0 : Int), wn)] [])], nx := 8 } else bif decide (pid > (0 : Int)) then bif (askL [(pid, (0 : Int), wn)] pid (IntKind.i64.wrap (i + (2 : Int)))).fst == (1 : Int) then K Ex.ret { slots := [(1, AV.vl recTy l2), (2, AV.vl (Ty.int IntKind.i64) ag), (6, AV.bool false), (8, AV.ptr 0 (Elt.tl 0) 0), (10, AV.ptr 1 (Elt.tl 0) 0), (11, AV.int IntKind.i64 (IntKind.i64.wrap (wn + (↑l2.length : Int)))), (12, AV.int IntKind.i64 i)], objs := [(0, AObj.arr 13 Ty.bool [] [[AV.int IntKind.i64 (1 : Int), AV.int IntKind.i64 pid, AV.int IntKind.i64 (IntKind.i64.wrap (i + (2 : Int))), AV.vl recTy l, AV.str [], AV.int IntKind.i64 (0 : Int), AV.int IntKind.i64 (0 : Int), AV.int IntKind.i64 (0 : Int), AV.int IntKind.u32 (0 : Int), AV.int IntKind.i64 (0 : Int), AV.int IntKind.i64 (0 : Int), AV.int IntKind.i64 (0 : Int), AV.int IntKind.i64 (0 : Int)]]), (1, AObj.arr 7 Ty.bool [] [[AV.ptr 2 (Elt.tl 0) 0, AV.int IntKind.i64 (100 : Int), AV.int IntKind.i64 (0 : Int), AV.int IntKind.i64 (0 : Int), AV.int IntKind.i64 (0 : Int), AV.ptr 5 (Elt.tl 0) 0, AV.ptr 6 (Elt.tl 0) 0]]), (2, AObj.arr 1 Ty.bool [] [[AV.hw 3]]), (3, AObj.arr 10 segTy (apL (100 : Int) l (f, b, n, z, rs) l.length).fst [[AV.int IntKind.i64 (apL (100 : Int) l (f, b, n, z, rs) l.length).snd.fst, AV.int IntKind.i64 (apL (100 : Int) l (f, b, n, z, rs) l.length).snd.snd.fst, AV.int IntKind.i64 (0 : Int), AV.int IntKind.i64 (0 : Int), AV.hw 4, AV.bool false, AV.bool false, AV.bool false, AV.int IntKind.i64 (apL (100 : Int) l (f, b, n, z, rs) l.length).snd.snd.snd.fst, AV.int IntKind.u32 (0 : Int)]]), (4, AObj.log recTy (apL (100 : Int) l (f, b, n, z, rs) l.length).snd.snd.snd.snd), (5, AObj.arr 1 Ty.bool [] [[AV.nils]]), (6, AObj.arr 1 Ty.bool [] [[AV.hw 7]]), (7, AObj.arr 3 ((Ty.int IntKind.i64).pair ((Ty.int IntKind.i64).pair (Ty.int IntKind.i64))) [(pid, (0 : Int), wn)] [])], nx := 8 } else bif (askL [(pid, (0 : Int), wn)] pid (IntKind.i64.wrap (i + (2 : Int)))).fst == (2 : Int) then K Ex.normal { slots := [(1, AV.vl recTy l2), (2, AV.vl (Ty.int IntKind.i64) ag), (6, AV.bool q), (8, AV.ptr 0 (Elt.tl 0) 0), (10, AV.ptr 1 (Elt.tl 0) 0), (11, AV.int IntKind.i64 (IntKind.i64.wrap (wn + (↑l2.length : Int)))), (12, AV.int IntKind.i64 (IntKind.i64.wrap (i + (1 : Int))))], objs := [(0, AObj.arr 13 Ty.bool [] [[AV.int IntKind.i64 (1 : Int), AV.int IntKind.i64 pid, AV.int IntKind.i64 (IntKind.i64.wrap (i + (2 : Int))), AV.vl recTy l, AV.str [], AV.int IntKind.i64 (0 : Int), AV.int IntKind.i64 (0 : Int), AV.int IntKind.i64 (0 : Int), AV.int IntKind.u32 (0 : Int), AV.int IntKind.i64 (0 : Int), AV.int IntKind.i64 (0 : Int), AV.int IntKind.i64 (0 : Int), AV.int IntKind.i64 (0 : Int)]]), (1, AObj.arr 7 Ty.bool [] [[AV.ptr 2 (Elt.tl 0) 0, AV.int IntKind.i64 (100 : Int), AV.int IntKind.i64 (0 : Int), AV.int IntKind.i64 (0 : Int), AV.int IntKind.i64 (0 : Int), AV.ptr 5 (Elt.tl 0) 0, AV.ptr 6 (Elt.tl 0) 0]]), (2, AObj.arr 1 Ty.bool [] [[AV.hw 3]]), (3, AObj.arr 10 segTy (apL (100 : Int) l (f, b, n, z, rs) l.length).fst [[AV.int IntKind.i64 (apL (100 : Int) l (f, b, n, z, rs) l.length).snd.fst, AV.int IntKind.i64 (apL (100 : Int) l (f, b, n, z, rs) l.length).snd.snd.fst, AV.int IntKind.i64 (0 : Int), AV.int IntKind.i64 (0 : Int), AV.hw 4, AV.bool false, AV.bool false, AV.bool false, AV.int IntKind.i64 (apL (100 : Int) l (f, b, n, z, rs) l.length).snd.snd.snd.fst, AV.int IntKind.u32 (0 : Int)]]), (4, AObj.log recTy (apL (100 : Int) l (f, b, n, z, rs) l.length).snd.snd.snd.snd), (5, AObj.arr 1 Ty.bool [] [[AV.nils]]), (6, AObj.arr 1 Ty.bool [] [[AV.hw 7]]), (7, AObj.arr 3 ((Ty.int IntKind.i64).pair ((Ty.int IntKind.i64).pair (Ty.int IntKind.i64))) [(pid, (0 : Int), wn)] [])], nx := 8 } else bif decide ((apL (100 : Int) l (f, b, n, z, rs) l.length).fst.length ≤ 1000000000) then bif sortedL [(pid, (0 : Int), wn)] && true && (hasL [(pid, (0 : Int), wn)] pid || false) then bif (setL [(pid, (0 : Int), wn)] (pid, IntKind.i64.wrap (i + (2 : Int)), (apL (100 : Int) l (f, b, n, z, rs) l.length).snd.snd.fst)).snd != (0 : Int) then bif (setL [(pid, (0 : Int), wn)] (pid, IntKind.i64.wrap (i + (2 : Int)), (apL (100 : Int) l (f, b, n, z, rs) l.length).snd.snd.fst)).snd != (12 : Int) then K Ex.ret { slots := [(1, AV.vl recTy l2), (2, AV.vl (Ty.int IntKind.i64) ag), (6, AV.bool false), (8, AV.ptr 0 (Elt.tl 0) 0), (10, AV.ptr 1 (Elt.tl 0) 0), (11, AV.int IntKind.i64 (IntKind.i64.wrap (wn + (↑l2.length : Int)))), (12, AV.int IntKind.i64 i)], objs := [(0, AObj.arr 13 Ty.bool [] [[AV.int IntKind.i64 (1 : Int), AV.int IntKind.i64 pid, AV.int IntKind.i64 (IntKind.i64.wrap (i + (2 : Int))), AV.vl recTy l, AV.str [], AV.int IntKind.i64 (0 : Int), AV.int IntKind.i64 (0 : Int), AV.int IntKind.i64 (0 : Int), AV.int IntKind.u32 (0 : Int), AV.int IntKind.i64 (0 : Int), AV.int IntKind.i64 (0 : Int), AV.int IntKind.i64 (0 : Int), AV.int IntKind.i64 (0 : Int)]]), (1, AObj.arr 7 Ty.bool [] [[AV.ptr 2 (Elt.tl 0) 0, AV.int IntKind.i64 (100 : Int), AV.int IntKind.i64 (0 : Int), AV.int IntKind.i64 (0 : Int), AV.int IntKind.i64 (0 : Int), AV.ptr 5 (Elt.tl 0) 0, AV.ptr 6 (Elt.tl 0) 0]]), (2, AObj.arr 1 Ty.bool [] [[AV.hw 3]]), (3, AObj.arr 10 segTy (apL (100 : Int) l (f, b, n, z, rs) l.length).fst [[AV.int IntKind.i64 (apL (100 : Int) l (f, b, n, z, rs) l.length).snd.fst, AV.int IntKind.i64 (apL (100 : Int) l (f, b, n, z, rs) l.length).snd.snd.fst, AV.int IntKind.i64 (0 : Int), AV.int IntKind.i64 (0 : Int), AV.hw 4, AV.bool false, AV.bool false, AV.bool false, AV.int IntKind.i64 (apL (100 : Int) l (f, b, n, z, rs) l.length).snd.snd.snd.fst, AV.int IntKind.u32 (0 : Int)]]), (4, AObj.log recTy (apL (100 : Int) l (f, b, n, z, rs) l.length).snd.snd.snd.snd), (5, AObj.arr 1 Ty.bool [] [[AV.nils]]), (6, AObj.arr 1 Ty.bool [] [[AV.hw 7]]), (7, AObj.arr 3 ((Ty.int IntKind.i64).pair ((Ty.int IntKind.i64).pair (Ty.int IntKind.i64))) (setL [(pid, (0 : Int), wn)] (pid, IntKind.i64.wrap (i + (2 : Int)), (apL (100 : Int) l (f, b, n, z, rs) l.length).snd.snd.fst)).fst [])], nx := 8 } else K Ex.normal { slots := [(1, AV.vl recTy l2), (2, AV.vl (Ty.int IntKind.i64) ag), (6, AV.bool q), (8, AV.ptr 0 (Elt.tl 0) 0), (10, AV.ptr 1 (Elt.tl 0) 0), (11, AV.int IntKind.i64 (IntKind.i64.wrap (wn + (↑l2.length : Int)))), (12, AV.int IntKind.i64 (IntKind.i64.wrap (i + (1 : Int))))], objs := [(0, AObj.arr 13 Ty.bool [] [[AV.int IntKind.i64 (1 : Int), AV.int IntKind.i64 pid, AV.int IntKind.i64 (IntKind.i64.wrap (i + (2 : Int))), AV.vl recTy l, AV.str [], AV.int IntKind.i64 (0 : Int), AV.int IntKind.i64 (0 : Int), AV.int IntKind.i64 (0 : Int), AV.int IntKind.u32 (0 : Int), AV.int IntKind.i64 (0 : Int), AV.int IntKind.i64 (0 : Int), AV.int IntKind.i64 (0 : Int), AV.int IntKind.i64 (0 : Int)]]), (1, AObj.arr 7 Ty.bool [] [[AV.ptr 2 (Elt.tl 0) 0, AV.int IntKind.i64 (100 : Int), AV.int IntKind.i64 (0 : Int), AV.int IntKind.i64 (0 : Int), AV.int IntKind.i64 (0 : Int), AV.ptr 5 (Elt.tl 0) 0, AV.ptr 6 (Elt.tl 0) 0]]), (2, AObj.arr 1 Ty.bool [] [[AV.hw 3]]), (3, AObj.arr 10 segTy (apL (100 : Int) l (f, b, n, z, rs) l.length).fst [[AV.int IntKind.i64 (apL (100 : Int) l (f, b, n, z, rs) l.length).snd.fst, AV.int IntKind.i64 (apL (100 : Int) l (f, b, n, z, rs) l.length).snd.snd.fst, AV.int IntKind.i64 (0 : Int), AV.int IntKind.i64 (0 : Int), AV.hw 4, AV.bool false, AV.bool false, AV.bool false, AV.int IntKind.i64 (apL (100 : Int) l (f, b, n, z, rs) l.length).snd.snd.snd.fst, AV.int IntKind.u32 (0 : Int)]]), (4, AObj.log recTy (apL (100 : Int) l (f, b, n, z, rs) l.length).snd.snd.snd.snd), (5, AObj.arr 1 Ty.bool [] [[AV.nils]]), (6, AObj.arr 1 Ty.bool [] [[AV.hw 7]]), (7, AObj.arr 3 ((Ty.int IntKind.i64).pair ((Ty.int IntKind.i64).pair (Ty.int IntKind.i64))) (setL [(pid, (0 : Int), wn)] (pid, IntKind.i64.wrap (i + (2 : Int)), (apL (100 : Int) l (f, b, n, z, rs) l.length).snd.snd.fst)).fst [])], nx := 8 } else bif decide (l.length ≤ 200000000) && okB 500000000 (apL (100 : Int) l (f, b, n, z, rs) l.length) then K Ex.ret { slots := [(1, AV.vl recTy l2), (2, AV.vl (Ty.int IntKind.i64) ag), (6, AV.bool false), (8, AV.ptr 0 (Elt.tl 0) 0), (10, AV.ptr 1 (Elt.tl 0) 0), (11, AV.int IntKind.i64 (IntKind.i64.wrap (wn + (↑l2.length : Int)))), (12, AV.int IntKind.i64 i)], objs := [(0, AObj.arr 13 Ty.bool [] [[AV.int IntKind.i64 (1 : Int), AV.int IntKind.i64 pid, AV.int IntKind.i64 (IntKind.i64.wrap (i + (2 : Int))), AV.vl recTy l, AV.str [], AV.int IntKind.i64 (0 : Int), AV.int IntKind.i64 (0 : Int), AV.int IntKind.i64 (0 : Int), AV.int IntKind.u32 (0 : Int), AV.int IntKind.i64 (0 : Int), AV.int IntKind.i64 (0 : Int), AV.int IntKind.i64 (0 : Int), AV.int IntKind.i64 (0 : Int)]]), (1, AObj.arr 7 Ty.bool [] [[AV.ptr 2 (Elt.tl 0) 0, AV.int IntKind.i64 (100 : Int), AV.int IntKind.i64 (0 : Int), AV.int IntKind.i64 (0 : Int), AV.int IntKind.i64 (0 : Int), AV.ptr 5 (Elt.tl 0) 0, AV.ptr 6 (Elt.tl 0) 0]]), (2, AObj.arr 1 Ty.bool [] [[AV.hw 3]]), (3, AObj.arr 10 segTy (apL (100 : Int) l (apL (100 : Int) l (f, b, n, z, rs) l.length) l.length).fst [[AV.int IntKind.i64 (apL (100 : Int) l (apL (100 : Int) l (f, b, n, z, rs) l.length) l.length).snd.fst, AV.int IntKind.i64 (apL (100 : Int) l (apL (100 : Int) l (f, b, n, z, rs) l.length) l.length).snd.snd.fst, AV.int IntKind.i64 (0 : Int), AV.int IntKind.i64 (0 : Int), AV.hw 4, AV.bool false, AV.bool false, AV.bool false, AV.int IntKind.i64 (apL (100 : Int) l (apL (100 : Int) l (f, b, n, z, rs) l.length) l.length).snd.snd.snd.fst, AV.int IntKind.u32 (0 : Int)]]), (4, AObj.log recTy (apL (100 : Int) l (apL (100 : Int) l (f, b, n, z, rs) l.length) l.length).snd.snd.snd.snd), (5, AObj.arr 1 Ty.bool [] [[AV.nils]]), (6, AObj.arr 1 Ty.bool [] [[AV.hw 7]]), (7, AObj.arr 3 ((Ty.int IntKind.i64).pair ((Ty.int IntKind.i64).pair (Ty.int IntKind.i64))) (setL [(pid, (0 : Int), wn)] (pid, IntKind.i64.wrap (i + (2 : Int)), (apL (100 : Int) l (f, b, n, z, rs) l.length).snd.snd.fst)).fst [])], nx := 8 } else none else none else none else bif decide (l.length ≤ 200000000) && okB 500000000 (apL (100 : Int) l (f, b, n, z, rs) l.length) then K Ex.ret { slots := [(1, AV.vl recTy l2), (2, AV.vl (Ty.int IntKind.i64) ag), (6, AV.bool false), (8, AV.ptr 0 (Elt.tl 0) 0), (10, AV.ptr 1 (Elt.tl 0) 0), (11, AV.int IntKind.i64 (IntKind.i64.wrap (wn + (↑l2.length : Int)))), (12, AV.int IntKind.i64 i)], objs := [(0, AObj.arr 13 Ty.bool [] [[AV.int IntKind.i64 (1 : Int), AV.int IntKind.i64 pid, AV.int IntKind.i64 (IntKind.i64.wrap (i + (2 : Int))), AV.vl recTy l, AV.str [], AV.int IntKind.i64 (0 : Int), AV.int IntKind.i64 (0 : Int), AV.int IntKind.i64 (0 : Int), AV.int IntKind.u32 (0 : Int), AV.int IntKind.i64 (0 : Int), AV.int IntKind.i64 (0 : Int), AV.int IntKind.i64 (0 : Int), AV.int IntKind.i64 (0 : Int)]]), (1, AObj.arr 7 Ty.bool [] [[AV.ptr 2 (Elt.tl 0) 0, AV.int IntKind.i64 (100 : Int), AV.int IntKind.i64 (0 : Int), AV.int IntKind.i64 (0 : Int), AV.int IntKind.i64 (0 : Int), AV.ptr 5 (Elt.tl 0) 0, AV.ptr 6 (Elt.tl 0) 0]]), (2, AObj.arr 1 Ty.bool [] [[AV.hw 3]]), (3, AObj.arr 10 segTy (apL (100 : Int) l (apL (100 : Int) l (f, b, n, z, rs) l.length) l.length).fst [[AV.int IntKind.i64 (apL (100 : Int) l (apL (100 : Int) l (f, b, n, z, rs) l.length) l.length).snd.fst, AV.int IntKind.i64 (apL (100 : Int) l (apL (100 : Int) l (f, b, n, z, rs) l.length) l.length).snd.snd.fst, AV.int IntKind.i64 (0 : Int), AV.int IntKind.i64 (0 : Int), AV.hw 4, AV.bool false, AV.bool false, AV.bool false, AV.int IntKind.i64 (apL (100 : Int) l (apL (100 : Int) l (f, b, n, z, rs) l.length) l.length).snd.snd.snd.fst, AV.int IntKind.u32 (0 : Int)]]), (4, AObj.log recTy (apL (100 : Int) l (apL (100 : Int) l (f, b, n, z, rs) l.length) l.length).snd.snd.snd.snd), (5, AObj.arr 1 Ty.bool [] [[AV.nils]]), (6, AObj.arr 1 Ty.bool [] [[AV.hw 7]]), (7, AObj.arr 3 ((Ty.int IntKind.i64).pair ((Ty.int IntKind.i64).pair (Ty.int IntKind.i64))) [(pid, (0 : Int), wn)] [])], nx := 8 } else none else none else K (Ex.exit 0) { slots := [(1, AV.vl recTy l2), (2, AV.vl (Ty.int IntKind.i64) ag), (6, AV.bool q), (8, AV.ptr 0 (Elt.tl 0) 0), (10, AV.ptr 1 (Elt.tl 0) 0), (11, AV.int IntKind.i64 wn), (12, AV.int IntKind.i64 i)], objs := [(0, AObj.arr 13 Ty.bool [] [[AV.int IntKind.i64 (1 : Int), AV.int IntKind.i64 pid, AV.int IntKind.i64 sq, AV.vl recTy l, AV.str [], AV.int IntKind.i64 (0 : Int), AV.int IntKind.i64 (0 : Int), AV.int IntKind.i64 (0 : Int), AV.int IntKind.u32 (0 : Int), AV.int IntKind.i64 (0 : Int), AV.int IntKind.i64 (0 : Int), AV.int IntKind.i64 (0 : Int), AV.int IntKind.i64 (0 : Int)]]), (1, AObj.arr 7 Ty.bool [] [[AV.ptr 2 (Elt.tl 0) 0, AV.int IntKind.i64 (100 : Int), AV.int IntKind.i64 (0 : Int), AV.int IntKind.i64 (0 : Int), AV.int IntKind.i64 (0 : Int), AV.ptr 5 (Elt.tl 0) 0, AV.ptr 6 (Elt.tl 0) 0]]), (2, AObj.arr 1 Ty.bool [] [[AV.hw 3]]), (3, AObj.arr 10 segTy f [[AV.int IntKind.i64 b, AV.int IntKind.i64 n, AV.int IntKind.i64 (0 : Int), AV.int IntKind.i64 (0 : Int), AV.hw 4, AV.bool false, AV.bool false, AV.bool false, AV.int IntKind.i64 z, AV.int IntKind.u32 (0 : Int)]]), (4, AObj.log recTy rs), (5, AObj.arr 1 Ty.bool [] [[AV.nils]]), (6, AObj.arr 1 Ty.bool [] [[AV.nils]])], nx := 7 } := by kernel_rfl

theorem o9r_rd {R : Type} (l l2 : List Rec) (ag : List Int) (pid sq wn i : Int) (q : Bool) (f : List Seg) (b n z : Int) (rs : List Rec) (ps : List Row3) (K : Ex → St → Option R) : roundK (env consX4) H.onc2 0 (LPs [(13, [o13nLC, o13rLC])]) V.cooperagelaw16_StateOnce_9 L.cooperagelaw16_StateOnce_9 ⟨[(1, .vl recT l2), (2, .vl (.int .i64) ag), (6, .bool q), (8, .ptr 0 (.tl 0) 0), (10, .ptr 1 (.tl 0) 0), (11, .int .i64 wn), (12, .int .i64 i)], onR pid sq l (f, b, n, z, rs) ps, 8⟩ K = bif decide (i < (↑ag.length : Int)) then bif decide ((0 : Int) ≤ i) && decide (i < (↑ag.length : Int)) && decide ((1 : Int) ≤ pid) && rightC (cmdO pid i l) && decide (l.length ≤ 50) && okB 500000000 (f, b, n, z, rs) && decide (n = wn) && decide (ps = [(pid, i - (1 : (Pat.int IntKind.i64).den), (atL ps 0).snd.snd)]) && true then bif !rightC ((1 : Int), pid, IntKind.i64.wrap (i + (2 : Int)), l, [], (0 : Int), (0 : Int), (0 : Int), (0 : Int), (0 : Int), (0 : Int), (0 : Int), (0 : Int)) then K Ex.ret { slots := [(1, AV.vl recTy l2), (2, AV.vl (Ty.int IntKind.i64) ag), (6, AV.bool false), (8, AV.ptr 0 (Elt.tl 0) 0), (10, AV.ptr 1 (Elt.tl 0) 0), (11, AV.int IntKind.i64 (IntKind.i64.wrap (wn + (↑l2.length : Int)))), (12, AV.int IntKind.i64 i)], objs := [(0, AObj.arr 13 Ty.bool [] [[AV.int IntKind.i64 (1 : Int), AV.int IntKind.i64 pid, AV.int IntKind.i64 (IntKind.i64.wrap (i + (2 : Int))), AV.vl recTy l, AV.str [], AV.int IntKind.i64 (0 : Int), AV.int IntKind.i64 (0 : Int), AV.int IntKind.i64 (0 : Int), AV.int IntKind.u32 (0 : Int), AV.int IntKind.i64 (0 : Int), AV.int IntKind.i64 (0 : Int), AV.int IntKind.i64 (0 : Int), AV.int IntKind.i64 (0 : Int)]]), (1, AObj.arr 7 Ty.bool [] [[AV.ptr 2 (Elt.tl 0) 0, AV.int IntKind.i64 (100 : Int), AV.int IntKind.i64 (0 : Int), AV.int IntKind.i64 (0 : Int), AV.int IntKind.i64 (0 : Int), AV.ptr 5 (Elt.tl 0) 0, AV.ptr 6 (Elt.tl 0) 0]]), (2, AObj.arr 1 Ty.bool [] [[AV.hw 3]]), (3, AObj.arr 10 segTy (apL (100 : Int) l (f, b, n, z, rs) l.length).fst [[AV.int IntKind.i64 (apL (100 : Int) l (f, b, n, z, rs) l.length).snd.fst, AV.int IntKind.i64 (apL (100 : Int) l (f, b, n, z, rs) l.length).snd.snd.fst, AV.int IntKind.i64 (0 : Int), AV.int IntKind.i64 (0 : Int), AV.hw 4, AV.bool false, AV.bool false, AV.bool false, AV.int IntKind.i64 (apL (100 : Int) l (f, b, n, z, rs) l.length).snd.snd.snd.fst, AV.int IntKind.u32 (0 : Int)]]), (4, AObj.log recTy (apL (100 : Int) l (f, b, n, z, rs) l.length).snd.snd.snd.snd), (5, AObj.arr 1 Ty.bool [] [[AV.nils]]), (6, AObj.arr 1 Ty.bool [] [[AV.hw 7]]), (7, AObj.arr 3 ((Ty.int IntKind.i64).pair ((Ty.int IntKind.i64).pair (Ty.int IntKind.i64))) [(pid, i, wn)] [])], nx := 8 } else bif decide (pid > (0 : Int)) then bif (askL [(pid, i, wn)] pid (IntKind.i64.wrap (i + (2 : Int)))).fst == (1 : Int) then K Ex.ret { slots := [(1, AV.vl recTy l2), (2, AV.vl (Ty.int IntKind.i64) ag), (6, AV.bool false), (8, AV.ptr 0 (Elt.tl 0) 0), (10, AV.ptr 1 (Elt.tl 0) 0), (11, AV.int IntKind.i64 (IntKind.i64.wrap (wn + (↑l2.length : Int)))), (12, AV.int IntKind.i64 i)], objs := [(0, AObj.arr 13 Ty.bool [] [[AV.int IntKind.i64 (1 : Int), AV.int IntKind.i64 pid, AV.int IntKind.i64 (IntKind.i64.wrap (i + (2 : Int))), AV.vl recTy l, AV.str [], AV.int IntKind.i64 (0 : Int), AV.int IntKind.i64 (0 : Int), AV.int IntKind.i64 (0 : Int), AV.int IntKind.u32 (0 : Int), AV.int IntKind.i64 (0 : Int), AV.int IntKind.i64 (0 : Int), AV.int IntKind.i64 (0 : Int), AV.int IntKind.i64 (0 : Int)]]), (1, AObj.arr 7 Ty.bool [] [[AV.ptr 2 (Elt.tl 0) 0, AV.int IntKind.i64 (100 : Int), AV.int IntKind.i64 (0 : Int), AV.int IntKind.i64 (0 : Int), AV.int IntKind.i64 (0 : Int), AV.ptr 5 (Elt.tl 0) 0, AV.ptr 6 (Elt.tl 0) 0]]), (2, AObj.arr 1 Ty.bool [] [[AV.hw 3]]), (3, AObj.arr 10 segTy (apL (100 : Int) l (f, b, n, z, rs) l.length).fst [[AV.int IntKind.i64 (apL (100 : Int) l (f, b, n, z, rs) l.length).snd.fst, AV.int IntKind.i64 (apL (100 : Int) l (f, b, n, z, rs) l.length).snd.snd.fst, AV.int IntKind.i64 (0 : Int), AV.int IntKind.i64 (0 : Int), AV.hw 4, AV.bool false, AV.bool false, AV.bool false, AV.int IntKind.i64 (apL (100 : Int) l (f, b, n, z, rs) l.length).snd.snd.snd.fst, AV.int IntKind.u32 (0 : Int)]]), (4, AObj.log recTy (apL (100 : Int) l (f, b, n, z, rs) l.length).snd.snd.snd.snd), (5, AObj.arr 1 Ty.bool [] [[AV.nils]]), (6, AObj.arr 1 Ty.bool [] [[AV.hw 7]]), (7, AObj.arr 3 ((Ty.int IntKind.i64).pair ((Ty.int IntKind.i64).pair (Ty.int IntKind.i64))) [(pid, i, wn)] [])], nx := 8 } else bif (askL [(pid, i, wn)] pid (IntKind.i64.wrap (i + (2 : Int)))).fst == (2 : Int) then K Ex.normal { slots := [(1, AV.vl recTy l2), (2, AV.vl (Ty.int IntKind.i64) ag), (6, AV.bool q), (8, AV.ptr 0 (Elt.tl 0) 0), (10, AV.ptr 1 (Elt.tl 0) 0), (11, AV.int IntKind.i64 (IntKind.i64.wrap (wn + (↑l2.length : Int)))), (12, AV.int IntKind.i64 (IntKind.i64.wrap (i + (1 : Int))))], objs := [(0, AObj.arr 13 Ty.bool [] [[AV.int IntKind.i64 (1 : Int), AV.int IntKind.i64 pid, AV.int IntKind.i64 (IntKind.i64.wrap (i + (2 : Int))), AV.vl recTy l, AV.str [], AV.int IntKind.i64 (0 : Int), AV.int IntKind.i64 (0 : Int), AV.int IntKind.i64 (0 : Int), AV.int IntKind.u32 (0 : Int), AV.int IntKind.i64 (0 : Int), AV.int IntKind.i64 (0 : Int), AV.int IntKind.i64 (0 : Int), AV.int IntKind.i64 (0 : Int)]]), (1, AObj.arr 7 Ty.bool [] [[AV.ptr 2 (Elt.tl 0) 0, AV.int IntKind.i64 (100 : Int), AV.int IntKind.i64 (0 : Int), AV.int IntKind.i64 (0 : Int), AV.int IntKind.i64 (0 : Int), AV.ptr 5 (Elt.tl 0) 0, AV.ptr 6 (Elt.tl 0) 0]]), (2, AObj.arr 1 Ty.bool [] [[AV.hw 3]]), (3, AObj.arr 10 segTy (apL (100 : Int) l (f, b, n, z, rs) l.length).fst [[AV.int IntKind.i64 (apL (100 : Int) l (f, b, n, z, rs) l.length).snd.fst, AV.int IntKind.i64 (apL (100 : Int) l (f, b, n, z, rs) l.length).snd.snd.fst, AV.int IntKind.i64 (0 : Int), AV.int IntKind.i64 (0 : Int), AV.hw 4, AV.bool false, AV.bool false, AV.bool false, AV.int IntKind.i64 (apL (100 : Int) l (f, b, n, z, rs) l.length).snd.snd.snd.fst, AV.int IntKind.u32 (0 : Int)]]), (4, AObj.log recTy (apL (100 : Int) l (f, b, n, z, rs) l.length).snd.snd.snd.snd), (5, AObj.arr 1 Ty.bool [] [[AV.nils]]), (6, AObj.arr 1 Ty.bool [] [[AV.hw 7]]), (7, AObj.arr 3 ((Ty.int IntKind.i64).pair ((Ty.int IntKind.i64).pair (Ty.int IntKind.i64))) [(pid, i, wn)] [])], nx := 8 } else bif decide ((apL (100 : Int) l (f, b, n, z, rs) l.length).fst.length ≤ 1000000000) then bif sortedL [(pid, i, wn)] && true && (hasL [(pid, i, wn)] pid || false) then bif (setL [(pid, i, wn)] (pid, IntKind.i64.wrap (i + (2 : Int)), (apL (100 : Int) l (f, b, n, z, rs) l.length).snd.snd.fst)).snd != (0 : Int) then bif (setL [(pid, i, wn)] (pid, IntKind.i64.wrap (i + (2 : Int)), (apL (100 : Int) l (f, b, n, z, rs) l.length).snd.snd.fst)).snd != (12 : Int) then K Ex.ret { slots := [(1, AV.vl recTy l2), (2, AV.vl (Ty.int IntKind.i64) ag), (6, AV.bool false), (8, AV.ptr 0 (Elt.tl 0) 0), (10, AV.ptr 1 (Elt.tl 0) 0), (11, AV.int IntKind.i64 (IntKind.i64.wrap (wn + (↑l2.length : Int)))), (12, AV.int IntKind.i64 i)], objs := [(0, AObj.arr 13 Ty.bool [] [[AV.int IntKind.i64 (1 : Int), AV.int IntKind.i64 pid, AV.int IntKind.i64 (IntKind.i64.wrap (i + (2 : Int))), AV.vl recTy l, AV.str [], AV.int IntKind.i64 (0 : Int), AV.int IntKind.i64 (0 : Int), AV.int IntKind.i64 (0 : Int), AV.int IntKind.u32 (0 : Int), AV.int IntKind.i64 (0 : Int), AV.int IntKind.i64 (0 : Int), AV.int IntKind.i64 (0 : Int), AV.int IntKind.i64 (0 : Int)]]), (1, AObj.arr 7 Ty.bool [] [[AV.ptr 2 (Elt.tl 0) 0, AV.int IntKind.i64 (100 : Int), AV.int IntKind.i64 (0 : Int), AV.int IntKind.i64 (0 : Int), AV.int IntKind.i64 (0 : Int), AV.ptr 5 (Elt.tl 0) 0, AV.ptr 6 (Elt.tl 0) 0]]), (2, AObj.arr 1 Ty.bool [] [[AV.hw 3]]), (3, AObj.arr 10 segTy (apL (100 : Int) l (f, b, n, z, rs) l.length).fst [[AV.int IntKind.i64 (apL (100 : Int) l (f, b, n, z, rs) l.length).snd.fst, AV.int IntKind.i64 (apL (100 : Int) l (f, b, n, z, rs) l.length).snd.snd.fst, AV.int IntKind.i64 (0 : Int), AV.int IntKind.i64 (0 : Int), AV.hw 4, AV.bool false, AV.bool false, AV.bool false, AV.int IntKind.i64 (apL (100 : Int) l (f, b, n, z, rs) l.length).snd.snd.snd.fst, AV.int IntKind.u32 (0 : Int)]]), (4, AObj.log recTy (apL (100 : Int) l (f, b, n, z, rs) l.length).snd.snd.snd.snd), (5, AObj.arr 1 Ty.bool [] [[AV.nils]]), (6, AObj.arr 1 Ty.bool [] [[AV.hw 7]]), (7, AObj.arr 3 ((Ty.int IntKind.i64).pair ((Ty.int IntKind.i64).pair (Ty.int IntKind.i64))) (setL [(pid, i, wn)] (pid, IntKind.i64.wrap (i + (2 : Int)), (apL (100 : Int) l (f, b, n, z, rs) l.length).snd.snd.fst)).fst [])], nx := 8 } else K Ex.normal { slots := [(1, AV.vl recTy l2), (2, AV.vl (Ty.int IntKind.i64) ag), (6, AV.bool q), (8, AV.ptr 0 (Elt.tl 0) 0), (10, AV.ptr 1 (Elt.tl 0) 0), (11, AV.int IntKind.i64 (IntKind.i64.wrap (wn + (↑l2.length : Int)))), (12, AV.int IntKind.i64 (IntKind.i64.wrap (i + (1 : Int))))], objs := [(0, AObj.arr 13 Ty.bool [] [[AV.int IntKind.i64 (1 : Int), AV.int IntKind.i64 pid, AV.int IntKind.i64 (IntKind.i64.wrap (i + (2 : Int))), AV.vl recTy l, AV.str [], AV.int IntKind.i64 (0 : Int), AV.int IntKind.i64 (0 : Int), AV.int IntKind.i64 (0 : Int), AV.int IntKind.u32 (0 : Int), AV.int IntKind.i64 (0 : Int), AV.int IntKind.i64 (0 : Int), AV.int IntKind.i64 (0 : Int), AV.int IntKind.i64 (0 : Int)]]), (1, AObj.arr 7 Ty.bool [] [[AV.ptr 2 (Elt.tl 0) 0, AV.int IntKind.i64 (100 : Int), AV.int IntKind.i64 (0 : Int), AV.int IntKind.i64 (0 : Int), AV.int IntKind.i64 (0 : Int), AV.ptr 5 (Elt.tl 0) 0, AV.ptr 6 (Elt.tl 0) 0]]), (2, AObj.arr 1 Ty.bool [] [[AV.hw 3]]), (3, AObj.arr 10 segTy (apL (100 : Int) l (f, b, n, z, rs) l.length).fst [[AV.int IntKind.i64 (apL (100 : Int) l (f, b, n, z, rs) l.length).snd.fst, AV.int IntKind.i64 (apL (100 : Int) l (f, b, n, z, rs) l.length).snd.snd.fst, AV.int IntKind.i64 (0 : Int), AV.int IntKind.i64 (0 : Int), AV.hw 4, AV.bool false, AV.bool false, AV.bool false, AV.int IntKind.i64 (apL (100 : Int) l (f, b, n, z, rs) l.length).snd.snd.snd.fst, AV.int IntKind.u32 (0 : Int)]]), (4, AObj.log recTy (apL (100 : Int) l (f, b, n, z, rs) l.length).snd.snd.snd.snd), (5, AObj.arr 1 Ty.bool [] [[AV.nils]]), (6, AObj.arr 1 Ty.bool [] [[AV.hw 7]]), (7, AObj.arr 3 ((Ty.int IntKind.i64).pair ((Ty.int IntKind.i64).pair (Ty.int IntKind.i64))) (setL [(pid, i, wn)] (pid, IntKind.i64.wrap (i + (2 : Int)), (apL (100 : Int) l (f, b, n, z, rs) l.length).snd.snd.fst)).fst [])], nx := 8 } else bif decide (l.length ≤ 200000000) && okB 500000000 (apL (100 : Int) l (f, b, n, z, rs) l.length) then K Ex.ret { slots := [(1, AV.vl recTy l2), (2, AV.vl (Ty.int IntKind.i64) ag), (6, AV.bool false), (8, AV.ptr 0 (Elt.tl 0) 0), (10, AV.ptr 1 (Elt.tl 0) 0), (11, AV.int IntKind.i64 (IntKind.i64.wrap (wn + (↑l2.length : Int)))), (12, AV.int IntKind.i64 i)], objs := [(0, AObj.arr 13 Ty.bool [] [[AV.int IntKind.i64 (1 : Int), AV.int IntKind.i64 pid, AV.int IntKind.i64 (IntKind.i64.wrap (i + (2 : Int))), AV.vl recTy l, AV.str [], AV.int IntKind.i64 (0 : Int), AV.int IntKind.i64 (0 : Int), AV.int IntKind.i64 (0 : Int), AV.int IntKind.u32 (0 : Int), AV.int IntKind.i64 (0 : Int), AV.int IntKind.i64 (0 : Int), AV.int IntKind.i64 (0 : Int), AV.int IntKind.i64 (0 : Int)]]), (1, AObj.arr 7 Ty.bool [] [[AV.ptr 2 (Elt.tl 0) 0, AV.int IntKind.i64 (100 : Int), AV.int IntKind.i64 (0 : Int), AV.int IntKind.i64 (0 : Int), AV.int IntKind.i64 (0 : Int), AV.ptr 5 (Elt.tl 0) 0, AV.ptr 6 (Elt.tl 0) 0]]), (2, AObj.arr 1 Ty.bool [] [[AV.hw 3]]), (3, AObj.arr 10 segTy (apL (100 : Int) l (apL (100 : Int) l (f, b, n, z, rs) l.length) l.length).fst [[AV.int IntKind.i64 (apL (100 : Int) l (apL (100 : Int) l (f, b, n, z, rs) l.length) l.length).snd.fst, AV.int IntKind.i64 (apL (100 : Int) l (apL (100 : Int) l (f, b, n, z, rs) l.length) l.length).snd.snd.fst, AV.int IntKind.i64 (0 : Int), AV.int IntKind.i64 (0 : Int), AV.hw 4, AV.bool false, AV.bool false, AV.bool false, AV.int IntKind.i64 (apL (100 : Int) l (apL (100 : Int) l (f, b, n, z, rs) l.length) l.length).snd.snd.snd.fst, AV.int IntKind.u32 (0 : Int)]]), (4, AObj.log recTy (apL (100 : Int) l (apL (100 : Int) l (f, b, n, z, rs) l.length) l.length).snd.snd.snd.snd), (5, AObj.arr 1 Ty.bool [] [[AV.nils]]), (6, AObj.arr 1 Ty.bool [] [[AV.hw 7]]), (7, AObj.arr 3 ((Ty.int IntKind.i64).pair ((Ty.int IntKind.i64).pair (Ty.int IntKind.i64))) (setL [(pid, i, wn)] (pid, IntKind.i64.wrap (i + (2 : Int)), (apL (100 : Int) l (f, b, n, z, rs) l.length).snd.snd.fst)).fst [])], nx := 8 } else none else none else none else bif decide (l.length ≤ 200000000) && okB 500000000 (apL (100 : Int) l (f, b, n, z, rs) l.length) then K Ex.ret { slots := [(1, AV.vl recTy l2), (2, AV.vl (Ty.int IntKind.i64) ag), (6, AV.bool false), (8, AV.ptr 0 (Elt.tl 0) 0), (10, AV.ptr 1 (Elt.tl 0) 0), (11, AV.int IntKind.i64 (IntKind.i64.wrap (wn + (↑l2.length : Int)))), (12, AV.int IntKind.i64 i)], objs := [(0, AObj.arr 13 Ty.bool [] [[AV.int IntKind.i64 (1 : Int), AV.int IntKind.i64 pid, AV.int IntKind.i64 (IntKind.i64.wrap (i + (2 : Int))), AV.vl recTy l, AV.str [], AV.int IntKind.i64 (0 : Int), AV.int IntKind.i64 (0 : Int), AV.int IntKind.i64 (0 : Int), AV.int IntKind.u32 (0 : Int), AV.int IntKind.i64 (0 : Int), AV.int IntKind.i64 (0 : Int), AV.int IntKind.i64 (0 : Int), AV.int IntKind.i64 (0 : Int)]]), (1, AObj.arr 7 Ty.bool [] [[AV.ptr 2 (Elt.tl 0) 0, AV.int IntKind.i64 (100 : Int), AV.int IntKind.i64 (0 : Int), AV.int IntKind.i64 (0 : Int), AV.int IntKind.i64 (0 : Int), AV.ptr 5 (Elt.tl 0) 0, AV.ptr 6 (Elt.tl 0) 0]]), (2, AObj.arr 1 Ty.bool [] [[AV.hw 3]]), (3, AObj.arr 10 segTy (apL (100 : Int) l (apL (100 : Int) l (f, b, n, z, rs) l.length) l.length).fst [[AV.int IntKind.i64 (apL (100 : Int) l (apL (100 : Int) l (f, b, n, z, rs) l.length) l.length).snd.fst, AV.int IntKind.i64 (apL (100 : Int) l (apL (100 : Int) l (f, b, n, z, rs) l.length) l.length).snd.snd.fst, AV.int IntKind.i64 (0 : Int), AV.int IntKind.i64 (0 : Int), AV.hw 4, AV.bool false, AV.bool false, AV.bool false, AV.int IntKind.i64 (apL (100 : Int) l (apL (100 : Int) l (f, b, n, z, rs) l.length) l.length).snd.snd.snd.fst, AV.int IntKind.u32 (0 : Int)]]), (4, AObj.log recTy (apL (100 : Int) l (apL (100 : Int) l (f, b, n, z, rs) l.length) l.length).snd.snd.snd.snd), (5, AObj.arr 1 Ty.bool [] [[AV.nils]]), (6, AObj.arr 1 Ty.bool [] [[AV.hw 7]]), (7, AObj.arr 3 ((Ty.int IntKind.i64).pair ((Ty.int IntKind.i64).pair (Ty.int IntKind.i64))) [(pid, i, wn)] [])], nx := 8 } else none else none else K (Ex.exit 0) { slots := [(1, AV.vl recTy l2), (2, AV.vl (Ty.int IntKind.i64) ag), (6, AV.bool q), (8, AV.ptr 0 (Elt.tl 0) 0), (10, AV.ptr 1 (Elt.tl 0) 0), (11, AV.int IntKind.i64 wn), (12, AV.int IntKind.i64 i)], objs := [(0, AObj.arr 13 Ty.bool [] [[AV.int IntKind.i64 (1 : Int), AV.int IntKind.i64 pid, AV.int IntKind.i64 sq, AV.vl recTy l, AV.str [], AV.int IntKind.i64 (0 : Int), AV.int IntKind.i64 (0 : Int), AV.int IntKind.i64 (0 : Int), AV.int IntKind.u32 (0 : Int), AV.int IntKind.i64 (0 : Int), AV.int IntKind.i64 (0 : Int), AV.int IntKind.i64 (0 : Int), AV.int IntKind.i64 (0 : Int)]]), (1, AObj.arr 7 Ty.bool [] [[AV.ptr 2 (Elt.tl 0) 0, AV.int IntKind.i64 (100 : Int), AV.int IntKind.i64 (0 : Int), AV.int IntKind.i64 (0 : Int), AV.int IntKind.i64 (0 : Int), AV.ptr 5 (Elt.tl 0) 0, AV.ptr 6 (Elt.tl 0) 0]]), (2, AObj.arr 1 Ty.bool [] [[AV.hw 3]]), (3, AObj.arr 10 segTy f [[AV.int IntKind.i64 b, AV.int IntKind.i64 n, AV.int IntKind.i64 (0 : Int), AV.int IntKind.i64 (0 : Int), AV.hw 4, AV.bool false, AV.bool false, AV.bool false, AV.int IntKind.i64 z, AV.int IntKind.u32 (0 : Int)]]), (4, AObj.log recTy rs), (5, AObj.arr 1 Ty.bool [] [[AV.nils]]), (6, AObj.arr 1 Ty.bool [] [[AV.hw 7]]), (7, AObj.arr 3 ((Ty.int IntKind.i64).pair ((Ty.int IntKind.i64).pair (Ty.int IntKind.i64))) ps [])], nx := 8 } := by kernel_rfl

end Go.Sim
namespace Go.Sim
set_option linter.unusedSimpArgs false
set_option linter.unusedVariables false
set_option maxRecDepth 10000
open Go.Sim.XU
theorem cond_t {α : Type _} {c : Bool} {a b : α} (h : c = true) : cond c a b = a := by rw [h]; rfl
theorem cond_f {α : Type _} {c : Bool} {a b : α} (h : c = false) : cond c a b = b := by rw [h]; rfl
def oM (l : List Rec) : Nat → LogS
  | 0 => ([], 0, 0, 0, [])
  | j + 1 => apL 100 l (oM l j) l.length
structure InvO (l : List Rec) (j : Nat) (M : LogS) : Prop where
  next : M.2.2.1 = ((j * l.length : Nat) : Int)
  low : lowP M = 0
  ok : okB (100 * j) M = true
theorem oM_inv {l : List Rec} (h : ∀ r ∈ l, r.1 = 0 ∧ recR (0, r.2) = true) (hl : l.length ≤ 50) : ∀ j, j ≤ 1000 → InvO l j (oM l j)
  | 0, _ => ⟨by simp [oM], rfl, rfl⟩
  | j + 1, hj => by
    have ih := oM_inv h hl j (by omega)
    refine ⟨?_, (apL_low 100 l _ _).trans ih.low, okB_mono (apL_ok 100 l ih.ok l.length (by omega)) (by omega)⟩
    show (apL 100 l (oM l j) l.length).2.2.1 = _
    rw [apL_next (fun r hr => (h r hr).2) _ _ (Nat.le_refl _), ih.next, Nat.add_mul]
    omega
abbrev o9Sl (l : List Rec) (ag : List Int) (q : Bool) (wn i : Int) : Slots := [(1, .vl recT l), (2, .vl (.int .i64) ag), (6, .bool q), (8, .ptr 0 (.tl 0) 0), (10, .ptr 1 (.tl 0) 0), (11, .int .i64 wn), (12, .int .i64 i)]
def o9St (l : List Rec) (ag : List Int) (q : Bool) (pid : Int) (j : Nat) : St := ⟨o9Sl l ag q (((j + 1) * l.length : Nat) : Int) (j + 1 : Nat), onR pid (j + 2 : Nat) l (oM l (j + 1)) [(pid, (j : Int), ((j * l.length : Nat) : Int))], 8⟩
theorem o9_first {R : Type} (l : List Rec) (ag : List Int) (q : Bool) (pid sq : Int) (ha : 0 < ag.length) (hr : rightC (cmdO pid 0 l) = true) (hp : 1 ≤ pid) (hl : l.length ≤ 50) (K : Ex → St → Option R) :
    roundK (env consX4) H.onc2 0 (LPs [(13, [o13nLC, o13rLC])]) V.cooperagelaw16_StateOnce_9 L.cooperagelaw16_StateOnce_9 ⟨o9Sl l ag q 0 0, onN pid sq l (oM l 0), 7⟩ K = K .normal (o9St l ag q pid 0) := by
  refine (o9n_rd l l ag pid sq 0 0 q [] 0 0 0 [] K).trans ?_
  have hrecs := recs_ok (l := l) (by rw [right_one] at hr; simp only [Bool.and_eq_true] at hr; exact hr.2.2.2)
  have hI := oM_inv hrecs.2 hl 1 (by omega)
  obtain ⟨g1, g2, g3, g4, g5, g6, g7, g8⟩ := okB_iff.1 hI.ok
  refine (cond_t (decide_eq_true (by omega))).trans ?_
  refine (cond_t ?_).trans ?_
  · simp only [Bool.and_eq_true, decide_eq_true_eq, and_true, true_and]
    exact ⟨⟨⟨⟨⟨Int.le_refl _, by show (0 : Int) < _; omega⟩, hp⟩, hr⟩, hl⟩, rfl⟩
  have e2 : IntKind.i64.wrap ((0 : Int) + 2) = 2 := wrap64 (by omega) (by omega)
  have e3 : IntKind.i64.wrap ((0 : Int) + 1) = ((0 + 1 : Nat) : Int) := by rw [wrap64 (by omega) (by omega)]; rfl
  have e4 : IntKind.i64.wrap ((0 : Int) + (l.length : Int)) = (((0 + 1) * l.length : Nat) : Int) := by rw [wrap64 (by omega) (by omega)]; simp
  have e5 := right_seq hr hp (sq := 2) (by omega) (by omega)
  rw [e2, e3, e4, e5, ask_far pid 0 0 2 (by omega), cond_pos (show pid > 0 by omega)]
  unfold o9St oM
  simp only [Nat.zero_mul]
  rfl
theorem o9_next {R : Type} (l : List Rec) (ag : List Int) (q : Bool) (pid : Int) (j : Nat) (ha : j + 1 < ag.length) (hj : ag.length ≤ 20) (hr : rightC (cmdO pid 0 l) = true) (hp : 1 ≤ pid) (hl : l.length ≤ 50) (K : Ex → St → Option R) :
    roundK (env consX4) H.onc2 0 (LPs [(13, [o13nLC, o13rLC])]) V.cooperagelaw16_StateOnce_9 L.cooperagelaw16_StateOnce_9 (o9St l ag q pid j) K = K .normal (o9St l ag q pid (j + 1)) := by
  have hrecs := recs_ok (l := l) (by rw [right_one] at hr; simp only [Bool.and_eq_true] at hr; exact hr.2.2.2)
  have hI := oM_inv hrecs.2 hl (j + 1) (by omega)
  refine (o9r_rd l l ag pid (j + 2 : Nat) (((j + 1) * l.length : Nat) : Int) (j + 1 : Nat) q (oM l (j + 1)).1 (oM l (j + 1)).2.1 (oM l (j + 1)).2.2.1 (oM l (j + 1)).2.2.2.1 (oM l (j + 1)).2.2.2.2 _ K).trans ?_
  have b1 : (j + 1) * l.length ≤ 20 * 50 := Nat.mul_le_mul (by omega) hl
  have b2 : (j + 2) * l.length = (j + 1) * l.length + l.length := by rw [show j + 2 = (j + 1) + 1 by omega, Nat.add_mul (j + 1) 1]; omega
  refine (cond_t (decide_eq_true (by omega))).trans ?_
  have e5 := right_seq hr hp (sq := (j + 1 : Nat)) (by omega) (by omega)
  have e6 := right_seq hr hp (sq := (j + 3 : Nat)) (by omega) (by omega)
  refine (cond_t ?_).trans ?_
  · simp only [Bool.and_eq_true, decide_eq_true_eq, and_true]
    refine ⟨⟨⟨⟨⟨⟨⟨?_, ?_⟩, hp⟩, e5⟩, hl⟩, okB_mono hI.ok (by omega)⟩, hI.next⟩, ?_⟩
    · show (0 : Int) ≤ _; omega
    · show ((j + 1 : Nat) : Int) < _; omega
    · show [(pid, (j : Int), _)] = [(pid, ((j + 1 : Nat) : Int) - 1, _)]
      have : ((j + 1 : Nat) : Int) - 1 = (j : Int) := by omega
      rw [this]
      rfl
  have e2 : IntKind.i64.wrap (((j + 1 : Nat) : Int) + 2) = ((j + 3 : Nat) : Int) := by rw [wrap64 (by omega) (by omega)]; omega
  have e3 : IntKind.i64.wrap (((j + 1 : Nat) : Int) + 1) = ((j + 1 + 1 : Nat) : Int) := by rw [wrap64 (by omega) (by omega)]; omega
  have e4 : IntKind.i64.wrap ((((j + 1) * l.length : Nat) : Int) + (l.length : Int)) = (((j + 1 + 1) * l.length : Nat) : Int) := by
    rw [show j + 1 + 1 = j + 2 by omega, b2, wrap64 (by omega) (by omega)]
    omega
  rw [e2, e3, e4, e6, ask_far pid (j + 1 : Nat) _ (j + 3 : Nat) (by omega), cond_pos (show pid > 0 by omega)]
  rfl
theorem o9_exitR {R : Type} (l : List Rec) (ag : List Int) (q : Bool) (pid : Int) (j : Nat) (ha : ag.length = j + 1) (K : Ex → St → Option R) :
    roundK (env consX4) H.onc2 0 (LPs [(13, [o13nLC, o13rLC])]) V.cooperagelaw16_StateOnce_9 L.cooperagelaw16_StateOnce_9 (o9St l ag q pid j) K = K (.exit 0) (o9St l ag q pid j) := by
  refine (o9r_rd l l ag pid (j + 2 : Nat) (((j + 1) * l.length : Nat) : Int) (j + 1 : Nat) q (oM l (j + 1)).1 (oM l (j + 1)).2.1 (oM l (j + 1)).2.2.1 (oM l (j + 1)).2.2.2.1 (oM l (j + 1)).2.2.2.2 _ K).trans ?_
  refine (cond_f (decide_eq_false (by omega))).trans ?_
  rfl
theorem o9_exitN {R : Type} (l : List Rec) (ag : List Int) (q : Bool) (pid sq : Int) (ha : ag.length = 0) (K : Ex → St → Option R) :
    roundK (env consX4) H.onc2 0 (LPs [(13, [o13nLC, o13rLC])]) V.cooperagelaw16_StateOnce_9 L.cooperagelaw16_StateOnce_9 ⟨o9Sl l ag q 0 0, onN pid sq l (oM l 0), 7⟩ K = K (.exit 0) ⟨o9Sl l ag q 0 0, onN pid sq l (oM l 0), 7⟩ := by
  refine (o9n_rd l l ag pid sq 0 0 q [] 0 0 0 [] K).trans ?_
  refine (cond_f (decide_eq_false (by omega))).trans ?_
  rfl
theorem o9_rounds {R : Type} (l : List Rec) (ag : List Int) (q : Bool) (pid : Int) (hj : ag.length ≤ 20) (hr : rightC (cmdO pid 0 l) = true) (hp : 1 ≤ pid) (hl : l.length ≤ 50) (K : Ex → St → Option R) : ∀ (m j : Nat), j + 1 + m = ag.length →
    rounds (env consX4) H.onc2 0 (LPs [(13, [o13nLC, o13rLC])]) V.cooperagelaw16_StateOnce_9 L.cooperagelaw16_StateOnce_9 (m + 1) (o9St l ag q pid j) K = K (.exit 0) (o9St l ag q pid (ag.length - 1))
  | 0, j, h => by
    rw [rounds_succ']
    refine (o9_exitR l ag q pid j (by omega) _).trans ?_
    rw [show ag.length - 1 = j by omega]
  | m + 1, j, h => by
    rw [rounds_succ']
    refine (o9_next l ag q pid j (by omega) hj hr hp hl _).trans ?_
    exact o9_rounds l ag q pid hj hr hp hl K m (j + 1) (by omega)
abbrev o9LC : LoopC := LoopC.of ⟨[(1, .vl recT), (2, .vl (.int .i64)), (6, .bool), (8, .lit (.ptr 0 (.tl 0) 0)), (10, .lit (.ptr 1 (.tl 0) 0)), (11, .int .i64), (12, .int .i64)], onNP⟩
  (fun ⟨⟨l2, ag, q, _, _, wn, i, _⟩, ⟨⟨_, pid, sq, l, _⟩, _⟩, _, _, ⟨f, ⟨b, n, _, _, _, _, _, _, z, _, _⟩, _⟩, rs, _⟩ => decide (i = (0 : Int)) && decide (wn = (0 : Int)) && decide (l2 = l) && decide (List.length ag ≤ 20) && decide ((1 : Int) ≤ pid) && rightC (cmdO pid 0 l) && List.isEmpty f && List.isEmpty rs && decide (b = (0 : Int)) && decide (n = (0 : Int)) && decide (z = (0 : Int)))
  fun ⟨⟨l2, ag, q, _, _, wn, i, _⟩, ⟨⟨_, pid, sq, l, _⟩, _⟩, _, _, ⟨f, ⟨b, n, _, _, _, _, _, _, z, _, _⟩, _⟩, rs, _⟩ => [(List.isEmpty ag, .exit 0, ⟨o9Sl l ag q 0 0, onN pid sq l (oM l 0), 7⟩), (true, .exit 0, o9St l ag q pid (List.length ag - 1))]
theorem o9_go (l2 l : List Rec) (ag : List Int) (q : Bool) (pid sq wn i b n z : Int) (f : List Seg) (rs : List Rec) (h1 : i = 0) (h2 : wn = 0) (h3 : l2 = l) (h4 : ag.length ≤ 20) (h5 : 1 ≤ pid) (h6 : rightC (cmdO pid 0 l) = true) (h7 : f.isEmpty = true) (h8 : rs.isEmpty = true) (h9 : b = 0) (h10 : n = 0) (h11 : z = 0) :
    ∃ c, rounds (env consX4) H.onc2 0 (LPs [(13, [o13nLC, o13rLC])]) V.cooperagelaw16_StateOnce_9 L.cooperagelaw16_StateOnce_9 c ⟨o9Sl l2 ag q wn i, onN pid sq l (f, b, n, z, rs), 7⟩ (fun e s => some (e, s)) = pick [(ag.isEmpty, .exit 0, ⟨o9Sl l ag q 0 0, onN pid sq l (oM l 0), 7⟩), (true, .exit 0, o9St l ag q pid (ag.length - 1))] := by
  subst h1 h2 h3 h9 h10 h11
  obtain rfl := List.isEmpty_iff.1 h7
  obtain rfl := List.isEmpty_iff.1 h8
  have hrecs := recs_ok (l := l2) (by rw [right_one] at h6; simp only [Bool.and_eq_true] at h6; exact h6.2.2.2)
  cases ag with
  | nil =>
    refine ⟨1, ?_⟩
    rw [rounds_succ']
    exact (o9_exitN l2 [] q pid sq rfl _).trans rfl
  | cons a ag =>
    refine ⟨(a :: ag).length - 1 + 1 + 1, ?_⟩
    rw [rounds_succ']
    refine (o9_first l2 (a :: ag) q pid sq (by simp) h6 h5 hrecs.1.2 _).trans ?_
    refine (o9_rounds l2 (a :: ag) q pid h4 h6 h5 hrecs.1.2 _ _ 0 (by simp only [List.length_cons]; omega)).trans ?_
    rfl
theorem o9_lok : LoopOK P0 H.onc2 0 L.cooperagelaw16_StateOnce_9 o9LC :=
  loop_ok_ofS (env_ok consX4_ok) glob0 mixed0 (loopsS_good (tab := [(13, [o13nLC, o13rLC])]) (by kernel_rfl) (fun x hx => by simp at hx; subst hx; intro lc hlc; simp at hlc; rcases hlc with rfl | rfl; exact o13n_lok; exact o13r_lok)) V.cooperagelaw16_StateOnce_9 (by decide) fun ⟨⟨l2, ag, q, _, _, wn, i, _⟩, ⟨⟨_, pid, sq, l, _⟩, _⟩, _, _, ⟨f, ⟨b, n, _, _, _, _, _, _, z, _, _⟩, _⟩, rs, _⟩ h hw => by
    simp only [Bool.and_eq_true, decide_eq_true_eq] at h
    obtain ⟨⟨⟨⟨⟨⟨⟨⟨⟨⟨h1, h2⟩, h3⟩, h4⟩, h5⟩, h6⟩, h7⟩, h8⟩, h9⟩, h10⟩, h11⟩ := h
    exact o9_go l2 l ag q pid sq wn i b n z f rs h1 h2 h3 h4 h5 h6 h7 h8 h9 h10 h11
theorem onc_ev (pid : Int) (l : List Rec) (ag : List Int) : evFn (env consX4) H.onc2 (LPs [(9, [o9LC]), (13, [o13nLC, o13rLC])]) F.cooperagelaw16_StateOnce [.int .i64 pid, .vl recT l, .vl (.int .i64) ag] [] (finT [.bool]) = Option.bind (bif bigC ((1 : Int), pid, (0 : Int), l, [], (0 : Int), (0 : Int), (0 : Int), (0 : Int), (0 : Int), (0 : Int), (0 : Int), (0 : Int)) then some true else bif decide (pid < (1 : Int)) then some true else bif !rightC ((1 : Int), pid, (0 : Int), l, [], (0 : Int), (0 : Int), (0 : Int), (0 : Int), (0 : Int), (0 : Int), (0 : Int), (0 : Int)) then some true else some (decide ((↑ag.length : Int) > (20 : Int)))) fun v => bif v then some (true, ()) else bif decide (l = l) && decide (ag.length ≤ 20) && decide ((1 : Int) ≤ pid) && rightC (cmdO pid (0 : Int) l) && true && true && true && true && true && ag.isEmpty then some (lowP (oM l 0) == (0 : Int), ()) else bif decide (l = l) && decide (ag.length ≤ 20) && decide ((1 : Int) ≤ pid) && rightC (cmdO pid (0 : Int) l) && true && true && true && true && true && true then bif decide ((oM l (ag.length - 1 + 1)).fst.length ≤ 1000000000) then bif smallL (oM l (ag.length - 1 + 1)).fst && decide ((oM l (ag.length - 1 + 1)).snd.snd.snd.snd.length ≤ 1000000000) then bif (oM l (ag.length - 1 + 1)).snd.snd.fst == (↑((ag.length - 1 + 1) * l.length) : Int) then some (lowP (oM l (ag.length - 1 + 1)) == (0 : Int), ()) else some (false, ()) else none else none else none := by kernel_rfl

theorem onc_val (pid : Int) (l : List Rec) (ag : List Int) : evFn (env consX4) H.onc2 (LPs [(9, [o9LC]), (13, [o13nLC, o13rLC])]) F.cooperagelaw16_StateOnce [.int .i64 pid, .vl recT l, .vl (.int .i64) ag] [] (finT [.bool]) = some (true, ()) := by
  rw [onc_ev]
  cases h1 : bigC (cmdO pid 0 l) with
  | true => rfl
  | false =>
    rw [cond_false]
    by_cases h2 : pid < 1
    · rw [cond_pos h2]; rfl
    rw [cond_neg h2]
    cases h3 : rightC (cmdO pid 0 l) with
    | false => rfl
    | true =>
      rw [Bool.not_true, cond_false, Option.bind_some]
      by_cases h4 : (ag.length : Int) > 20
      · rw [decide_eq_true h4]; rfl
      rw [decide_eq_false h4, cond_false]
      have hp : 1 ≤ pid := by omega
      have hrecs := recs_ok (l := l) (by rw [right_one] at h3; simp only [Bool.and_eq_true] at h3; exact h3.2.2.2)
      have hI := oM_inv hrecs.2 hrecs.1.2 (ag.length - 1 + 1) (by omega)
      obtain ⟨g1, g2, g3, g4, g5, g6, g7, g8⟩ := okB_iff.1 hI.ok
      have e1 : decide ((1 : (Pat.int IntKind.i64).den) ≤ pid) = true := decide_eq_true (show (1 : Int) ≤ pid from hp)
      have e2 : decide (ag.length ≤ 20) = true := decide_eq_true (by omega)
      have l1 : decide ((oM l (ag.length - 1 + 1)).1.length ≤ 1000000000) = true := decide_eq_true (by omega)
      have l2 : smallL (oM l (ag.length - 1 + 1)).1 = true := by unfold smallL; rw [l1, g8]; rfl
      have l3 : decide ((oM l (ag.length - 1 + 1)).2.2.2.2.length ≤ 1000000000) = true := decide_eq_true (by omega)
      have l4 : lowP (oM l 0) = 0 := rfl
      rw [e1, e2, l1, l2, l3, l4, hI.low, hI.next]
      simp only [decide_true, Bool.true_and, Bool.and_true, cond_true, beq_self_eq_true]
      cases ag.isEmpty <;> rfl
def caseOnc : PCase := ⟨[.ty (.int .i64), .ty (.sl recT), .ty (.sl (.int .i64))], [.bool], fun x => [(true, (true, ()))]⟩
theorem onc_ok : caseOnc.ok P0 I.cooperagelaw16_StateOnce := case_ok2 (H := H.onc2) (E := env consX4) (env_ok consX4_ok) glob0 mixed0 G.cooperagelaw16_StateOnce Bd.cooperagelaw16_StateOnce (by kernel_rfl) (loopsS_good (tab := [(9, [o9LC]), (13, [o13nLC, o13rLC])]) (by kernel_rfl) (fun x hx => by
  simp at hx
  rcases hx with rfl | rfl <;> intro lc hlc <;> simp at hlc
  · subst hlc; exact o9_lok
  · rcases hlc with rfl | rfl
    · exact o13n_lok
    · exact o13r_lok)) fun ⟨pid, l, ag, ()⟩ y h hw => by
  obtain ⟨hc, rfl⟩ := pick_pre h
  exact onc_val pid l ag
theorem onc_good (x : tysDen [.int .i64, .sl recT, .sl (.int .i64)]) (hw : tysWf [.int .i64, .sl recT, .sl (.int .i64)] x) : ∃ o, EffGood P0 I.cooperagelaw16_StateOnce (valsOf [.int .i64, .sl recT, .sl (.int .i64)] x) [] (.bool true) o := onc_ok x (true, ()) rfl hw
end Go.Sim
namespace Go.Sim
set_option maxRecDepth 10000
open Go.Proofs Go.Proofs.YtpkobajkogcmkaaGreatDoor
/-- A package variable that is an array, read whole. -/
theorem laid_array {P : Program} {W : World} {g n t e : Nat} {y : Ty} {cs : Array Value} {fuel : Nat} {ds : List (DataW Unit)} {p : List MemPlace} (hcell : ∀ i, W.cell? ⟨g, i, none⟩ = cs[i]?) (ht : P.underlying t = some (.array n e))
    (hd : DataW.trod (fun _ => ()) P W 0 (fun _ => true) false fuel t cs.toList = some (.agg ds, p)) (hsz : P.cellsOf e = y.sz) {xs : List y.den} (hlen : xs.length = n) (hn : n ≤ maxL)
    (hel : ∀ (i : Nat) x d (m : Nat) cs' p', xs[i]? = some x → ds[i]? = some d → DataW.trod (fun _ => ()) P W 0 (fun _ => true) false m e cs' = some (d, p') → Vt (phi0 W) W y x cs') :
    Vt (phi0 W) W (.sl y) xs [.slice (some ⟨g, 0, none⟩) xs.length xs.length] := by
  obtain ⟨zs, m, _, ex, hc, hz, hE⟩ := DataW.trod_array ht hd
  have hds : ds = zs.map (·.1) := DataW.agg.inj (Prod.mk.inj ex).1
  refine ⟨by rw [hlen]; exact hn, some ⟨g, 0, none⟩, xs.length, rfl, Nat.le_refl _, fun i x hx => ?_⟩
  have hi : i < n := by have := (List.getElem?_eq_some_iff.1 hx).1; omega
  have h1 := hE i hi
  rw [List.getElem?_eq_getElem (by omega : i < zs.length)] at h1
  have h2 : ds[i]? = some (zs[i]'(by omega)).1 := by rw [hds, List.getElem?_map, List.getElem?_eq_getElem (by omega : i < zs.length)]; rfl
  refine ⟨⟨g, 0, none⟩, _, rfl, rfl, hel i x _ m _ _ hx h2 h1, fun j v hj => ?_⟩
  have hj2 : cs.toList[i * y.sz + j]? = some v := by
    rw [hsz] at hj
    have hjl := (List.getElem?_eq_some_iff.1 hj).1
    rw [List.getElem?_take_of_lt (by rw [List.length_take] at hjl; omega), List.getElem?_drop] at hj
    exact hj
  have hc2 : W.cell? ⟨g, 0 + i * y.sz + j, none⟩ = some v := by
    rw [hcell, Nat.zero_add, ← Array.getElem?_toList]
    exact hj2
  exact ⟨hc2, (cell_phi0 hc2).2.1⟩
theorem pin_first : (Go.Pinned.utf8First : DataW Unit) = .agg (utf8First.map fun n => .lit (.int .u8 n)) := by kernel_rfl
theorem acc_laid : (Rows.laid_unicode_utf8_acceptRanges : DataW Unit) = .agg (utf8Acc.map fun x => .agg [.lit (.int .u8 x.1), .lit (.int .u8 x.2)]) := by kernel_rfl
theorem get_map {α β : Type} {f : α → β} {l : List α} {i : Nat} {x : α} {d : β} (hx : l[i]? = some x) (hd : (l.map f)[i]? = some d) : d = f x := by
  rw [List.getElem?_map, hx] at hd
  exact (Option.some.inj hd).symm
theorem laidN {W : World} (h : laidMetH Tryz.prog [("unicode/utf8.acceptRanges", Rows.laid_unicode_utf8_acceptRanges), ("unicode/utf8.first", Rows.laid_unicode_utf8_first)] W) : LaidT P0 (phi0 W) W := by
  rw [MakeChecks.laidMetH_plain _ _ _ (by kernel_rfl)] at h
  obtain ⟨ps, ⟨g1, t1, cs1, fuel1, p1, q1, hg1, ht1, hv1, hd1, ⟨g0, t0, cs0, fuel0, p0, q0, hg0, ht0, hv0, hd0, _, _⟩, _⟩, _, _⟩ := h
  have e1 := Option.some.inj ((show Tryz.prog.globalNamed "unicode/utf8.acceptRanges" = some 1 by kernel_rfl).symm.trans hg1)
  have e0 := Option.some.inj ((show Tryz.prog.globalNamed "unicode/utf8.first" = some 0 by kernel_rfl).symm.trans hg0)
  subst e1; subst e0
  have f1 := Option.some.inj ((show (Tryz.prog.globals[1]?).map (·.type) = some 234 by kernel_rfl).symm.trans ht1)
  have f0 := Option.some.inj ((show (Tryz.prog.globals[0]?).map (·.type) = some 231 by kernel_rfl).symm.trans ht0)
  subst f1; subst f0
  have hd0' : DataW.trod (fun _ => ()) Tryz.prog W 0 (fun _ => true) false fuel0 231 cs0.toList = some (.agg (utf8First.map fun n => .lit (.int .u8 n)), p0) := by rw [← pin_first]; exact hd0
  rw [acc_laid] at hd1
  have hint : ∀ (m : Nat) cs' (n : Int) p', DataW.trod (fun _ => ()) Tryz.prog W 0 (fun _ => true) false m 5 cs' = some (.lit (.int .u8 n), p') → cs' = [.int .u8 n] ∧ In .u8 n := fun m cs' n p' hm => by
    obtain ⟨z, z1, z2, z3⟩ := DataW.trod_int (k := .u8) (show Tryz.prog.underlying 5 = some (.int .u8) by kernel_rfl) hm
    have : n = z := by simpa using (Prod.mk.inj z2).1
    subst this
    exact ⟨z1, wf_In z3⟩
  intro x hx
  simp only [Tabs.tab, List.mem_cons, List.mem_nil_iff, or_false] at hx
  rcases hx with rfl | rfl
  · refine laid_array (fun i => World.var?_cell hg0 hv0 i) (show Tryz.prog.underlying 231 = some (.array 256 5) by kernel_rfl) hd0' (by kernel_rfl) utf8First_length (by decide) fun i x d m cs' p' hx hd ht => ?_
    have := get_map hx hd
    subst this
    exact hint m cs' x p' ht
  · refine laid_array (fun i => World.var?_cell hg1 hv1 i) (show Tryz.prog.underlying 234 = some (.array 16 233) by kernel_rfl) hd1 (by kernel_rfl) rfl (by decide) fun i x d m cs' p' hx hd ht => ?_
    have := get_map hx hd
    subst this
    obtain ⟨zs, m', _, ex, hc, hz, hE⟩ := DataW.trod_struct Tryz.underlying233 ht
    have c5 : Tryz.prog.cellsOf 5 = 1 := by kernel_rfl
    have c61 : Tryz.prog.cellsOf 233 = 2 := by kernel_rfl
    have a0 := hE 0 _ rfl
    have a1 := hE 1 _ rfl
    have hz2 : zs.length = 2 := hz
    obtain ⟨z0, z1, rfl⟩ : ∃ z0 z1, zs = [z0, z1] := by
      match zs, hz2 with
      | [z0, z1], _ => exact ⟨z0, z1, rfl⟩
    rw [c61] at hc
    obtain ⟨u0, u1, rfl⟩ : ∃ u0 u1, cs' = [u0, u1] := by
      match cs', hc with
      | [u0, u1], _ => exact ⟨u0, u1, rfl⟩
    have ex2 := (Prod.mk.inj ex).1
    simp only [List.map_cons, List.map_nil, DataW.agg.injEq, List.cons.injEq, and_true] at ex2
    obtain ⟨y0, p0'⟩ := z0
    obtain ⟨y1, p1'⟩ := z1
    obtain ⟨rfl, rfl⟩ := ex2
    have b0 := hint m' [u0] x.1 p0' (by rw [← show (([u0, u1] : List Value).drop 0).take (Tryz.prog.cellsOf 5) = [u0] by rw [c5]; rfl]; exact a0)
    have b1 := hint m' [u1] x.2 p1' (by rw [← show (([u0, u1] : List Value).drop 1).take (Tryz.prog.cellsOf 5) = [u1] by rw [c5]; rfl]; exact a1)
    exact ⟨[u0], [u1], rfl, b0, b1⟩
end Go.Sim
