/-
  SimV: a region that draws its order: the theorem.
-/
import Derived.Test.YtpkjlefincabiaaDoorSimU
namespace Go.Sim
set_option linter.unusedSectionVars false
set_option linter.unusedSimpArgs false
set_option linter.unusedVariables false
section
variable {P : Program} [Tabs P] {H : Hint} {all : Array Oper}
variable {own : Own P} {φ φ' : Nat → Nat} {β β' : Beta} {w w' : World}
variable {S : Nat → St} {T : Nat → Tr} {U : Nat → AV} {Pt : Nat → List (Nat × AObj)}

theorem get_none {g0 : Nat → AObj} {l : Nat} : ∀ n, getL (fun _ => false) Pt g0 n l = g0 l
  | 0 => rfl
  | n + 1 => by simp only [getL]; rw [get_none n]; simp
theorem slotsFrom_spec {bits : Array Nat} {j : Nat} {b : Oper} : ∀ {r : List Oper} {i : Nat}, slotsOkFrom all bits j b i r = true → ∀ k a, i + k < j → r[k]? = some a → slotPair all bits (i + k) j a b = true
  | [], i, _, k, a, _, ha => by simp at ha
  | c :: r, i, h, k, a, hk, ha => by
    simp only [slotsOkFrom] at h
    have hlt : Nat.blt i j = true := by simp [Nat.blt_eq]; omega
    rw [hlt] at h
    simp only [cond_true, Bool.and_eq_true] at h
    cases k with
    | zero => simp at ha; subst ha; exact h.1
    | succ k =>
      have := slotsFrom_spec h.2 k a (by omega) (by simpa using ha)
      rw [show i + 1 + k = i + (k + 1) from by omega] at this
      exact this
theorem slots_spec {bits : Array Nat} : ∀ {r : List Oper} {j : Nat}, slotsOk all bits j r = true → ∀ k b, r[k]? = some b → ∀ i a, i < j + k → all[i]? = some a → slotPair all bits i (j + k) a b = true
  | [], j, _, k, b, hb => by simp at hb
  | c :: r, j, h, k, b, hb => by
    intro i a hi ha
    simp only [slotsOk, Bool.and_eq_true] at h
    cases k with
    | zero =>
      simp at hb; subst hb
      have := slotsFrom_spec h.1 i a (by omega) (by simpa using ha)
      simpa using this
    | succ k =>
      have := slots_spec h.2 k b (by simpa using hb) i a (by omega) ha
      rw [show j + 1 + k = j + (k + 1) from by omega] at this
      exact this
theorem slotPair_bit {bits : Array Nat} {i j : Nat} {a b : Oper} (h : slotPair all bits i j a b = true)
    (hc : (∃ d, a.dst = some d ∧ (d ∈ b.looksAt all ∨ b.dst = some d)) ∨ ∃ d, b.dst = some d ∧ d ∈ a.looksAt all) : (bits.getD j 0).testBit i = true := by
  unfold slotPair at h
  rcases hc with ⟨d, hd, hx⟩ | ⟨d, hd, hx⟩
  · rw [hd] at h
    rcases hx with hx | hx
    · simp only [has_mem.2 hx, Bool.true_or, cond_true] at h
      exact h
    · rw [hx] at h
      simp only [Nat.beq_refl, Bool.or_true, Bool.true_or, cond_true] at h
      exact h
  · rw [hd] at h
    simp only [has_mem.2 hx, Bool.or_true, cond_true] at h
    exact h
theorem pairOk_bit {bits : Array Nat} {a b : Tr} (h : pairOk bits a b = true) {l : Nat} (hc : (l ∈ a.wr ∧ l ∈ b.rd) ∨ (l ∈ a.wr ∧ l ∈ b.wr) ∨ (l ∈ a.rd ∧ l ∈ b.wr)) : (bits.getD b.i 0).testBit a.i = true := by
  unfold pairOk at h
  cases hc' : (anyIn a.wr b.rd || anyIn a.wr b.wr || anyIn a.rd b.wr) with
  | true => rw [hc'] at h; exact h
  | false =>
    simp only [Bool.or_eq_false_iff] at hc'
    rcases hc with h1 | h1 | h1
    · exact absurd h1.2 (anyIn_false hc'.1.1 l h1.1)
    · exact absurd h1.2 (anyIn_false hc'.1.2 l h1.1)
    · exact absurd h1.2 (anyIn_false hc'.2 l h1.1)
theorem edges_spec : ∀ {r : List Oper} {j : Nat}, edgesOk j r = true → ∀ k b, r[k]? = some b → ∀ e ∈ b.after, Region.binds .any e = true → e.on < j + k
  | [], j, _, k, b, hb => by simp at hb
  | c :: r, j, h, k, b, hb => by
    intro e he hbi
    simp only [edgesOk, Bool.and_eq_true] at h
    cases k with
    | zero =>
      simp at hb; subst hb
      have := Array.all_eq_true_iff_forall_mem.1 h.1.1 e he
      rw [hbi] at this
      simpa [Nat.blt_eq] using this
    | succ k =>
      have := edges_spec h.2 k b (by simpa using hb) e he hbi
      omega

structure Good (P : Program) [Tabs P] (H : Hint) (all : Array Oper) (S : Nat → St) (T : Nat → Tr) (U : Nat → AV) (Pt : Nat → List (Nat × AObj)) : Prop where
  line : Line P H all S T U Pt
  pairs : ∀ i j, i < j → j < all.size → pairOk (Region.before all) (T i) (T j) = true
  slots : ∀ i j a b, i < j → all[i]? = some a → all[j]? = some b → slotPair all (Region.before all) i j a b = true
  new : ∀ i, i < all.size → ∀ l, (T i).n0 ≤ l → l < (T i).n1 → l ∈ (T i).wr
  edges : ∀ (j : Nat) (b : Oper), all[j]? = some b → ∀ e ∈ b.after, Region.binds .any e = true → e.on < j

theorem Good.mono (h : Good P H all S T U Pt) : ∀ i j, i ≤ j → j ≤ all.size → (S i).nx ≤ (S j).nx := by
  intro i j hij
  induction j with
  | zero => intro _; have : i = 0 := by omega
            subst this; exact Nat.le_refl _
  | succ j ih =>
    intro hj
    by_cases e : i = j + 1
    · subst e; exact Nat.le_refl _
    · exact Nat.le_trans (ih (by omega) (by omega)) (h.line j all[j] (Array.getElem?_eq_getElem (by omega))).grow

structure Now (P : Program) [Tabs P] (H : Hint) (k0 : Nat) (own : Own P) (all : Array Oper) (S : Nat → St) (U : Nat → AV) (Pt : Nat → List (Nat × AObj)) (L : Nat → Bool) (φ : Nat → Nat) (β : Beta) (a : Act) (w : World) : Prop where
  size : a.tmps.size = H.nt
  defers : a.defers = []
  slots : ∀ x, V φ β w (slotL L all U (S 0) all.size x) (a.eval (.tmp x))
  inv : WInv own φ β (getL L Pt (getO (S 0).objs) all.size) w
  fresh : ∀ l, (S 0).nx ≤ l → (∀ i, i < all.size → L i = true → ¬ ((S i).nx ≤ l ∧ l < (S (i + 1)).nx)) → β l = none
  closed : Closed all (fun i => L i = true)

variable {k0 : Nat} {Q : Exit → Act → World → Prop}

theorem Now.step (hG : Good P H all S T U Pt) (htop : ∀ l, (S 0).nx ≤ l → getO (S 0).objs l = .dead) {L L' : Nat → Bool} {a : Act} (hN : Now P H k0 own all S U Pt L φ β a w) (hlow : k0 ≤ (S 0).nx) {j : Nat} {o : Oper} (hj : all[j]? = some o) (hjL : L j = false)
    (hpre : ∀ e ∈ o.after, Region.binds .any e = true → L e.on = true) (hL' : L' j = true) (ho : ∀ i, i ≠ j → L' i = L i) {K : Act → World → Prop}
    (hK : ∀ φ' β' a' w', Now P H k0 own all S U Pt L' φ' β' a' w' → Run k0 own φ β w φ' β' w' → K a' w') : wpOp P all Q j K a w := by
  have hR := hG.line j o hj
  have hjn : j < all.size := (Array.getElem?_eq_some_iff.1 hj).1
  have get : ∀ i, i < all.size → ∃ c, all[i]? = some c := fun i hi => ⟨all[i], Array.getElem?_eq_getElem hi⟩
  have hA : ∀ i, ((Region.before all).getD j 0).testBit i = true → L i = true := fun i hb => before_in hN.closed i j o hj hpre hb
  have hB : ∀ i, i < all.size → ((Region.before all).getD i 0).testBit j = true → L i = false := fun i hi hb => by
    cases hl : L i with
    | false => rfl
    | true =>
      obtain ⟨c, hc⟩ := get i hi
      have := before_in hN.closed j i c hc (fun e he hbi => hN.closed i c hc hl e he hbi) hb
      rw [hjL] at this; cases this
  have hi' : ∀ i, i < all.size → (T i).i = i ∧ (T i).wr = keysOf (Pt i) ∧ (T i).n0 = (S i).nx ∧ (T i).n1 = (S (i + 1)).nx := fun i hi => by
    obtain ⟨c, hc⟩ := get i hi
    have := hG.line i c hc
    exact ⟨this.idx, this.wr, this.n0, this.n1⟩
  have bit1 : ∀ i, i < j → ∀ l, (l ∈ keysOf (Pt i) ∧ l ∈ (T j).rd) → L i = true := fun i hij l hl => by
    have := pairOk_bit (hG.pairs i j hij hjn) (l := l) (.inl ⟨by rw [(hi' i (by omega)).2.1]; exact hl.1, hl.2⟩)
    rw [(hi' i (by omega)).1, (hi' j hjn).1] at this
    exact hA i this
  have bit2 : ∀ i, j < i → i < all.size → ∀ l, ((l ∈ keysOf (Pt j) ∧ l ∈ keysOf (Pt i)) ∨ (l ∈ (T j).rd ∧ l ∈ keysOf (Pt i))) → L i = false := fun i hij hi l hl => by
    have := pairOk_bit (hG.pairs j i hij hi) (l := l) (by rw [(hi' i hi).2.1, (hi' j hjn).2.1]; exact .inr hl)
    rw [(hi' i hi).1, (hi' j hjn).1] at this
    exact hB i hi this
  have hdst : ∀ (i x : Nat), (all[i]?).bind (fun c : Oper => c.dst) = some x → ∃ c : Oper, all[i]? = some c ∧ c.dst = some x := fun i x h => by
    obtain ⟨c, hc, h⟩ := Option.bind_eq_some_iff.1 h
    exact ⟨c, hc, h⟩
  have hslot : ∀ x, x ∈ o.looksAt all → slotL L all U (S 0) all.size x = slotAt (S j) x := fun x hx => by
    rw [slot_text hG.line x j (by omega), ← slot_cut all.size (by omega)]
    refine slot_same _ fun i hi hd => ?_
    obtain ⟨c, hc, hd⟩ := hdst i x hd
    rcases Nat.lt_trichotomy i j with h | h | h
    · simp only [h, decide_true]
      exact hA i (slotPair_bit (hG.slots i j c o h hc hj) (.inl ⟨x, hd, .inl hx⟩))
    · subst h; simp [hjL]
    · have : ¬ i < j := by omega
      simp only [this, decide_false]
      exact hB i hi (slotPair_bit (hG.slots j i o c h hj hc) (.inr ⟨x, hd, hx⟩))
  have hget : ∀ l, l ∈ (T j).rd → getL L Pt (getO (S 0).objs) all.size l = getO (S j).objs l := fun l hl => by
    rw [get_text hG.line j (by omega), ← get_cut all.size (by omega)]
    refine get_same _ fun i hi hd => ?_
    rcases Nat.lt_trichotomy i j with h | h | h
    · simp only [h, decide_true]; exact bit1 i h l ⟨hd, hl⟩
    · subst h; simp [hjL]
    · have : ¬ i < j := by omega
      simp only [this, decide_false]
      exact bit2 i h hi l (.inr ⟨hl, hd⟩)
  have hfresh : ∀ l, (S j).nx ≤ l → l < (S (j + 1)).nx → getL L Pt (getO (S 0).objs) all.size l = .dead ∧ β l = none := fun l h1 h2 => by
    have h0 : (S 0).nx ≤ l := Nat.le_trans (hG.mono 0 j (by omega) (by omega)) h1
    refine ⟨?_, hN.fresh l h0 fun i hi hl hr => ?_⟩
    · rw [← htop l h0, ← get_none (Pt := Pt) (g0 := getO (S 0).objs) (l := l) all.size]
      refine get_same _ fun i hi hd => ?_
      rcases Nat.lt_trichotomy i j with h | h | h
      · obtain ⟨c, hc⟩ := get i hi
        have := (hG.line i c hc).keys l hd
        have := hG.mono (i + 1) j (by omega) (by omega)
        omega
      · subst h; exact hjL
      · refine bit2 i h hi l (.inl ⟨?_, hd⟩)
        rw [← (hi' j hjn).2.1]
        exact hG.new j hjn l (by rw [(hi' j hjn).2.2.1]; exact h1) (by rw [(hi' j hjn).2.2.2]; exact h2)
    · rcases Nat.lt_trichotomy i j with h | h | h
      · have := hG.mono (i + 1) j (by omega) (by omega); omega
      · subst h; rw [hjL] at hl; cases hl
      · have := hG.mono (j + 1) i (by omega) (by omega); omega
  refine hR.run own (getL L Pt (getO (S 0).objs) all.size) φ β a w hget hfresh hN.size (fun x hx => by rw [← hslot x hx]; exact hN.slots x) hN.inv Q K (fun φ' β' u w' hst hV hW => hK φ' β' _ w' ?_ (hst.run (Nat.le_trans hlow (hG.mono 0 j (by omega) (by omega)))))
  refine ⟨by rw [put_size]; exact hN.size, by rw [put_defers]; exact hN.defers, fun x => ?_, ?_, fun l h0 hr => ?_, fun i c hc hl e he hb => ?_⟩
  · rw [slot_put hL' ho all.size hjn (fun i hij hi hd1 hd2 => by
      obtain ⟨c, hc, hd2⟩ := hdst i x hd2
      obtain ⟨c', hc', hd1⟩ := hdst j x hd1
      rw [hj] at hc'; cases hc'
      exact hB i hi (slotPair_bit (hG.slots j i o c hij hj hc) (.inl ⟨x, hd1, .inr hd2⟩))), put_at (fun d hd => by rw [hN.size]; exact hR.dst d hd), hj]
    simp only [Option.bind_some]
    split
    · exact hV
    · exact V.keep hst.keeps hst.ext _ _ (hN.slots x)
  · have : getL L' Pt (getO (S 0).objs) all.size = upd (Pt j) (getL L Pt (getO (S 0).objs) all.size) := by
      funext l
      exact get_put hL' ho all.size hjn fun i hij hi h1 h2 => bit2 i hij hi l (.inl ⟨h1, h2⟩)
    rw [this]; exact hW
  · rw [hst.agree l (hr j hjn hL')]
    exact hN.fresh l h0 fun i hi hl => hr i hi (by
      by_cases e : i = j
      · subst e; exact hL'
      · rw [ho i e]; exact hl)
  · have hl : L' i = true := hl
    show L' e.on = true
    by_cases e' : i = j
    · subst e'
      rw [hj] at hc; cases hc
      have := hpre e he hb
      by_cases e2 : e.on = i
      · rw [e2]; exact hL'
      · rw [ho _ e2]; exact this
    · rw [ho i e'] at hl
      have := hN.closed i c hc hl e he hb
      by_cases e2 : e.on = j
      · rw [e2]; exact hL'
      · rw [ho _ e2]; exact this

def left (listed : Array Bool) (n : Nat) : Nat := ((List.range n).filter fun i => !listed.getD i false).length

theorem left_set {listed : Array Bool} {n j : Nat} (hj : j < n) (hs : listed.size = n) (hf : listed.getD j false = false) : left (listed.setIfInBounds j true) n < left listed n := by
  unfold left
  have key : (List.range n).filter (fun i => !(listed.setIfInBounds j true).getD i false) = ((List.range n).filter fun i => !listed.getD i false).filter (fun i => i != j) := by
    rw [List.filter_filter]
    refine List.filter_congr fun i hi => ?_
    by_cases e : i = j
    · subst e
      simp [hs, hj]
    · rw [getD_set_ne false (Ne.symm e)]
      simp [e]
  rw [key]
  refine List.length_filter_lt_length_iff_exists.2 ⟨j, ?_, by simp⟩
  rw [List.mem_filter]
  exact ⟨List.mem_range.2 hj, by rw [hf]; rfl⟩

theorem Good.any (hG : Good P H all S T U Pt) (htop : ∀ l, (S 0).nx ≤ l → getO (S 0).objs l = .dead) (hlow : k0 ≤ (S 0).nx)
    {φ0 : Nat → Nat} {β0 : Beta} {w0 : World} (hQ : ∀ φ' β' a' w', Rel H k0 own φ' β' (S all.size) a' w' → Run k0 own φ0 β0 w0 φ' β' w' → Q .normal a' w') :
    ∀ (fuel : Nat) (listed : Array Bool) (φ : Nat → Nat) (β : Beta) (a : Act) (w : World), listed.size = all.size → left listed all.size ≤ fuel → Now P H k0 own all S U Pt (fun i => listed.getD i false) φ β a w → Run k0 own φ0 β0 w0 φ β w →
      wpAny P .any all Q fuel listed a w := by
  have done : ∀ (listed : Array Bool) (φ : Nat → Nat) (β : Beta) (a : Act) (w : World), listed.size = all.size → Now P H k0 own all S U Pt (fun i => listed.getD i false) φ β a w → Run k0 own φ0 β0 w0 φ β w → Region.ready .any all listed = [] → Q .normal a w := by
    intro listed φ β a w hs hN hrun hr
    have hall : ∀ j, j < all.size → listed.getD j false = true := by
      intro j
      induction j using Nat.strongRecOn with
      | _ j ih =>
        intro hj
        cases hl : listed.getD j false with
        | true => rfl
        | false =>
          have hmem : j ∈ Region.ready .any all listed := by
            rw [mem_ready]
            refine ⟨?_, all[j], Array.getElem?_eq_getElem hj, fun e he hbi => ?_⟩
            · have hlt : j < listed.size := by omega
              simpa [hlt] using hl
            · have hlt := hG.edges j all[j] (Array.getElem?_eq_getElem hj) e he hbi
              exact ih e.on hlt (by omega)
          rw [hr] at hmem; cases hmem
    refine hQ φ β a w ⟨hN.size, hN.defers, fun x => ?_, ?_, fun l hl => ?_, Nat.le_trans hlow (hG.mono 0 _ (by omega) (Nat.le_refl _))⟩ hrun
    · rw [slot_text hG.line x all.size (Nat.le_refl _), slot_same (L' := fun i => listed.getD i false) all.size fun i hi _ => (hall i hi).symm]
      exact hN.slots x
    · have : getO (S all.size).objs = getL (fun i => listed.getD i false) Pt (getO (S 0).objs) all.size := by
        rw [get_text hG.line all.size (Nat.le_refl _)]
        funext l
        exact get_same _ fun i hi _ => (hall i hi).symm
      rw [this]; exact hN.inv
    · have h0 : (S 0).nx ≤ l := Nat.le_trans (hG.mono 0 _ (by omega) (Nat.le_refl _)) hl
      refine ⟨?_, hN.fresh l h0 fun i hi _ hr => ?_⟩
      · rw [get_text hG.line all.size (Nat.le_refl _), ← htop l h0, ← get_none (Pt := Pt) (g0 := getO (S 0).objs) (l := l) all.size]
        refine get_same _ fun i hi hd => ?_
        have := (hG.line i all[i] (Array.getElem?_eq_getElem hi)).keys l hd
        have := hG.mono (i + 1) all.size (by omega) (Nat.le_refl _)
        omega
      · have := hG.mono (i + 1) all.size (by omega) (Nat.le_refl _)
        omega
  intro fuel
  induction fuel with
  | zero =>
    intro listed φ β a w hs hf hN hrun
    have hr : Region.ready .any all listed = [] := by
      cases hl : Region.ready .any all listed with
      | nil => rfl
      | cons j r =>
        have hm : j ∈ Region.ready .any all listed := by rw [hl]; simp
        rw [mem_ready] at hm
        obtain ⟨h1, o, h2, _⟩ := hm
        have hj : j < all.size := (Array.getElem?_eq_some_iff.1 h2).1
        have : left listed all.size ≠ 0 := by
          unfold left
          intro h0
          have h0 := List.eq_nil_of_length_eq_zero h0
          have hm : j ∈ (List.range all.size).filter (fun i => !listed.getD i false) := by
            rw [List.mem_filter]
            refine ⟨List.mem_range.2 hj, ?_⟩
            have hlt : j < listed.size := by omega
            simp [hlt] at h1 ⊢
            exact h1
          rw [h0] at hm; cases hm
        omega
    exact ⟨hr, done listed φ β a w hs hN hrun hr⟩
  | succ fuel ih =>
    intro listed φ β a w hs hf hN hrun
    refine ⟨done listed φ β a w hs hN hrun, fun j hj => ?_⟩
    rw [mem_ready] at hj
    obtain ⟨h1, o, h2, h3⟩ := hj
    have hjn : j < all.size := (Array.getElem?_eq_some_iff.1 h2).1
    have hlt : j < listed.size := by omega
    have hjf : listed.getD j false = false := by simp [hlt] at h1 ⊢; exact h1
    refine hN.step hG htop hlow h2 hjf h3 (L' := fun i => (listed.setIfInBounds j true).getD i false) (by simp [hlt]) (fun i hi => getD_set_ne false (Ne.symm hi)) fun φ' β' a' w' hN' hrun' => ?_
    exact ih _ φ' β' a' w' (by simpa using hs) (by have := left_set hjn hs hjf; omega) hN' (hrun.trans hrun')
end
end Go.Sim
