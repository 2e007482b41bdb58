/-
  SimU: a region that draws its order: in whatever order its operations come, they come to what the text's own order comes to.
-/
import Derived.Test.YtpkjlefincabiaaDoorSimT
namespace Go.Sim
set_option linter.unusedSectionVars false
set_option linter.unusedSimpArgs false
set_option linter.unusedVariables false

theorem anyIn_false : ∀ {a b : List Nat}, anyIn a b = false → ∀ x, x ∈ a → x ∉ b
  | [], b, _, x, hx => by simp at hx
  | y :: r, b, h, x, hx => by
    simp only [anyIn, Bool.or_eq_false_iff] at h
    rcases List.mem_cons.1 hx with rfl | hx
    · intro hb; have := has_mem.2 hb; rw [h.1] at this; cases this
    · exact anyIn_false h.2 x hx
theorem newIn_spec {wr : List Nat} : ∀ {k i : Nat}, newIn wr i k = true → ∀ l, i ≤ l → l < i + k → l ∈ wr
  | 0, i, _, l, h1, h2 => by omega
  | k + 1, i, h, l, h1, h2 => by
    simp only [newIn, Bool.and_eq_true] at h
    by_cases e : l = i
    · subst e; exact has_mem.1 h.1
    · exact newIn_spec h.2 l (by omega) (by omega)

/-! ### What stands ahead of what -/
def befStep (acc : Array Nat) (o : Oper) : Array Nat :=
  acc.push (o.after.foldl (fun s e => if Region.binds .any e then s ||| 2 ^ e.on ||| acc.getD e.on 0 else s) 0)
theorem before_eq (ops : Array Oper) : Region.before ops = ops.toList.foldl befStep #[] := by
  unfold Region.before
  rw [← Array.foldl_toList]
  rfl
theorem bef_size : ∀ (l : List Oper) (acc : Array Nat), (l.foldl befStep acc).size = acc.size + l.length
  | [], acc => by simp
  | o :: l, acc => by simp only [List.foldl_cons]; rw [bef_size l]; simp [befStep]; omega
theorem bef_old : ∀ (l : List Oper) (acc : Array Nat) (j : Nat), j < acc.size → (l.foldl befStep acc).getD j 0 = acc.getD j 0
  | [], acc, j, h => rfl
  | o :: l, acc, j, h => by
    simp only [List.foldl_cons]
    rw [bef_old l (befStep acc o) j (by simp [befStep]; omega)]
    have e : j ≠ acc.size := by omega
    simp [befStep, Array.getElem?_push, e]
theorem fold_bit (acc : Array Nat) (i : Nat) : ∀ (es : List Edge) (s : Nat), (es.foldl (fun s e => if Region.binds .any e then s ||| 2 ^ e.on ||| acc.getD e.on 0 else s) s).testBit i = true →
    s.testBit i = true ∨ ∃ e ∈ es, Region.binds .any e = true ∧ (e.on = i ∨ (acc.getD e.on 0).testBit i = true)
  | [], s, h => .inl h
  | e :: es, s, h => by
    simp only [List.foldl_cons] at h
    rcases fold_bit acc i es _ h with h | ⟨e', he', hb, h⟩
    · split at h
      · rename_i hb
        simp only [Nat.testBit_or, Bool.or_eq_true] at h
        rcases h with (h | h) | h
        · exact .inl h
        · rw [Nat.testBit_two_pow] at h
          exact .inr ⟨e, by simp, hb, .inl (by simpa using h)⟩
        · exact .inr ⟨e, by simp, hb, .inr h⟩
      · exact .inl h
    · exact .inr ⟨e', List.mem_cons_of_mem _ he', hb, h⟩
theorem bef_bit : ∀ (l : List Oper) (acc : Array Nat) (k : Nat) (o : Oper) (i : Nat), l[k]? = some o → ((l.foldl befStep acc).getD (acc.size + k) 0).testBit i = true →
    ∃ e ∈ o.after.toList, Region.binds .any e = true ∧ (e.on = i ∨ (e.on < acc.size + k ∧ ((l.foldl befStep acc).getD e.on 0).testBit i = true))
  | [], acc, k, o, i, h, _ => by simp at h
  | o' :: l, acc, 0, o, i, h, hb => by
    simp at h
    subst h
    simp only [List.foldl_cons, Nat.add_zero] at hb ⊢
    rw [bef_old l _ _ (by simp [befStep])] at hb
    have e1 : (befStep acc o').getD acc.size 0 = o'.after.foldl (fun s e => if Region.binds .any e then s ||| 2 ^ e.on ||| acc.getD e.on 0 else s) 0 := by
      simp [befStep]
    rw [e1, ← Array.foldl_toList] at hb
    rcases fold_bit acc i _ _ hb with hb | ⟨e, he, hbi, hb⟩
    · simp at hb
    · refine ⟨e, he, hbi, ?_⟩
      rcases hb with hb | hb
      · exact .inl hb
      · have hlt : e.on < acc.size := by
          rcases Nat.lt_or_ge e.on acc.size with h | h
          · exact h
          · simp [h] at hb
        refine .inr ⟨hlt, ?_⟩
        rw [bef_old l _ _ (by simp [befStep]; omega)]
        have : (befStep acc o').getD e.on 0 = acc.getD e.on 0 := by
          have e' : e.on ≠ acc.size := by omega
          simp [befStep, Array.getElem?_push, e']
        rw [this]; exact hb
  | o' :: l, acc, k + 1, o, i, h, hb => by
    simp only [List.foldl_cons] at hb ⊢
    have hs : (befStep acc o').size = acc.size + 1 := by simp [befStep]
    have := bef_bit l (befStep acc o') k o i (by simpa using h) (by rw [hs]; rw [show acc.size + 1 + k = acc.size + (k + 1) from by omega]; exact hb)
    obtain ⟨e, he, hbi, h1⟩ := this
    refine ⟨e, he, hbi, ?_⟩
    rcases h1 with h1 | ⟨h1, h2⟩
    · exact .inl h1
    · exact .inr ⟨by rw [hs] at h1; omega, h2⟩

/-- Listed operations, and with each all that it waits for. -/
def Closed (ops : Array Oper) (L : Nat → Prop) : Prop := ∀ j o, ops[j]? = some o → L j → ∀ e ∈ o.after, Region.binds .any e = true → L e.on
theorem before_in {ops : Array Oper} {L : Nat → Prop} (hL : Closed ops L) (i : Nat) : ∀ (j : Nat) (o : Oper), ops[j]? = some o → (∀ e ∈ o.after, Region.binds .any e = true → L e.on) → ((Region.before ops).getD j 0).testBit i = true → L i := by
  intro j
  induction j using Nat.strongRecOn with
  | _ j ih =>
    intro o ho he hb
    rw [before_eq] at hb
    have := bef_bit ops.toList #[] j o i (by simpa using ho) (by simpa using hb)
    obtain ⟨e, hm, hbi, h⟩ := this
    have hon := he e (by simpa using hm) hbi
    rcases h with h | ⟨h1, h2⟩
    · rw [← h]; exact hon
    · simp only [Array.size_empty, Nat.zero_add] at h1
      have hlt : j < ops.size := (Array.getElem?_eq_some_iff.1 ho).1
      obtain ⟨o', ho'⟩ : ∃ o', ops[e.on]? = some o' := ⟨ops[e.on]'(by omega), Array.getElem?_eq_getElem (by omega)⟩
      exact ih e.on h1 o' ho' (fun e' he' hb' => hL e.on o' ho' hon e' he' hb') (by rw [before_eq]; exact h2)

section
variable {P : Program} [Tabs P] {H : Hint} {all : Array Oper}
variable {own : Own P} {φ φ' : Nat → Nat} {β β' : Beta} {w w' : World}
variable {R : Type}

/-- A row of operations by their places. -/
def Line (P : Program) [Tabs P] (H : Hint) (all : Array Oper) (S : Nat → St) (T : Nat → Tr) (U : Nat → AV) (Pt : Nat → List (Nat × AObj)) : Prop :=
  ∀ i o, all[i]? = some o → RecGood P H all i o (S i) (T i) (S (i + 1)) (U i) (Pt i)

theorem pairsOk_tail {bits : Array Nat} : ∀ {x y : List Tr}, pairsOk bits (x ++ y) = true → pairsOk bits y = true
  | [], y, h => h
  | a :: x, y, h => by
    simp only [List.cons_append, pairsOk, Bool.and_eq_true] at h
    exact pairsOk_tail h.2
theorem Chain.line {bits : Array Nat} : ∀ {l : List Oper} {i : Nat} {s s' : St} {tr tr' : List Tr}, Chain P H all i l s tr s' tr' → pairsOk bits tr' = true → ∃ (S : Nat → St) (T : Nat → Tr) (U : Nat → AV) (Pt : Nat → List (Nat × AObj)),
    S i = s ∧ S (i + l.length) = s' ∧ (∀ j o, l[j]? = some o → RecGood P H all (i + j) o (S (i + j)) (T (i + j)) (S (i + j + 1)) (U (i + j)) (Pt (i + j))) ∧
    (∃ x, tr' = x ++ tr) ∧ (∀ j, j < l.length → T (i + j) ∈ tr') ∧ (∀ a ∈ tr, ∀ j, j < l.length → pairOk bits a (T (i + j)) = true) ∧ (∀ j k, j < k → k < l.length → pairOk bits (T (i + j)) (T (i + k)) = true)
  | [], i, s, s', tr, tr', hC, hp => by
    cases hC
    exact ⟨fun _ => s, fun _ => ⟨0, [], [], 0, 0⟩, fun _ => .undef, fun _ => [], rfl, rfl, by simp, ⟨[], rfl⟩, by simp, by simp, fun j k _ hk => by simp at hk⟩
  | o :: l, i, s, s', tr, tr', hC, hp => by
    cases hC with
    | @cons _ _ _ _ _ s1 t v pat _ _ hR hC =>
      obtain ⟨S, T, U, Pt, h1, h2, h3, ⟨x, hx⟩, h4, h5, h6⟩ := Chain.line hC hp
      have hpt : pairsOk bits (t :: tr) = true := by rw [hx] at hp; exact pairsOk_tail hp
      simp only [pairsOk, Bool.and_eq_true, List.all_eq_true] at hpt
      refine ⟨fun j => if j = i then s else S j, fun j => if j = i then t else T j, fun j => if j = i then v else U j, fun j => if j = i then pat else Pt j, by simp, ?_, ?_, ⟨x ++ [t], by simp [hx]⟩, ?_, ?_, ?_⟩
      · have : i + (o :: l).length ≠ i := by simp
        simp only [this, if_false]
        rw [← h2]; congr 1; simp; omega
      · intro j o' hj
        cases j with
        | zero =>
          simp at hj
          subst hj
          simpa [h1] using hR
        | succ j =>
          have e1 : i + (j + 1) ≠ i := by omega
          have e2 : i + (j + 1) + 1 ≠ i := by omega
          simp only [e1, e2, if_false]
          have := h3 j o' (by simpa using hj)
          have e3 : i + 1 + j = i + (j + 1) := by omega
          rw [e3] at this
          exact this
      · intro j hj
        cases j with
        | zero => simp [hx]
        | succ j =>
          have e1 : i + (j + 1) ≠ i := by omega
          simp only [e1, if_false]
          have := h4 j (by simpa using hj)
          rw [show i + 1 + j = i + (j + 1) from by omega] at this
          exact this
      · intro a ha j hj
        cases j with
        | zero => simpa using hpt.1 a ha
        | succ j =>
          have e1 : i + (j + 1) ≠ i := by omega
          simp only [e1, if_false]
          have := h5 a (List.mem_cons_of_mem _ ha) j (by simpa using hj)
          rw [show i + 1 + j = i + (j + 1) from by omega] at this
          exact this
      · intro j k hjk hk
        cases k with
        | zero => omega
        | succ k =>
          have e1 : i + (k + 1) ≠ i := by omega
          simp only [e1, if_false]
          cases j with
          | zero =>
            have := h5 t (by simp) k (by simpa using hk)
            rw [show i + 1 + k = i + (k + 1) from by omega] at this
            simpa using this
          | succ j =>
            have e2 : i + (j + 1) ≠ i := by omega
            simp only [e2, if_false]
            have := h6 j k (by omega) (by simpa using hk)
            rw [show i + 1 + k = i + (k + 1) from by omega, show i + 1 + j = i + (j + 1) from by omega] at this
            exact this

/-! ### What slots and objects hold behind some of the operations -/
def slotL (L : Nat → Bool) (all : Array Oper) (U : Nat → AV) (s0 : St) : Nat → Nat → AV
  | 0, x => slotAt s0 x
  | k + 1, x => if L k = true ∧ (all[k]?).bind (·.dst) = some x then U k else slotL L all U s0 k x
def getL (L : Nat → Bool) (Pt : Nat → List (Nat × AObj)) (g0 : Nat → AObj) : Nat → Nat → AObj
  | 0, l => g0 l
  | k + 1, l => if L k = true then upd (Pt k) (getL L Pt g0 k) l else getL L Pt g0 k l

variable {S : Nat → St} {T : Nat → Tr} {U : Nat → AV} {Pt : Nat → List (Nat × AObj)}

theorem slot_same {L L' : Nat → Bool} {s0 : St} {x : Nat} : ∀ n, (∀ i, i < n → (all[i]?).bind (·.dst) = some x → L i = L' i) → slotL L all U s0 n x = slotL L' all U s0 n x
  | 0, _ => rfl
  | n + 1, h => by
    simp only [slotL]
    rw [slot_same n fun i hi => h i (by omega)]
    by_cases hd : (all[n]?).bind (·.dst) = some x
    · rw [h n (by omega) hd]
    · simp [hd]
theorem slot_cut {s0 : St} {x j : Nat} : ∀ n, j ≤ n → slotL (fun i => decide (i < j)) all U s0 n x = slotL (fun _ => true) all U s0 j x
  | 0, h => by
    obtain rfl : j = 0 := by omega
    rfl
  | n + 1, h => by
    by_cases e : j = n + 1
    · subst e
      exact slot_same (n + 1) fun i hi _ => by simp [hi]
    · have : ¬ n < j := by omega
      simp only [slotL]
      simp only [this, decide_false, Bool.false_eq_true, false_and, if_false]
      exact slot_cut n (by omega)
theorem slot_text (hL : Line P H all S T U Pt) (x : Nat) : ∀ n, n ≤ all.size → slotAt (S n) x = slotL (fun _ => true) all U (S 0) n x
  | 0, _ => rfl
  | n + 1, h => by
    have hg := hL n all[n] (Array.getElem?_eq_getElem (by omega))
    simp only [slotL, true_and]
    rw [hg.slots, slot_text hL x n (by omega), Array.getElem?_eq_getElem (by omega : n < all.size)]
    simp
theorem slot_put {L L' : Nat → Bool} {s0 : St} {x j : Nat} (hj : L' j = true) (ho : ∀ i, i ≠ j → L' i = L i) : ∀ n, j < n → (∀ i, j < i → i < n → (all[j]?).bind (·.dst) = some x → (all[i]?).bind (·.dst) = some x → L i = false) →
    slotL L' all U s0 n x = if (all[j]?).bind (·.dst) = some x then U j else slotL L all U s0 n x
  | 0, h, _ => by omega
  | n + 1, h, hw => by
    by_cases e : j = n
    · subst e
      simp only [slotL, hj, true_and]
      by_cases hd : (all[j]?).bind (·.dst) = some x
      · simp [hd]
      · simp only [hd, if_false, and_false]
        exact slot_same j fun i hi _ => ho i (by omega)
    · simp only [slotL]
      rw [ho n (by omega), slot_put hj ho n (by omega) fun i h1 h2 => hw i h1 (by omega)]
      by_cases hd : (all[j]?).bind (·.dst) = some x
      · simp only [hd, if_true]
        by_cases hn : (all[n]?).bind (·.dst) = some x
        · rw [hw n (by omega) (by omega) hd hn]; simp
        · simp [hn]
      · simp [hd]

theorem get_same {L L' : Nat → Bool} {g0 : Nat → AObj} {l : Nat} : ∀ n, (∀ i, i < n → l ∈ keysOf (Pt i) → L i = L' i) → getL L Pt g0 n l = getL L' Pt g0 n l
  | 0, _ => rfl
  | n + 1, h => by
    simp only [getL]
    have ih := get_same (g0 := g0) n fun i hi => h i (by omega)
    by_cases hd : l ∈ keysOf (Pt n)
    · rw [h n (by omega) hd, upd_in (get' := getL L' Pt g0 n) hd, ih]
    · rw [upd_out hd, upd_out hd, ih]; simp
theorem get_cut {g0 : Nat → AObj} {l j : Nat} : ∀ n, j ≤ n → getL (fun i => decide (i < j)) Pt g0 n l = getL (fun _ => true) Pt g0 j l
  | 0, h => by
    obtain rfl : j = 0 := by omega
    rfl
  | n + 1, h => by
    by_cases e : j = n + 1
    · subst e
      exact get_same (n + 1) fun i hi _ => by simp [hi]
    · have : ¬ n < j := by omega
      simp only [getL]
      simp only [this, decide_false, Bool.false_eq_true, if_false]
      exact get_cut n (by omega)
theorem get_text (hL : Line P H all S T U Pt) : ∀ n, n ≤ all.size → getO (S n).objs = getL (fun _ => true) Pt (getO (S 0).objs) n
  | 0, _ => rfl
  | n + 1, h => by
    have hg := hL n all[n] (Array.getElem?_eq_getElem (by omega))
    funext l
    simp only [getL, if_true]
    rw [hg.objs, getO_append, get_text hL n (by omega)]
theorem get_put {L L' : Nat → Bool} {g0 : Nat → AObj} {l j : Nat} (hj : L' j = true) (ho : ∀ i, i ≠ j → L' i = L i) : ∀ n, j < n → (∀ i, j < i → i < n → l ∈ keysOf (Pt j) → l ∈ keysOf (Pt i) → L i = false) →
    getL L' Pt g0 n l = upd (Pt j) (getL L Pt g0 n) l
  | 0, h, _ => by omega
  | n + 1, h, hw => by
    by_cases e : j = n
    · subst e
      simp only [getL, hj, if_true]
      by_cases hd : l ∈ keysOf (Pt j)
      · exact upd_in hd
      · have e1 : getL L' Pt g0 j l = getL L Pt g0 j l := get_same j fun i hi _ => ho i (by omega)
        have e2 : getL L Pt g0 (j + 1) l = getL L Pt g0 j l := by
          rw [getL]; split
          · exact upd_out hd
          · rfl
        rw [upd_out hd, upd_out hd]
        first | exact e1.trans e2.symm | (rw [e1]; exact e2.symm)
    · simp only [getL]
      rw [ho n (by omega)]
      have ih := get_put (g0 := g0) (l := l) hj ho n (by omega) fun i h1 h2 => hw i h1 (by omega)
      by_cases hd : l ∈ keysOf (Pt j)
      · rw [upd_in (get' := getL L Pt g0 n) hd, ← ih]
        by_cases hn : l ∈ keysOf (Pt n)
        · rw [hw n (by omega) (by omega) hd hn]; simp
        · rw [upd_out hn]; simp
      · rw [upd_out hd] at ih ⊢
        try simp only [getL]
        by_cases hn : l ∈ keysOf (Pt n)
        · rw [upd_in (get' := getL L Pt g0 n) hn, ih]
        · rw [upd_out hn, upd_out hn, ih]
end
end Go.Sim
