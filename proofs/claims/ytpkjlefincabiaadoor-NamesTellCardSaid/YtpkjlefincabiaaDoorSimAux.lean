/-
  SimAux: small laws for proofs over the abstract machine's equations.
-/
import Derived.Test.YtpkjlefincabiaaDoorSimEntry
namespace Go.Sim
set_option linter.unusedSectionVars false
set_option linter.unusedSimpArgs false
set_option linter.unusedVariables false

theorem wrap_in {k : IntKind} {n : Int} (h : In k n) : k.wrap n = n := by
  have h1 := h.1
  have h2 := h.2
  cases k <;> simp [IntKind.min, IntKind.max, IntKind.bits, IntKind.signed] at h1 h2 <;> simp [IntKind.wrap, IntKind.bits, IntKind.signed] <;> omega
theorem In.i64 {n : Int} : In .i64 n ↔ -9223372036854775808 ≤ n ∧ n ≤ 9223372036854775807 := by
  unfold In; rw [show IntKind.i64.min = -9223372036854775808 by decide, show IntKind.i64.max = 9223372036854775807 by decide]
theorem In.u64 {n : Int} : In .u64 n ↔ 0 ≤ n ∧ n ≤ 18446744073709551615 := by
  unfold In; rw [show IntKind.u64.min = 0 by decide, show IntKind.u64.max = 18446744073709551615 by decide]
theorem In.u32 {n : Int} : In .u32 n ↔ 0 ≤ n ∧ n ≤ 4294967295 := by
  unfold In; rw [show IntKind.u32.min = 0 by decide, show IntKind.u32.max = 4294967295 by decide]
theorem In.u8' {n : Int} : In .u8 n ↔ 0 ≤ n ∧ n ≤ 255 := by
  unfold In; rw [show IntKind.u8.min = 0 by decide, show IntKind.u8.max = 255 by decide]
theorem In.i32 {n : Int} : In .i32 n ↔ -2147483648 ≤ n ∧ n ≤ 2147483647 := by
  unfold In; rw [show IntKind.i32.min = -2147483648 by decide, show IntKind.i32.max = 2147483647 by decide]
theorem wrap64 {n : Int} (h1 : -9223372036854775808 ≤ n) (h2 : n ≤ 9223372036854775807) : IntKind.i64.wrap n = n := wrap_in (In.i64.2 ⟨h1, h2⟩)
theorem wrapu64 {n : Int} (h1 : 0 ≤ n) (h2 : n ≤ 18446744073709551615) : IntKind.u64.wrap n = n := wrap_in (In.u64.2 ⟨h1, h2⟩)
theorem wrapu64_mod (n : Int) : IntKind.u64.wrap n = n % 18446744073709551616 := by simp [IntKind.wrap, IntKind.bits, IntKind.signed]

theorem cond_ite {α : Type _} {p : Prop} [Decidable p] {a b : α} : cond (decide p) a b = if p then a else b := by by_cases h : p <;> simp [h]
theorem cond_pos {α : Type _} {p : Prop} [Decidable p] {a b : α} (h : p) : cond (decide p) a b = a := by simp [h]
theorem cond_neg {α : Type _} {p : Prop} [Decidable p] {a b : α} (h : ¬ p) : cond (decide p) a b = b := by simp [h]
theorem cond_pos2 {α : Type _} {p q : Prop} [Decidable p] [Decidable q] {a b : α} (h : p) (h' : q) : cond (decide p && decide q) a b = a := by simp [h, h']
theorem cond_some' {α : Type _} {c : Bool} {a b : α} : cond c (some a) (some b) = some (cond c a b) := by cases c <;> rfl
theorem cond_and_none {α : Type _} {a b : Bool} {x : Option α} : cond (a && b) x none = cond a (cond b x none) none := by cases a <;> rfl
theorem cond_same {α : Type _} {c : Bool} {x : α} : cond c x x = x := by cases c <;> rfl
theorem bind_cond {α β : Type} {c : Bool} {a b : Option α} {f : α → Option β} : (cond c a b).bind f = cond c (a.bind f) (b.bind f) := by cases c <;> rfl
theorem pick_one {α : Type} {v y : α} (h : pick [(true, v)] = some y) : y = v := by simpa [pick] using h.symm
theorem pick_pre {α : Type} {c : Bool} {v y : α} (h : pick [(c, v)] = some y) : c = true ∧ y = v := by
  cases c with
  | true => exact ⟨rfl, by simpa [pick] using h.symm⟩
  | false => cases h

section
variable {P : Program} [Tabs P] {E : Env} {H : Hint} {k0 : Nat} {R : Type}
theorem noLoops {c : Code} : LoopsGood P H k0 (LPof (R := R) []) c := LPof_good fun b _ lc h => by cases h
/-- A function's loops, each by its number. -/
theorem loops_good {tab : List (Nat × LoopC)} {c : Code} (hd : distinctB ((loopsIn c).map firstRegion) = true) (h : ∀ x ∈ tab, LoopOK P H k0 (findL x.1 (loopsIn c)) x.2) : LoopsGood P H k0 (LPof (R := R) tab) c :=
  LPof_good fun b hb lc hlc => by
    have := h _ (lk?_mem hlc)
    rw [findL_mem hd hb] at this
    exact this
theorem loop_ok (hE : EnvOK P E) (hg : GlobOK P E) (hm : P.follows .mixedOrders = true) {b : Code} {tab : List (Nat × LoopC)} (hb : LoopsGood P H k0 (LPof (R := Ex × St) tab) b) (live : List Nat) {c : LoopC} (hk : c.pat.keys = true)
    (h : ∀ x e s', pick (c.f x) = some (e, s') → c.pat.wf x → ∃ n, rounds E H k0 (LPof tab) live b n (c.pat.mk' x) (fun e s => some (e, s)) = some (e, s')) : LoopOK P H k0 b c :=
  ⟨hk, fun x e s' hp hw => by
    obtain ⟨n, hn⟩ := h x e s' hp hw
    exact loop_good hE hg hm hb hn⟩
theorem rounds_succ' {LP : Loops R} {live : List Nat} {b : Code} {n : Nat} {s : St} {K : Ex → St → Option R} : rounds E H k0 LP live b (n + 1) s K = roundK E H k0 LP live b s fun e s2 => match e with
    | .normal => rounds E H k0 LP live b n s2 K
    | e => K e s2 := rfl
/-- A loop's contract: where 'pre' holds, the first open one of 'alts'. -/
def LoopC.of (pat : SPat) (pre : pat.den → Bool) (alts : pat.den → List (Bool × Ex × St)) : LoopC := ⟨pat, fun x => (alts x).map fun y => (pre x && y.1, y.2)⟩
theorem pick_all {α : Type} {p : Bool} {v : α} : ∀ {l : List (Bool × α)}, pick (l.map fun y => (p && y.1, y.2)) = some v → p = true ∧ pick l = some v
  | [], h => by cases h
  | (c, u) :: l, h => by
    cases p with
    | false =>
      have := pick_all (l := l) h
      exact absurd this.1 (by simp)
    | true =>
      refine ⟨rfl, ?_⟩
      simp only [List.map, Bool.true_and] at h
      have e : (l.map fun y => (y.1, y.2)) = l := by simp
      rw [e] at h
      exact h
theorem loop_ok_of (hE : EnvOK P E) (hg : GlobOK P E) (hm : P.follows .mixedOrders = true) {b : Code} {tab : List (Nat × LoopC)} (hb : LoopsGood P H k0 (LPof (R := Ex × St) tab) b) (live : List Nat) {pat : SPat} {pre : pat.den → Bool} {alts : pat.den → List (Bool × Ex × St)} (hk : pat.keys = true)
    (h : ∀ x, pre x = true → pat.wf x → ∃ n, rounds E H k0 (LPof tab) live b n (pat.mk' x) (fun e s => some (e, s)) = pick (alts x)) : LoopOK P H k0 b (LoopC.of pat pre alts) :=
  loop_ok hE hg hm hb live hk fun x e s' hp hw => by
    obtain ⟨h1, h2⟩ := pick_all hp
    obtain ⟨n, hn⟩ := h x h1 hw
    exact ⟨n, hn.trans h2⟩
end
end Go.Sim
