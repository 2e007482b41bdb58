/-
  SimO: bytes and strings, maps, elements of arrays by value, calls.
-/
import Derived.Test.YtpkjlefincabiaaDoorSimN
namespace Go.Sim
set_option linter.unusedSectionVars false
set_option linter.unusedSimpArgs false
set_option linter.unusedVariables false
section
variable {P : Program} [Tabs P] {o : Oper} {get : Nat → AObj} {nx : Nat} {ρ : Operand → AV}
variable {own : Own P} {φ φ' : Nat → Nat} {β β' : Beta} {w w' : World}

theorem push_fold : ∀ (l : List Int) (s : List UInt8), (l.foldl (fun r n => r.push (UInt8.ofNat n.toNat)) (⟨s.toArray⟩ : ByteArray)) = ⟨(s ++ ofBytes l).toArray⟩
  | [], s => by simp [ofBytes]
  | n :: l, s => by
    rw [List.foldl_cons]
    have : (⟨s.toArray⟩ : ByteArray).push (UInt8.ofNat n.toNat) = ⟨(s ++ [UInt8.ofNat n.toNat]).toArray⟩ := by
      apply ByteArray.ext
      simp [ByteArray.push]
    rw [this, push_fold l]
    simp [ofBytes]

theorem good_conv_bytes {E : Env} (hE : EnvOK P E) {s d e : TypeId} {x : Operand} {rs rd re : TRow} (ho : o.op = .convert s d x) (hs : E.row s = some rs) (hd : E.row d = some rd) (hks : rs.kind = .slice e) (hkd : rd.kind = .str) (hre : E.row e = some re) (hke : re.kind = .int .u8)
    {xs : List Int} {rdl : List Nat} (he : elems get (.int .u8) (ρ x) = some (xs, rdl)) (hns : ∀ s, ρ x ≠ .str s) : OpGood P o get nx ρ (.str (ofBytes xs)) [] rdl nx :=
  .pure fun own get' φ β w ρv hget hvs hW => by
    have hX := hvs x (by simp [ho, Op.operands])
    obtain ⟨news, hsrc⟩ := elems_sound (P := P) he hget hW hX
    have u1 := (hE.row s rs hs).slice_kind hks
    have u2 := (hE.row d rd hd).str_kind hkd
    have u3 := (hE.row e re hre).int_kind hke
    have hnews : news = xs.map (Value.int .u8) := by
      apply List.ext_getElem?
      intro i
      rcases Nat.lt_or_ge i xs.length with hlt | hge
      · obtain ⟨ds, h1, h2⟩ := hsrc.typed i xs[i] (by simp [hlt])
        simp only [Vt] at h1
        obtain ⟨rfl, _⟩ := h1
        have := h2 0 _ rfl
        simp [Ty.sz] at this
        rw [this]
        simp [hlt]
      · rw [List.getElem?_eq_none (by rw [hsrc.len]; simpa [Ty.sz] using hge), List.getElem?_eq_none (by simpa using hge)]
    have hsl : ∃ A len cap, ρv x = .slice A len cap := by
      have hl := hsrc.lenOf w
      have hne : ∀ b, ρv x ≠ .string b := by
        intro b hb
        cases hc : ρ x with
        | str s => exact hns s hc
        | nils => rw [hc] at hX; simp only [V] at hX; obtain ⟨A, h⟩ := hX; rw [h] at hb; cases hb
        | vl t ys => rw [hc] at hX; simp only [V, Vt] at hX; obtain ⟨_, A, cap, h, _⟩ := hX; simp at h; rw [h] at hb; cases hb
        | hw l => rw [hc] at hX; rcases hbb : β l with _ | (_ | p) <;> simp only [V, hbb] at hX
                  · obtain ⟨A, h⟩ := hX; rw [h] at hb; cases hb
                  · obtain ⟨cap, h, _⟩ := hX; rw [h] at hb; cases hb
        | hs l a n => rw [hc] at hX; rcases hbb : β l with _ | (_ | p) <;> simp only [V, hbb] at hX
                      · exact hX.2.elim
                      · obtain ⟨_, _, A, h⟩ := hX; rw [h] at hb; cases hb
                      · obtain ⟨_, A, cap, h, _⟩ := hX; rw [h] at hb; cases hb
        | _ => rw [hc] at he; simp [elems] at he
      cases hv : ρv x with
      | slice A len cap => exact ⟨_, _, _, rfl⟩
      | string b => exact absurd hv (hne b)
      | _ => rw [hv] at hl; simp [Builtin.lenOf] at hl
    obtain ⟨A, len, cap, hv1⟩ := hsl
    have hlen : len = xs.length := by have := hsrc.lenOf w; rw [hv1] at this; simpa [Builtin.lenOf] using this
    subst hlen
    have hmx := elems_max he hget hW hX
    refine ⟨.string ⟨(ofBytes xs).toArray⟩, ?_, rfl, by simpa [ofBytes] using hmx⟩
    have hfirst := hsrc.first w rfl
    rw [hv1, hnews] at hfirst
    have key : (Conv.bytesToString (.slice A xs.length cap)).run P w = .ok (.string ⟨(ofBytes xs).toArray⟩) w := by
      cases A with
      | none =>
        simp [Builtin.firstCells] at hfirst
        subst hfirst
        simp [Conv.bytesToString, ofBytes]
        rfl
      | some a =>
        simp [Builtin.firstCells, Ty.sz] at hfirst
        rw [run_bytesToString (P := P) w a xs.length cap xs (by simpa using hfirst)]
        have := push_fold xs []
        simp at this
        rw [show ByteArray.empty = (⟨#[]⟩ : ByteArray) from rfl, this]
    simp [execOp, ho, hv1, convert, run_underlying u1, run_underlying u2, run_underlying u3, key]

theorem good_conv_tobytes {E : Env} (hE : EnvOK P E) {s d e : TypeId} {x : Operand} {rs rd re : TRow} (ho : o.op = .convert s d x) (hs : E.row s = some rs) (hd : E.row d = some rd) (hks : rs.kind = .str) (hkd : rd.kind = .slice e) (hre : E.row e = some re) (hke : re.kind = .int .u8) {l : List UInt8}
    (hx : ρ x = .str l) : OpGood P o get nx ρ (.vl (.int .u8) (bytesOf l)) [] [] nx := by
  refine ⟨Nat.le_refl _, fun own get' φ β w ρv _ hfr hvs hW => ?_⟩
  have hX := hvs x (by simp [ho, Op.operands])
  rw [hx] at hX
  have hXl := hX.2
  have hX := hX.str_inv
  have u1 := (hE.row s rs hs).str_kind hks
  have u2 := (hE.row d rd hd).slice_kind hkd
  have u3 := (hE.row e re hre).int_kind hke
  have hrun := Lib.run_convert_string_bytes (P := P) w s d e ⟨l.toArray⟩ u1 u2 u3
  have hsz : (⟨l.toArray⟩ : ByteArray).size = l.length := by simp [ByteArray.size]
  obtain ⟨w1, hw1⟩ : ∃ w1, w1 = Lib.bytesWorld w e ⟨l.toArray⟩ := ⟨_, rfl⟩
  have hsize : w1.heap.size = w.heap.size + 1 := by rw [hw1]; exact Lib.bytesWorld_size w e _
  have hold : ∀ j, j < w.heap.size → w1.heap[j]? = w.heap[j]? := fun j hj => by rw [hw1]; exact Lib.bytesWorld_at_old w e _ j hj
  have hcell : ∀ j, j < l.length → w1.cell? ⟨w.heap.size, j, none⟩ = some (.int .u8 (l.getD j 0).toNat) := fun j hj => by
    rw [hw1]
    have := Lib.bytesWorld_cell w e ⟨l.toArray⟩ j (by rw [hsz]; exact hj)
    simpa using this
  obtain ⟨φ', hφ'⟩ : ∃ φ' : Nat → Nat, φ' = fun b => if b = w.heap.size then l.length else φ b := ⟨_, rfl⟩
  have hf := fun b hb => (hW.fresh b hb).2
  have hφo : ∀ b, b < w.heap.size → φ' b = φ b := fun b hb => by rw [hφ']; simp only; rw [if_neg (by omega)]
  have hk : Keeps φ w φ' w1 := by
    refine ⟨fun b => ?_, fun b o v ho hv => ?_, fun b n hr => ?_, by rw [hw1]; rfl, by rw [hw1]; rfl⟩
    · rw [hφ']; simp only
      split
      · rename_i h; rw [h, hf _ (Nat.le_refl _)]; omega
      · exact Nat.le_refl _
    · have hlt : b < w.heap.size := by
        rcases Nat.lt_or_ge b w.heap.size with h | h
        · exact h
        · rw [hf b h] at ho; omega
      rw [cell_of_heap (w := w) (hold b hlt)]; exact hv
    · obtain ⟨c, t, fr, h1, h2⟩ := hr
      exact ⟨c, t, fr, by rw [hold b (Array.getElem?_eq_some_iff.1 h1).1]; exact h1, h2⟩
  have hWI : WInv own φ' β (upd [] get') w1 := by
    rw [upd_nil]
    refine ⟨fun m => ?_, fun m p hm hp => ?_, fun m n p q hmn hm hn hp hq => hW.dist m n p q hmn hm hn hp hq, fun b hb => ⟨(hW.fresh b (by omega)).1, ?_⟩, hW.laid.keep hk⟩
    · by_cases hd : get' m = .dead
      · rw [hd]; trivial
      · exact (hW.rel m).keep hk (.refl _) (fun p hp => ⟨hold _ (hW.mine m p hd hp).2, hφo _ (hW.mine m p hd hp).2⟩)
    · have := hW.mine m p hm hp
      exact ⟨this.1, by omega⟩
    · rw [hφ']; simp only; rw [if_neg (by omega)]; exact hf b (by omega)
  refine .value (w' := w1) (u := .slice (some ⟨w.heap.size, 0, none⟩) l.length (grownCap w l.length 0 e)) ?_ ⟨φ', β, ⟨hk, .refl _, fun _ _ => rfl, by omega, fun b hb _ => ⟨hold b hb, hφo b hb⟩⟩, ?_, hWI⟩
  · rw [hsz] at hrun
    simp [execOp, ho, hX, hrun, hw1]
  · simp only [V, Vt]
    refine ⟨by simpa [bytesOf] using hXl, some ⟨w.heap.size, 0, none⟩, grownCap w l.length 0 e, by simp [bytesOf], by simp [bytesOf]; exact grownCap_ge _ _ _ _, fun i y hy => ⟨⟨w.heap.size, 0, none⟩, [.int .u8 y], rfl, rfl, ⟨rfl, bytesOf_in hy⟩, fun j v hj => ?_⟩⟩
    have hi : i < l.length := by have := (List.getElem?_eq_some_iff.1 hy).1; simpa [bytesOf] using this
    have hyv : y = ((l.getD i 0).toNat : Int) := by
      simp [bytesOf, hi] at hy
      simp [hi, ← hy]
    cases j with
    | zero =>
      simp at hj
      subst hj
      refine ⟨?_, by rw [hφ']; simp [Ty.sz]; omega⟩
      have := hcell i hi
      simp only [Ty.sz, Nat.mul_one, Nat.zero_add, Nat.add_zero]
      rw [this, hyv]
    | succ j => simp at hj

theorem good_index_arr {E : Env} (hE : EnvOK P E) {t e : TypeId} {x i : Operand} {n : Nat} {rw_ re : TRow} (ho : o.op = .index t x i) (hr : E.row t = some rw_) (hk : rw_.kind = .array n e) (hre : E.row e = some re) {k : IntKind} {j : Nat} (hi : ρ i = .int k (.ofNat j)) {cs : List AV} (hx : ρ x = .agg cs)
    (hj : (j : Int) < n) {v : AV} (hl : ((cs.drop (j * re.size)).take re.size).length = re.size) (hw : whole re.kind.isAgg ((cs.drop (j * re.size)).take re.size) = some v) : OpGood P o get nx ρ v [] [] nx :=
  .pure fun own get' φ β w ρv _ hvs _ => by
    have hX := hvs x (by simp [ho, Op.operands])
    have hI := hvs i (by simp [ho, Op.operands])
    rw [hx] at hX
    rw [hi] at hI
    simp only [V] at hX
    obtain ⟨vs, hv1, hd⟩ := hX
    have hI := hI.int_inv
    have hu := (hE.row t rw_ hr).array_kind hk
    have hRe := hE.row e re hre
    have hcut : VL φ β w ((cs.drop (j * re.size)).take re.size) ((vs.drop (j * re.size)).take re.size) := (hd.drop _).take _
    obtain ⟨hV, h1c⟩ := whole_sound hw hcut
    refine ⟨_, ?_, hV⟩
    have hlen : ((vs.drop (j * re.size)).take re.size).length = re.size := by rw [hcut.length]; exact hl
    have hj' : j < n := by omega
    cases ha : re.kind.isAgg with
    | true =>
      simp [execOp, ho, hv1, hI, Instr.index, asIntOf, run_underlying hu, hRe.size, part, hRe.isAgg, ha, hj', hRe.size]
    | false =>
      have h1 := h1c ha
      rw [hlen] at h1
      rw [h1] at hlen ⊢
      simp only [Nat.mul_one] at hlen ⊢
      obtain ⟨a, r, hd'⟩ : ∃ a r, vs.drop j = a :: r := by
        cases hd' : vs.drop j with
        | nil => simp [hd'] at hlen
        | cons a r => exact ⟨a, r, rfl⟩
      have hget : vs[j]? = some a := by have := congrArg (·[0]?) hd'; simpa using this
      rw [hd']
      simp [execOp, ho, hv1, hI, Instr.index, asIntOf, run_underlying hu, hRe.size, part, hRe.isAgg, ha, hj', h1, hget]

/-! ### Maps -/
theorem sameBits_bool (n : Nat) (a b : Bool) : Instr.sameBits n (.bool a) (.bool b) = (a == b) := by cases n <;> rfl
theorem sameBits_int (n : Nat) (j k : IntKind) (a b : Int) : Instr.sameBits n (.int j a) (.int k b) = (j == k && a == b) := by cases n <;> rfl
theorem sameBits_str (n : Nat) (a b : ByteArray) : Instr.sameBits n (.string a) (.string b) = (a == b) := by cases n <;> rfl
theorem checkKey_plain {k : TypeId} {d : TypeDesc} (hu : P.underlying k = some d) (hd : d = .bool ∨ d = .string ∨ ∃ n, d = .int n) (q : Bool) (n : Nat) (u : Value) (w' : World) : (Instr.checkKey q (n + 1) k u).run P w' = .ok () w' := by
  rw [Instr.checkKey]
  rcases hd with rfl | rfl | ⟨n, rfl⟩ <;> simp [run_underlying hu]
theorem key_now {E : Env} (hE : EnvOK P E) {k : TypeId} {kt : Ty} (ht : E.tyOf k = some kt) (hok : okKey kt = true) : ∃ d, P.underlying k = some d ∧
    (∀ (a b : kt.den) (u v : Value), Vt φ w kt a [u] → Vt φ w kt b [v] → Instr.sameNow d u v = some (keyEq kt a b)) ∧ (∀ (u : Value) (a : kt.den) (q : Bool) (w' : World), Vt φ w kt a [u] → (Instr.checkKey q 10000 k u).run P w' = .ok () w') ∧
    (∀ (a b : kt.den) (u v : Value) (w' : World), Vt φ w kt a [u] → Vt φ w kt b [v] → keyEq kt a b = true → (Instr.keyThatStays u v).run P w' = .ok v w') := by
  have h := hE.ty k kt ht
  cases kt with
  | bool =>
    refine ⟨_, h.1, fun a b u v h1 h2 => ?_, fun u a q w' h1 => ?_, fun a b u v w' h1 h2 he => ?_⟩ <;> simp only [Vt, List.cons.injEq, and_true] at h1
    · simp only [Vt, List.cons.injEq, and_true] at h2; subst h1; subst h2; simp [Instr.sameNow, keyEq]
    · exact checkKey_plain h.1 (by simp) q 9999 u w'
    · simp only [Vt, List.cons.injEq, and_true] at h2; subst h1; subst h2
      simp [keyEq] at he
      subst he
      simp [Instr.keyThatStays, sameBits_bool, sameBits_int]
  | int n =>
    refine ⟨_, h.1, fun a b u v h1 h2 => ?_, fun u a q w' h1 => ?_, fun a b u v w' h1 h2 he => ?_⟩ <;> simp only [Vt, List.cons.injEq, and_true] at h1
    · simp only [Vt, List.cons.injEq, and_true] at h2; obtain ⟨rfl, _⟩ := h1; obtain ⟨rfl, _⟩ := h2; simp [Instr.sameNow, keyEq]
    · exact checkKey_plain h.1 (by simp) q 9999 u w'
    · simp only [Vt, List.cons.injEq, and_true] at h2; obtain ⟨rfl, _⟩ := h1; obtain ⟨rfl, _⟩ := h2
      simp [keyEq] at he
      subst he
      simp [Instr.keyThatStays, sameBits_bool, sameBits_int]
  | str =>
    have beq : ∀ a b : List UInt8, ((⟨a.toArray⟩ : ByteArray) == ⟨b.toArray⟩) = (a == b) := fun a b => by rw [beq_toListBytes, toList_mk, toList_mk]
    refine ⟨_, h.1, fun a b u v h1 h2 => ?_, fun u a q w' h1 => ?_, fun a b u v w' h1 h2 he => ?_⟩ <;> simp only [Vt, List.cons.injEq, and_true] at h1
    · simp only [Vt, List.cons.injEq, and_true] at h2; obtain ⟨rfl, _⟩ := h1; obtain ⟨rfl, _⟩ := h2; simp only [Instr.sameNow, keyEq]; rw [beq]
    · exact checkKey_plain h.1 (by simp) q 9999 u w'
    · simp only [Vt, List.cons.injEq, and_true] at h2; obtain ⟨rfl, _⟩ := h1; obtain ⟨rfl, _⟩ := h2
      simp [keyEq] at he
      subst he
      have hr : ((⟨a.toArray⟩ : ByteArray) == ⟨a.toArray⟩) = true := by rw [beq]; simp
      simp [Instr.keyThatStays, sameBits_str, hr]
  | sl e => cases hok
  | pair a b => cases hok

/-- What a map's list of entries gives for a key. -/
theorem find_now {kt vt : Ty} {d : TypeDesc} {k : kt.den} {kv : Value} (hk : Vt φ w kt k [kv]) (hs : ∀ (a b : kt.den) (u v : Value), Vt φ w kt a [u] → Vt φ w kt b [v] → Instr.sameNow d u v = some (keyEq kt a b)) :
    ∀ (es : List (kt.den × vt.den)) (l : List MapEntry) (i : Nat), Entries φ w kt vt es l →
      (mget k es = none ∧ Instr.findNow d kv l i = some none ∧ (∀ v, mset k v es = es ++ [(k, v)]) ∧ mdel k es = es) ∨
      ∃ j x e, mget k es = some x ∧ Instr.findNow d kv l i = some (some (i + j, e.val)) ∧ l[j]? = some e ∧ Vt φ w vt x e.val.cells.toList ∧ (vt.sz = 1 → e.val.cells = #[e.val]) ∧ (1 < vt.sz → e.val = .agg e.val.cells) ∧
        (∃ k0, Vt φ w kt k0 [e.key] ∧ keyEq kt k k0 = true) ∧
        (∀ (v : vt.den) (u : Value) (ku : Value) (f : MapEntry → MapEntry), f e = { e with key := ku, val := u } → Vt φ w kt k [ku] → Vt φ w vt v u.cells.toList → (vt.sz = 1 → u.cells = #[u]) → (1 < vt.sz → u = .agg u.cells) → Entries φ w kt vt (mset k v es) (l.modify j f)) ∧
        Entries φ w kt vt (mdel k es) (l.eraseIdx j)
  | [], l, i, h => by simp only [Entries] at h; subst h; exact .inl ⟨rfl, rfl, fun v => rfl, rfl⟩
  | x :: es, l, i, h => by
    simp only [Entries] at h
    obtain ⟨e, r, rfl, h1, h2, h3, h4, h5⟩ := h
    have hsame := hs k x.1 kv e.key hk h1
    cases hq : keyEq kt k x.1 with
    | true =>
      rw [hq] at hsame
      refine .inr ⟨0, x.2, e, by simp [mget, hq], by simp [Instr.findNow, hsame], rfl, h2, h3, h4, ⟨x.1, h1, hq⟩, fun v u ku f hf g1 g2 g3 g4 => ?_, ?_⟩
      · simp only [mset, hq, cond_true, List.modify_zero_cons]
        simp only [Entries]
        exact ⟨f e, r, rfl, by rw [hf]; exact g1, by rw [hf]; exact g2, by rw [hf]; exact g3, by rw [hf]; exact g4, h5⟩
      · simp only [mdel, hq, cond_true, List.eraseIdx_cons_zero]; exact h5
    | false =>
      rw [hq] at hsame
      rcases find_now hk hs es r (i + 1) h5 with ⟨g1, g2, g3, g4⟩ | ⟨j, y, e', g1, g2, g3, g4, g5, g6, g7, g8, g9⟩
      · exact .inl ⟨by simp [mget, hq, g1], by simp [Instr.findNow, hsame, g2], fun v => by simp [mset, hq, g3], by simp [mdel, hq, g4]⟩
      · refine .inr ⟨j + 1, y, e', by simp [mget, hq, g1], by simp [Instr.findNow, hsame, g2]; omega, by simpa using g3, g4, g5, g6, g7, fun v u ku f hf q1 q2 q3 q4 => ?_, ?_⟩
        · simp only [mset, hq, cond_false, List.modify_succ_cons]
          simp only [Entries]
          exact ⟨e, _, rfl, h1, h2, h3, h4, g8 v u ku f hf q1 q2 q3 q4⟩
        · simp only [mdel, hq, cond_false, List.eraseIdx_cons_succ]
          simp only [Entries]
          exact ⟨e, _, rfl, h1, h2, h3, h4, g9⟩
end
end Go.Sim
