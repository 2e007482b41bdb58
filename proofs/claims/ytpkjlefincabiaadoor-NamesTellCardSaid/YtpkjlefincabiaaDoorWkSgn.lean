/-
  WkSgn: the walk of NamesSigns.
-/
import Derived.Test.YtpkjlefincabiaaDoorWkNal
import Derived.Test.YtpkjlefincabiaaDoorPlSgn
namespace Go.Sim
set_option linter.unusedSimpArgs false
set_option linter.unusedVariables false
set_option maxRecDepth 10000
theorem signs_ev (c : Int) : evFn (env consN) H.cooperagelaw3_NamesSigns (LPof []) F.cooperagelaw3_NamesSigns [.int .i64 c] [] (finK 0) =
  Option.bind
    (bif decide (c < (0 : Int)) then some true
    else bif decide (c > (1114111 : Int)) then some true else bif decide (c ≥ (55296 : Int)) then some (decide (c ≤ (57343 : Int))) else some false)
    fun v =>
    bif v then some (AV.bool true, [])
    else
      bif (Utf8.encode (IntKind.i32.wrap c)).data.toList.length.ble 4 then
        Option.bind
          (bif decide (c ≥ (97 : Int)) then
            bif decide (c ≤ (122 : Int)) then some true
            else
              bif decide (c ≥ (48 : Int)) then
                bif decide (c ≤ (57 : Int)) then some true
                else
                  bif decide (c ≥ (161 : Int)) then
                    bif decide (c ≤ (65535 : Int)) then bif c != (173 : Int) then some (c != (65279 : Int)) else some false else some false
                  else some false
              else
                bif decide (c ≥ (161 : Int)) then
                  bif decide (c ≤ (65535 : Int)) then bif c != (173 : Int) then some (c != (65279 : Int)) else some false else some false
                else some false
          else
            bif decide (c ≥ (48 : Int)) then
              bif decide (c ≤ (57 : Int)) then some true
              else
                bif decide (c ≥ (161 : Int)) then
                  bif decide (c ≤ (65535 : Int)) then bif c != (173 : Int) then some (c != (65279 : Int)) else some false else some false
                else some false
            else
              bif decide (c ≥ (161 : Int)) then
                bif decide (c ≤ (65535 : Int)) then bif c != (173 : Int) then some (c != (65279 : Int)) else some false else some false
              else some false)
          fun v =>
          Option.bind (bif c == (45 : Int) then some true else bif c == (95 : Int) then some true else some (c == (46 : Int))) fun v_1 =>
            Option.bind
              (bif validL (Utf8.encode (IntKind.i32.wrap c)).data.toList == v then
                bif decide (1 + (Utf8.encode (IntKind.i32.wrap c)).data.toList.length ≤ 9223372036854775807) then
                  bif v then
                    bif validL ([(97 : UInt8)] ++ (Utf8.encode (IntKind.i32.wrap c)).data.toList) == true then
                      bif decide ((Utf8.encode (IntKind.i32.wrap c)).data.toList.length ≤ 1048576) then
                        bif (↑(cnt (Utf8.encode (IntKind.i32.wrap c)).data.toList) : Int) == (1 : Int) then
                          bif decide ((Utf8.encode (IntKind.i32.wrap c)).data.toList.length + 1 ≤ 9223372036854775807) then
                            bif decide (((Utf8.encode (IntKind.i32.wrap c)).data.toList ++ [(120 : UInt8)]).length ≤ 1048576) then
                              some
                                (List.take (cutP ((Utf8.encode (IntKind.i32.wrap c)).data.toList ++ [(120 : UInt8)]) 1)
                                    ((Utf8.encode (IntKind.i32.wrap c)).data.toList ++ [(120 : UInt8)]) ==
                                  (Utf8.encode (IntKind.i32.wrap c)).data.toList)
                            else none
                          else none
                        else some false
                      else none
                    else some false
                  else
                    bif validL ([(97 : UInt8)] ++ (Utf8.encode (IntKind.i32.wrap c)).data.toList) == v_1 then
                      bif decide ((Utf8.encode (IntKind.i32.wrap c)).data.toList.length ≤ 1048576) then
                        bif (↑(cnt (Utf8.encode (IntKind.i32.wrap c)).data.toList) : Int) == (1 : Int) then
                          bif decide ((Utf8.encode (IntKind.i32.wrap c)).data.toList.length + 1 ≤ 9223372036854775807) then
                            bif decide (((Utf8.encode (IntKind.i32.wrap c)).data.toList ++ [(120 : UInt8)]).length ≤ 1048576) then
                              some
                                (List.take (cutP ((Utf8.encode (IntKind.i32.wrap c)).data.toList ++ [(120 : UInt8)]) 1)
                                    ((Utf8.encode (IntKind.i32.wrap c)).data.toList ++ [(120 : UInt8)]) ==
                                  (Utf8.encode (IntKind.i32.wrap c)).data.toList)
                            else none
                          else none
                        else some false
                      else none
                    else some false
                else none
              else some false)
              fun v => some (AV.bool v, [])
      else none := by kernel_rfl

def plainB (c : Int) : Bool := decide (c ≥ 97) && decide (c ≤ 122) || decide (c ≥ 48) && decide (c ≤ 57) || decide (c ≥ 161) && decide (c ≤ 65535) && c != 173 && c != 65279
def markB (c : Int) : Bool := c == 45 || (c == 95 || c == 46)
theorem plain_bif : ∀ a b d e f g p q : Bool, (bif a then bif b then some true else bif d then bif e then some true else bif f then bif g then bif p then some q else some false else some false else some false
      else bif f then bif g then bif p then some q else some false else some false else some false
    else bif d then bif e then some true else bif f then bif g then bif p then some q else some false else some false else some false
      else bif f then bif g then bif p then some q else some false else some false else some false) = some (a && b || d && e || f && g && p && q) := by decide
theorem may_plain (c : Int) : (!badR c true) = plainB c ∧ (!badR c false) = (plainB c || markB c) := by
  unfold badR mayR plainB markB
  rw [letters_has, signs_has]
  constructor
  · apply Bool.eq_iff_iff.2
    simp only [Bool.not_eq_true', Bool.or_eq_false_iff, Bool.and_eq_false_iff, Bool.not_eq_false', Bool.or_eq_true, Bool.and_eq_true, decide_eq_true_eq, beq_iff_eq, bne_iff_ne, beq_eq_false_iff_ne, Bool.true_and, ne_eq, Bool.not_eq_true]
    omega
  · apply Bool.eq_iff_iff.2
    simp only [Bool.false_and, Bool.or_false, Bool.not_not, Bool.or_eq_true, Bool.and_eq_true, decide_eq_true_eq, beq_iff_eq, bne_iff_ne, ne_eq]
    omega
theorem signs_fin (p m : Bool) (a b d e : List UInt8) (va vb : Bool) (hva : va = p) (hvb : vb = (p || m)) {k1 k2 : Bool} (h1 : k1 = true) (h2 : k2 = true) {k3 k4 k5 : Bool} (h3 : k3 = true) (h4 : k4 = true) (h5 : k5 = true) {f : Bool} (hf : f = true) :
    (Option.bind (bif va == p then bif k1 then bif p then bif vb == true then bif k2 then bif k3 then bif k4 then bif k5 then some f else none else none else some false else none else some false
      else bif vb == m then bif k2 then bif k3 then bif k4 then bif k5 then some f else none else none else some false else none else some false else none else some false) fun v => some (AV.bool v, ([] : List AObj))) = some (AV.bool true, []) := by
  subst hva hvb h1 h2 h3 h4 h5 hf
  cases va <;> cases m <;> rfl
theorem signs_val (c : Int) : evFn (env consN) H.cooperagelaw3_NamesSigns (LPof []) F.cooperagelaw3_NamesSigns [.int .i64 c] [] (finK 0) = some (.bool true, []) := by
  rw [signs_ev]
  by_cases h0 : c < 0
  · simp only [h0, decide_true, cond_true, Option.bind_some]
  · by_cases h1 : c > 1114111
    · simp only [h0, h1, decide_true, decide_false, cond_true, cond_false, Option.bind_some]
    · by_cases h2 : c ≥ 55296 ∧ c ≤ 57343
      · simp only [h0, h1, h2.1, h2.2, decide_true, decide_false, cond_true, cond_false, Option.bind_some]
      · have e2 : (bif decide (c ≥ (55296 : Int)) then some (decide (c ≤ (57343 : Int))) else some false) = some false := by
          by_cases h3 : c ≥ 55296
          · have : ¬ c ≤ 57343 := fun h => h2 ⟨h3, h⟩
            simp only [h3, this, decide_true, decide_false, cond_true]
          · simp only [h3, decide_false, cond_false]
        obtain ⟨n, rfl⟩ := Int.eq_ofNat_of_zero_le (show 0 ≤ c by omega)
        have hok : okR n := by unfold okR; omega
        have hwr : IntKind.i32.wrap (n : Int) = n := wrap_in (In.i32.2 (by omega))
        obtain ⟨d1, d2, d3, d4⟩ := enc_dec hok []
        have hv := enc_valid hok
        have ha := a_valid hok
        have hcn := enc_cnt hok
        have hct := enc_cut hok [120]
        rw [(may_plain n).1] at hv
        rw [(may_plain n).2] at ha
        simp only [h0, h1, e2, decide_false, cond_false, Option.bind_some, hwr, plain_bif]
        rw [show (Utf8.encode (n : Int)).data.toList = encL n from rfl]
        have e3 : Nat.ble (encL n).length 4 = true := by rw [Nat.ble_eq]; exact d4
        have e4 : (bif (n : Int) == (45 : Int) then some true else bif (n : Int) == (95 : Int) then some true else some ((n : Int) == (46 : Int))) = some (markB n) := by
          unfold markB
          cases (n : Int) == (45 : Int) <;> cases (n : Int) == (95 : Int) <;> rfl
        rw [e3, e4]
        simp only [cond_true, Option.bind_some]
        refine signs_fin (plainB n) (markB n) [] [] [] [] _ _ hv ha (decide_eq_true (by omega)) (decide_eq_true (by omega)) ?_ (decide_eq_true (by omega)) (decide_eq_true (by simp; omega)) ?_
        · rw [hcn]; rfl
        · rw [hct, List.take_left']
          · simp
          · rfl
def tySigns : List Ty := [.int .i64]
theorem signs_good (x : tysDen tySigns) (hw : tysWf tySigns x) : ∃ o, EffGood P0 I.cooperagelaw3_NamesSigns (valsOf tySigns x) [] (.bool true) o :=
  ⟨[], evFn_sound (H := H.cooperagelaw3_NamesSigns) (E := env consN) (env_ok consN_ok) glob0 mixed0 G.cooperagelaw3_NamesSigns (args := valsOf tySigns x) (by kernel_rfl) Bd.cooperagelaw3_NamesSigns noLoops (signs_val x.1)⟩

end Go.Sim
