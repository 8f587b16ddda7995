/- WeightOrder: of two weights the greater has no fewer quanta; twice a weight that is one has twice the quanta or one more; what lies between two weights is one. For every input, no condition. -/
import Derived.Test.YtobafaacojndiaaWgLaws3
set_option linter.unusedSimpArgs false
set_option linter.unusedVariables false
namespace Go.Proofs.Ytobafaacojndiaa
open Go.ChangeShapes Go.WideShapes Go.ChangeAt Go.RowKit

/-- '<=' on numbers -/
def wLe (x y : Nat) : Bool := FloatKind.f64.format.order x y == some .lt || FloatKind.f64.format.order x y == some .eq
theorem wLe_fin {x y : Nat} (hx : Fl.fin x) (hy : Fl.fin y) : wLe x y = decide (Fl.SV x ≤ Fl.SV y) := by
  have e : FloatKind.f64.format.order x y = some (compare (Fl.SV x) (Fl.SV y)) := Fl.ord_fin hx hy
  unfold wLe
  rw [e, Bool.eq_iff_iff]
  simp [Int.compare_eq_lt, Int.compare_eq_eq]
  omega
theorem ok_bound {x : Nat} (h : wOk x = true) : x % 9223372036854775808 ≤ 4652007308841189376 ∧ x < 18446744073709551616 := by
  have : x ≤ 4652007308841189376 ∨ x = 9223372036854775808 := by simpa [wOk] using h
  omega
theorem quanta_le_of {a b : Nat} (ha : wOk a = true) (hb : wOk b = true) (h : wLe a b = true) : wQ a ≤ wQ b := by
  rw [wLe_fin (fin_ok ha) (fin_ok hb), sv_ok ha, sv_ok hb] at h
  have h2 : Fl.V (a % 9223372036854775808) ≤ Fl.V (b % 9223372036854775808) := by simpa using h
  unfold wQ
  rw [if_pos ha, if_pos hb]
  exact Fl.quanta_mono (Fl.V_le_iff.1 h2)
theorem between {a b z : Nat} (ha : wOk a = true) (hb : wOk b = true) (hz : z < 18446744073709551616) (h1 : wLe a z = true) (h2 : wLe z b = true) : wOk z = true := by
  by_cases hf : Fl.fin z
  · rw [wLe_fin (fin_ok ha) hf, sv_ok ha] at h1
    rw [wLe_fin hf (fin_ok hb), sv_ok hb] at h2
    have h1' : (Fl.V (a % 9223372036854775808) : Int) ≤ Fl.SV z := by simpa using h1
    have h2' : Fl.SV z ≤ (Fl.V (b % 9223372036854775808) : Int) := by simpa using h2
    have hbb := (ok_bound hb).1
    unfold wOk
    rw [Bool.or_eq_true, decide_eq_true_eq, beq_iff_eq]
    unfold Fl.SV at h1' h2'
    split at h1'
    · rename_i hc
      rw [if_pos hc] at h2'
      have h3 : Fl.V z ≤ Fl.V (b % 9223372036854775808) := by omega
      have := Fl.V_le_iff.1 h3
      left; omega
    · rename_i hc
      right
      rcases Nat.eq_zero_or_pos (z - 9223372036854775808) with h0 | h0
      · omega
      · have := Fl.V_pos h0
        omega
  · exfalso
    rcases Fl.not_fin hz hf with rfl | rfl | ⟨s, f, h⟩
    · have e : FloatKind.f64.format.order 9218868437227405312 b = some .gt := Fl.ord_inf_l (fin_ok hb)
      unfold wLe at h2; rw [e] at h2; cases h2
    · have e : FloatKind.f64.format.order a 18442240474082181120 = some .gt := Fl.ord_ninf_r (fin_ok ha)
      unfold wLe at h1; rw [e] at h1; cases h1
    · have e : FloatKind.f64.format.order z b = none := Fl.ord_nan_l h
      unfold wLe at h2; rw [e] at h2; cases h2

theorem twice_div (v u : Nat) (hu : 0 < u) : 2 * v * 1024 / u = 2 * (v * 1024 / u) ∨ 2 * v * 1024 / u = 2 * (v * 1024 / u) + 1 := by
  rw [Nat.mul_assoc]
  generalize v * 1024 = y
  have h1 := Nat.div_add_mod y u
  have h2 := Nat.mod_lt y hu
  have h3 : 2 * y = u * (2 * (y / u)) + 2 * (y % u) := by rw [Nat.mul_left_comm]; omega
  rw [h3, Nat.mul_add_div hu]
  rcases Nat.lt_or_ge (2 * (y % u)) u with h4 | h4
  · left; rw [Nat.div_eq_of_lt h4, Nat.add_zero]
  · right
    have : 2 * (y % u) / u = 1 := Nat.div_eq_of_lt_le (by omega) (by omega)
    rw [this]

/-- twice a number that is a weight -/
theorem twice_of {a : Nat} (h : wOk a = true) : ∃ s, floatBits .add .f64 a a = some s ∧ s < 18446744073709551616 ∧ wLe s 4652007308841189376 = wOk s ∧ (wOk s = true → wQ s = 2 * wQ a ∨ wQ s = 2 * wQ a + 1) := by
  by_cases hm : a = 9223372036854775808
  · subst hm
    exact ⟨9223372036854775808, by decide +kernel, by omega, by decide +kernel, fun _ => by decide +kernel⟩
  · have hle : a ≤ 4652007308841189376 := by
      have : a ≤ 4652007308841189376 ∨ a = 9223372036854775808 := by simpa [wOk] using h
      omega
    have hpl : Fl.pl a ≤ 1032 := by unfold Fl.pl; omega
    obtain ⟨r, ra, rb, rc⟩ := Fl.write_scaled a 1 (Fl.pl a + 1) ((Fl.pl a : Int) - 1074) (by omega) (by omega)
    have hsum : floatBits .add .f64 a a = some r := by
      show Ieee.double.add a a = some r
      unfold Ieee.Format.add
      rw [Fl.read_pos (x := a) (by omega)]
      simp only [Ieee.Datum.sum, Option.map]
      have e0 : min ((Fl.pl a : Int) - 1074) ((Fl.pl a : Int) - 1074) = (Fl.pl a : Int) - 1074 := by omega
      rw [e0]
      have e1 : ((Fl.pl a : Int) - 1074 - ((Fl.pl a : Int) - 1074)).toNat = 0 := by omega
      rw [e1]
      have e2 : Ieee.signed false (Fl.mag a) 0 = (Fl.mag a : Int) := by simp [Ieee.signed]
      rw [e2]
      have e3 : ((Fl.mag a : Int) + (Fl.mag a : Int)).natAbs = Fl.mag a * 2 ^ 1 := by omega
      have e4 : (if (Fl.mag a : Int) + (Fl.mag a : Int) = 0 then false && false else decide ((Fl.mag a : Int) + (Fl.mag a : Int) < 0)) = false := by
        split
        · rfl
        · simp; omega
      rw [e3, e4]
      exact congrArg some rb
    have hV : Fl.V r = 2 * Fl.V a := by
      rw [rc]; unfold Fl.V; rw [Nat.pow_succ, ← Nat.mul_assoc, Nat.mul_comm]
    have fr : Fl.fin r := .inl ra
    have f1 : Fl.fin 4652007308841189376 := by unfold Fl.fin; omega
    have hr63 : r < 9223372036854775808 := by omega
    refine ⟨r, hsum, by omega, ?_, fun hok => ?_⟩
    · rw [wLe_fin fr f1, wOk_pos hr63]
      have s1 : Fl.SV 4652007308841189376 = (Fl.V 4652007308841189376 : Int) := by unfold Fl.SV; rw [if_pos (by omega)]
      have s2 : Fl.SV r = (Fl.V r : Int) := by unfold Fl.SV; rw [if_pos hr63]
      rw [s1, s2, Bool.eq_iff_iff]
      have := @Fl.V_le_iff r 4652007308841189376
      simp only [decide_eq_true_eq]
      omega
    · have hrle : r ≤ 4652007308841189376 := by rw [wOk_pos hr63] at hok; simpa using hok
      rw [wQ_pos hrle, wQ_pos hle]
      unfold Fl.quanta
      rw [hV]
      exact twice_div _ _ Fl.U_pos

theorem weightOrder_no (a b c : Nat) (ha : a < 18446744073709551616) (hb : b < 18446744073709551616) (hc : c < 18446744073709551616) (w : World) (h : wOk a = false ∨ wOk b = false) :
    Calls Try.prog 4 #[.int .u64 a, .int .u64 b, .int .u64 c] w fun e w' => e = .returned (.bool true) ∧ Below w.heap.size w w' := by
  have h1 := call_float64frombits
  have na : wOk a = false → wQ a = 0 := wQ_no
  have nb : wOk b = false → wQ b = 0 := wQ_no
  have NA := Lib.hid na
  have NB := Lib.hid nb
  clear na nb
  go_enter Try.func4, Try.ntmps4
  go_wp2_with fail
  refine (awake_any _).mono ?_
  rintro e w1 ⟨rfl, hb1⟩
  go_wp2_with fail
  refine (quanta_any _ ha _).mono ?_
  rintro e w' ⟨rfl, rfl⟩
  go_wp2_with fail
  refine (quanta_any _ hb _).mono ?_
  rintro e w' ⟨rfl, rfl⟩
  cases ka : wOk a
  · rw [NA.out ka]
    cases kb : wOk b
    · rw [NB.out kb]
      go_wp2_with fail
      go_ret
      exact ⟨rfl, hb1⟩
    · go_wp2_with fail
      go_ret
      exact ⟨rfl, hb1⟩
  · cases kb : wOk b
    · rw [NB.out kb]
      go_wp2_with fail
      go_ret
      exact ⟨rfl, hb1⟩
    · rw [ka, kb] at h
      simp at h

set_option maxHeartbeats 4000000 in
theorem weightOrder_yes (a b c s : Nat) (ha : a < 18446744073709551616) (hb : b < 18446744073709551616) (hc : c < 18446744073709551616) (hs : s < 18446744073709551616) (w : World)
    (ka : wOk a = true) (kb : wOk b = true) (hadd : ∀ w, (binOp .add 24 (.float .f64 a) (.float .f64 a)).run Try.prog w = .ok (.float .f64 s) w)
    (p q r t : Bool) (hp : (FloatKind.f64.format.order a b == some .lt || FloatKind.f64.format.order a b == some .eq) = p) (hq : (FloatKind.f64.format.order a c == some .lt || FloatKind.f64.format.order a c == some .eq) = q) (hr : (FloatKind.f64.format.order c b == some .lt || FloatKind.f64.format.order c b == some .eq) = r) (ht : (FloatKind.f64.format.order s 4652007308841189376 == some .lt || FloatKind.f64.format.order s 4652007308841189376 == some .eq) = t) (kt : wOk s = t)
    (hpn : p = true → wQ a ≤ wQ b) (hst : t = true → wQ s = 2 * wQ a ∨ wQ s = 2 * wQ a + 1) (hbt : q = true → r = true → wRight c = true) :
    Calls Try.prog 4 #[.int .u64 a, .int .u64 b, .int .u64 c] w fun e w' => e = .returned (.bool true) ∧ Below w.heap.size w w' := by
  have h1 := call_float64frombits
  have hqa := wQ_le a
  have hqb := wQ_le b
  have hqs := wQ_le s
  have KA := Lib.hid ka
  have KB := Lib.hid kb
  have KT := Lib.hid kt
  have HBT := Lib.hid hbt
  obtain ⟨A, hA⟩ : ∃ A, A = wQ a := ⟨_, rfl⟩
  obtain ⟨B, hB⟩ : ∃ B, B = wQ b := ⟨_, rfl⟩
  obtain ⟨C, hC⟩ : ∃ C, C = wQ s := ⟨_, rfl⟩
  rw [← hA] at hqa hpn hst
  rw [← hB] at hqb hpn
  rw [← hC] at hqs hst
  have HA := Lib.hid hA
  have HB := Lib.hid hB
  have HC := Lib.hid hC
  clear ka kb kt hbt hA hB hC
  have hpn2 : p = true → (A : Int) ≤ B := fun h => by have := hpn h; omega
  have hst2 : t = true → ((C : Int) != 2 * (A : Int)) = true → ((C : Int) != 2 * (A : Int) + 1) = false := fun h h2 => by
    rcases hst h with h3 | h3
    · rw [h3] at h2; simp at h2
    · rw [h3]; simp
  clear hpn hst
  obtain ⟨d, hd⟩ : ∃ d, ((C : Int) != 2 * (A : Int)) = d := ⟨_, rfl⟩
  rw [hd] at hst2
  cases p
  all_goals
    first | (have hAB : (A : Int) ≤ B := hpn2 rfl; clear hpn2) | clear hpn2
    rcases Bool.eq_false_or_eq_true t with rfl | rfl
    rotate_left
    · clear hst2 hd
      rcases Bool.eq_false_or_eq_true q with rfl | rfl
      · rcases Bool.eq_false_or_eq_true r with rfl | rfl
        · have hcr := HBT.out rfl rfl
          have HCR := Lib.hid hcr
          clear hcr
          (go_enter Try.func4, Try.ntmps4; go_wp2_with (first | (go_at_call 9; refine (awake_any _).mono ?_; rintro e w1 ⟨rfl, hb1⟩) | (go_at_call 11; refine (quanta_any _ (by assumption) _).mono ?_; rintro e w' ⟨rfl, rfl⟩; first | rw [KA.out, ← HA.out] | rw [KB.out, ← HB.out] | rw [KT.out, ← HC.out]) | (go_at_call 13; refine (right_any _ _).mono ?_; rintro e w' ⟨rfl, rfl⟩; rw [HCR.out])); go_ret; exact ⟨rfl, hb1⟩)
        · (go_enter Try.func4, Try.ntmps4; go_wp2_with (first | (go_at_call 9; refine (awake_any _).mono ?_; rintro e w1 ⟨rfl, hb1⟩) | (go_at_call 11; refine (quanta_any _ (by assumption) _).mono ?_; rintro e w' ⟨rfl, rfl⟩; first | rw [KA.out, ← HA.out] | rw [KB.out, ← HB.out] | rw [KT.out, ← HC.out]) | (go_at_call 13; refine (right_any _ _).mono ?_; rintro e w' ⟨rfl, rfl⟩; rw [HCR.out])); go_ret; exact ⟨rfl, hb1⟩)
      · (go_enter Try.func4, Try.ntmps4; go_wp2_with (first | (go_at_call 9; refine (awake_any _).mono ?_; rintro e w1 ⟨rfl, hb1⟩) | (go_at_call 11; refine (quanta_any _ (by assumption) _).mono ?_; rintro e w' ⟨rfl, rfl⟩; first | rw [KA.out, ← HA.out] | rw [KB.out, ← HB.out] | rw [KT.out, ← HC.out]) | (go_at_call 13; refine (right_any _ _).mono ?_; rintro e w' ⟨rfl, rfl⟩; rw [HCR.out])); go_ret; exact ⟨rfl, hb1⟩)
    · cases d
      · clear hst2
        rcases Bool.eq_false_or_eq_true q with rfl | rfl
        · rcases Bool.eq_false_or_eq_true r with rfl | rfl
          · have hcr := HBT.out rfl rfl
            have HCR := Lib.hid hcr
            clear hcr
            (go_enter Try.func4, Try.ntmps4; go_wp2_with (first | (go_at_call 9; refine (awake_any _).mono ?_; rintro e w1 ⟨rfl, hb1⟩) | (go_at_call 11; refine (quanta_any _ (by assumption) _).mono ?_; rintro e w' ⟨rfl, rfl⟩; first | rw [KA.out, ← HA.out] | rw [KB.out, ← HB.out] | rw [KT.out, ← HC.out]) | (go_at_call 13; refine (right_any _ _).mono ?_; rintro e w' ⟨rfl, rfl⟩; rw [HCR.out])); go_ret; exact ⟨rfl, hb1⟩)
          · (go_enter Try.func4, Try.ntmps4; go_wp2_with (first | (go_at_call 9; refine (awake_any _).mono ?_; rintro e w1 ⟨rfl, hb1⟩) | (go_at_call 11; refine (quanta_any _ (by assumption) _).mono ?_; rintro e w' ⟨rfl, rfl⟩; first | rw [KA.out, ← HA.out] | rw [KB.out, ← HB.out] | rw [KT.out, ← HC.out]) | (go_at_call 13; refine (right_any _ _).mono ?_; rintro e w' ⟨rfl, rfl⟩; rw [HCR.out])); go_ret; exact ⟨rfl, hb1⟩)
        · (go_enter Try.func4, Try.ntmps4; go_wp2_with (first | (go_at_call 9; refine (awake_any _).mono ?_; rintro e w1 ⟨rfl, hb1⟩) | (go_at_call 11; refine (quanta_any _ (by assumption) _).mono ?_; rintro e w' ⟨rfl, rfl⟩; first | rw [KA.out, ← HA.out] | rw [KB.out, ← HB.out] | rw [KT.out, ← HC.out]) | (go_at_call 13; refine (right_any _ _).mono ?_; rintro e w' ⟨rfl, rfl⟩; rw [HCR.out])); go_ret; exact ⟨rfl, hb1⟩)
      · have hd2 := hst2 rfl rfl
        clear hst2
        rcases Bool.eq_false_or_eq_true q with rfl | rfl
        · rcases Bool.eq_false_or_eq_true r with rfl | rfl
          · have hcr := HBT.out rfl rfl
            have HCR := Lib.hid hcr
            clear hcr
            (go_enter Try.func4, Try.ntmps4; go_wp2_with (first | (go_at_call 9; refine (awake_any _).mono ?_; rintro e w1 ⟨rfl, hb1⟩) | (go_at_call 11; refine (quanta_any _ (by assumption) _).mono ?_; rintro e w' ⟨rfl, rfl⟩; first | rw [KA.out, ← HA.out] | rw [KB.out, ← HB.out] | rw [KT.out, ← HC.out]) | (go_at_call 13; refine (right_any _ _).mono ?_; rintro e w' ⟨rfl, rfl⟩; rw [HCR.out])); go_ret; exact ⟨rfl, hb1⟩)
          · (go_enter Try.func4, Try.ntmps4; go_wp2_with (first | (go_at_call 9; refine (awake_any _).mono ?_; rintro e w1 ⟨rfl, hb1⟩) | (go_at_call 11; refine (quanta_any _ (by assumption) _).mono ?_; rintro e w' ⟨rfl, rfl⟩; first | rw [KA.out, ← HA.out] | rw [KB.out, ← HB.out] | rw [KT.out, ← HC.out]) | (go_at_call 13; refine (right_any _ _).mono ?_; rintro e w' ⟨rfl, rfl⟩; rw [HCR.out])); go_ret; exact ⟨rfl, hb1⟩)
        · (go_enter Try.func4, Try.ntmps4; go_wp2_with (first | (go_at_call 9; refine (awake_any _).mono ?_; rintro e w1 ⟨rfl, hb1⟩) | (go_at_call 11; refine (quanta_any _ (by assumption) _).mono ?_; rintro e w' ⟨rfl, rfl⟩; first | rw [KA.out, ← HA.out] | rw [KB.out, ← HB.out] | rw [KT.out, ← HC.out]) | (go_at_call 13; refine (right_any _ _).mono ?_; rintro e w' ⟨rfl, rfl⟩; rw [HCR.out])); go_ret; exact ⟨rfl, hb1⟩)

theorem weightOrder_walk (a b c : Nat) (ha : a < 18446744073709551616) (hb : b < 18446744073709551616) (hc : c < 18446744073709551616) (w : World) :
    Calls Try.prog 4 #[.int .u64 a, .int .u64 b, .int .u64 c] w fun e w' => e = .returned (.bool true) ∧ Below w.heap.size w w' := by
  cases ka : wOk a
  · exact weightOrder_no a b c ha hb hc w (.inl ka)
  cases kb : wOk b
  · exact weightOrder_no a b c ha hb hc w (.inr kb)
  obtain ⟨s, s1, s2, s3, s4⟩ := twice_of ka
  exact weightOrder_yes a b c s ha hb hc s2 w ka kb (fun w => run_float_arith (P := Try.prog) w .add 24 .f64 a a s s1) (wLe a b) (wLe a c) (wLe c b) (wOk s) rfl rfl rfl s3 rfl
    (quanta_le_of ka kb) s4 (fun h1 h2 => by rw [wRight_eq hc]; exact between ka kb hc h1 h2)

set_option maxRecDepth 100000 in
theorem weightOrder_lifted (os : Os) (started : os.Started) (H : Type) (enc : TypeId × Value → H) :
    ReturnsInHanded {} Try.checked os 4 .any (Rows.weightOrderSpec.pre6 enc Try.prog Try.f4 Rows.weightOrderRow.domain false) (Rows.weightOrderSpec.post enc Try.prog Try.f4 false true false false) := by
  refine returnsInHanded_of_change (C := Try.checked) own started (by kernel_rfl) Try.func4
    (ChangeSpec.witness6 (enc := enc) (C := Try.checked) false ⟨#[], #[.int .u64 0, .int .u64 0, .int .u64 0], []⟩ 8 (by kernel_rfl) (by kernel_rfl) (by kernel_rfl) (by kernel_rfl)) ?_
  intro W base args ds gs before hval0 hW hcnd _
  have hval : ∀ (j : Nat) t v, Try.f4.params[j]? = some t → args[j]? = some v → Value.okWide Try.prog W .any base t v := hval0
  have hW' := hW
  obtain ⟨p, q, hA0, hV, rfl, hfz, hnd⟩ := hW
  have hA : DataW.TrodAll enc Try.prog W 0 (fun _ => true) true Try.f4.params.toList args.toList ds p := hA0
  rw [Try.params4] at hA hval
  obtain ⟨v0, vs0, d0, ds0, p0, q0, hargs, rfl, rfl, h0, r0⟩ := trodAll_cons hA
  obtain ⟨v1, vs1, d1, ds1, p1, q1, rfl, rfl, rfl, h1, r1⟩ := trodAll_cons r0
  obtain ⟨v2, vs2, d2, ds2, p2, q2, rfl, rfl, rfl, h2, r2⟩ := trodAll_cons r1
  obtain ⟨rfl, rfl, rfl⟩ := trodAll_nil r2
  obtain rfl : args = #[v0, v1, v2] := by cases args; simp_all
  obtain ⟨a, rfl, ha⟩ := open_u64 Try.underlying22 (hval 0 22 v0 rfl rfl) h0
  obtain ⟨b, rfl, hb⟩ := open_u64 Try.underlying22 (hval 1 22 v1 rfl rfl) h1
  obtain ⟨c, rfl, hc⟩ := open_u64 Try.underlying22 (hval 2 22 v2 rfl rfl) h2
  clear hA0 hval0
  refine (weightOrder_walk a b c ha hb hc W).mono fun e W' ⟨he, hb⟩ => ?_
  subst he
  exact ⟨_, rfl, law_post laidOut rfl (by kernel_rfl) 4 Try.underlying4 rfl hW' rfl hb⟩
theorem weightOrder_holds : Rows.WeightOrderSaid :=
  OpenClaim.holds_of_wide 4 Try.f4 rfl rfl rfl rfl rfl rfl rfl ⟨rfl, rfl, rfl, rfl, rfl⟩ rfl rfl rfl rfl rfl (by kernel_rfl) Try.func4 (by kernel_rfl)
    (of_decide_eq_true (by kernel_rfl)) (by unfold Func.isWrapper; first | (rw [if_pos (by decide +kernel)]; kernel_rfl) | (rw [if_neg (by decide +kernel)]; exact ⟨rfl, rfl⟩))
    (fun os started H enc _ => weightOrder_lifted os started H enc)
#print axioms weightOrder_holds
end Go.Proofs.Ytobafaacojndiaa
