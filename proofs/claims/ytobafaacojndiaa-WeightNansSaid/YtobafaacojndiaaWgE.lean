/- A weight of quanta, the next number below, sums: what each call answers. -/
import Derived.Test.YtobafaacojndiaaWgD
set_option linter.unusedSimpArgs false
set_option linter.unusedVariables false
namespace Go.Proofs.Ytobafaacojndiaa
open Go.RowKit

/-- the weight of so many quanta -/
def wOf (n : Nat) : Nat := (Ieee.double.div (Ieee.double.write (.number false n 0)) 4652218415073722368).getD 0
theorem wOf_spec {n : Nat} (hn : n ≤ 1024000) : Ieee.double.div (Ieee.double.write (.number false n 0)) 4652218415073722368 = some (wOf n) ∧ Fl.V (wOf n) * 1024 = n * Fl.U := by
  obtain ⟨r, a, b, c⟩ := Fl.div_1024 n hn
  unfold wOf
  rw [b]
  exact ⟨rfl, c⟩
theorem wOf_ok {n : Nat} (hn : n ≤ 1024000) : wOf n ≤ 4652007308841189376 ∧ wOk (wOf n) = true ∧ wQ (wOf n) = n := by
  have h := (wOf_spec hn).2
  have h1 := Fl.le_1000_of h hn
  refine ⟨h1, ?_, ?_⟩
  · unfold wOk; simp [h1]
  · rw [wQ_pos h1]; exact Fl.quanta_of h

theorem of_any (n : Nat) (hn : n ≤ 1024000) (w : World) : Calls Try.prog 26 #[.int .i64 n] w fun e w' => e = .returned (.float .f64 (wOf n)) ∧ w = w' := by
  have h1 := (wOf_spec hn).1
  have h2 : floatOfInt .f64 (n : Int) = Ieee.double.write (.number false n 0) := by
    unfold floatOfInt FloatKind.nearest
    have : decide ((n : Int) < 0) = false := by simp
    rw [this]
    rfl
  have h3 := fun w => run_float_arith (P := Try.prog) w .quo 24 .f64 (floatOfInt .f64 (n : Int)) 4652218415073722368 (wOf n) (by rw [h2]; exact h1)
  clear h1 h2
  go_enter Try.func26, Try.ntmps26
  go_wp2
  go_ret
  exact ⟨rfl, rfl⟩

theorem and_top (y : Nat) (hy : y < 18446744073709551616) : bits .and .u64 (y : Int) 9223372036854775808 = ((if 9223372036854775808 ≤ y then 9223372036854775808 else 0 : Nat) : Int) := by
  have h := bits_and_u64_nat y 9223372036854775808 hy (by omega)
  rw [show ((9223372036854775808 : Nat) : Int) = 9223372036854775808 from rfl] at h
  rw [h]
  congr 1
  have hb : y.testBit 63 = decide (9223372036854775808 ≤ y) := by
    rw [Nat.testBit_eq_decide_div_mod_eq, Bool.eq_iff_iff]
    simp only [decide_eq_true_eq]
    rw [show (2 ^ 63 : Nat) = 9223372036854775808 from rfl]
    omega
  apply Nat.eq_of_testBit_eq
  intro i
  rw [Nat.testBit_and, show (9223372036854775808 : Nat) = 2 ^ 63 from rfl, Nat.testBit_two_pow]
  by_cases hi : 63 = i
  · subst hi
    rw [hb]
    by_cases hc : 9223372036854775808 ≤ y
    · rw [if_pos hc, show (9223372036854775808 : Nat) = 2 ^ 63 from rfl, Nat.testBit_two_pow]; simp [hc]
    · rw [if_neg hc]; simp [hc]
  · have hd : decide (63 = i) = false := by simpa using hi
    rw [hd, Bool.and_false]
    split
    · rw [Nat.testBit_two_pow, hd]
    · simp
theorem andNot_top (x : Nat) (hx : x < 18446744073709551616) : bits .andNot .u64 (x : Int) 9223372036854775808 = ((x % 9223372036854775808 : Nat) : Int) := by
  have h := u64_andNot_nat x 9223372036854775808 hx (by omega)
  rw [show ((9223372036854775808 : Nat) : Int) = 9223372036854775808 from rfl] at h
  rw [h, show 18446744073709551615 - 9223372036854775808 = 2 ^ 63 - 1 from rfl, Nat.and_two_pow_sub_one_eq_mod]
theorem or_top (a b : Nat) (ha : a < 9223372036854775808) (hb : b = 0 ∨ b = 9223372036854775808) : bits .or .u64 (a : Int) (b : Int) = ((a + b : Nat) : Int) := by
  rw [bits_or_u64_nat a b (by omega) (by omega)]
  congr 1
  rcases hb with rfl | rfl
  · simp
  · rw [Nat.or_comm, Nat.add_comm, show (9223372036854775808 : Nat) = 1 <<< 63 from rfl, Nat.shiftLeft_add_eq_or_of_lt (by omega)]

theorem copysign_any (x y : Nat) (hx : x < 18446744073709551616) (hy : y < 18446744073709551616) (w : World) : Calls Try.prog 28 #[.float .f64 x, .float .f64 y] w fun e w' =>
    e = .returned (.float .f64 (x % 9223372036854775808 + if 9223372036854775808 ≤ y then 9223372036854775808 else 0)) ∧ w = w' := by
  have h1 := call_float64bits
  have h2 := call_float64frombits
  obtain ⟨b, hb⟩ : ∃ b : Nat, b = if 9223372036854775808 ≤ y then 9223372036854775808 else 0 := ⟨_, rfl⟩
  have hb2 : b = 0 ∨ b = 9223372036854775808 := by rw [hb]; split <;> omega
  obtain ⟨a, ha⟩ : ∃ a : Nat, a = x % 9223372036854775808 := ⟨_, rfl⟩
  have h3 := and_top y hy
  have h4 := andNot_top x hx
  have h5 := or_top a b (by omega) hb2
  rw [← hb] at h3 ⊢
  rw [← ha] at h4 ⊢
  clear hb ha
  go_enter Try.func28, Try.ntmps28
  go_wp2
  go_ret
  exact ⟨rfl, rfl⟩

theorem ord_pos_m1 {x : Nat} (hx : x ≤ 4652007308841189376) : FloatKind.f64.format.order 13830554455654793216 x = some .lt ∧ FloatKind.f64.format.order x 13830554455654793216 = some .gt := by
  have f1 : Fl.fin 13830554455654793216 := by unfold Fl.fin; omega
  have fx : Fl.fin x := by unfold Fl.fin; omega
  have s1 : Fl.SV 13830554455654793216 < 0 := by decide +kernel
  have sx : 0 ≤ Fl.SV x := by unfold Fl.SV; rw [if_pos (by omega)]; omega
  have e1 : FloatKind.f64.format.order 13830554455654793216 x = some (compare (Fl.SV 13830554455654793216) (Fl.SV x)) := Fl.ord_fin f1 fx
  have e2 : FloatKind.f64.format.order x 13830554455654793216 = some (compare (Fl.SV x) (Fl.SV 13830554455654793216)) := Fl.ord_fin fx f1
  rw [e1, e2, Int.compare_eq_lt.2 (by omega), Int.compare_eq_gt.2 (by omega)]
  exact ⟨rfl, rfl⟩
theorem ord_pos_0 {x : Nat} (hx : x ≤ 4652007308841189376) (h0 : 0 < x) : FloatKind.f64.format.order x 0 = some .gt := by
  have fx : Fl.fin x := by unfold Fl.fin; omega
  have f0 : Fl.fin 0 := by unfold Fl.fin; omega
  have e2 : FloatKind.f64.format.order x 0 = some (compare (Fl.SV x) (Fl.SV 0)) := Fl.ord_fin fx f0
  have s0 : Fl.SV 0 = 0 := by decide +kernel
  have sx : 0 < Fl.SV x := by unfold Fl.SV; rw [if_pos (by omega)]; have := Fl.V_pos h0; omega
  rw [e2, s0, Int.compare_eq_gt.2 (by omega)]
theorem isNan_ok {x : Nat} (h : wOk x = true) : isNan x = false := by
  have hx : x < 18446744073709551616 := by simp [wOk] at h; omega
  have h2 : x ≤ 4652007308841189376 ∨ x = 9223372036854775808 := by simpa [wOk] using h
  rw [isNan_eq hx, Bool.and_eq_false_iff]
  left
  rw [beq_eq_false_iff_ne]
  omega

theorem nextafter_down (x : Nat) (h0 : 0 < x) (hx : x ≤ 4652007308841189376) (w : World) : Calls Try.prog 27 #[.float .f64 x, .float .f64 13830554455654793216] w fun e w' =>
    e = .returned (.float .f64 (x - 1)) ∧ w = w' := by
  have h1 := call_float64bits
  have h2 := call_float64frombits
  obtain ⟨o1, o2⟩ := ord_pos_m1 hx
  have o3 := ord_pos_0 hx h0
  have n1 : isNan x = false := isNan_ok (by unfold wOk; simp [hx])
  have n2 : isNan 13830554455654793216 = false := by decide +kernel
  have e1 : ((x : Int) - 1).toNat = x - 1 := by omega
  have HE := Lib.hid e1
  clear e1
  go_enter Try.func27, Try.ntmps27
  go_wp2_with (first | (go_at_call 39; refine (isNaN_any _ _).mono ?_; rintro e w' ⟨rfl, rfl⟩) | (go_at_call 29; go_in))
  go_ret
  exact ⟨by simp, rfl⟩
theorem nextafter_zero (w : World) : Calls Try.prog 27 #[.float .f64 0, .float .f64 13830554455654793216] w fun e w' =>
    e = .returned (.float .f64 9223372036854775809) ∧ w = w' := by
  have h1 := call_float64bits
  have h2 := call_float64frombits
  obtain ⟨o1, o2⟩ := ord_pos_m1 (x := 0) (by omega)
  have o3 : FloatKind.f64.format.order 0 0 = some .eq := by decide +kernel
  have n1 : isNan 0 = false := by decide +kernel
  have n2 : isNan 13830554455654793216 = false := by decide +kernel
  go_enter Try.func27, Try.ntmps27
  go_wp2_with (first | (go_at_call 39; refine (isNaN_any _ _).mono ?_; rintro e w' ⟨rfl, rfl⟩) | (go_at_call 28; refine (copysign_any _ _ (by omega) (by omega) _).mono ?_; rintro e w' ⟨rfl, rfl⟩))
  go_ret
  exact ⟨by simp, rfl⟩
end Go.Proofs.Ytobafaacojndiaa
