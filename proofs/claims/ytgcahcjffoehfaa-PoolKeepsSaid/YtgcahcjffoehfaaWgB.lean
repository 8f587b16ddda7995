/- The document's answers of the layer of weights, and math's small functions: what each call answers. -/
import Derived.Test.YtgcahcjffoehfaaWgA
set_option linter.unusedSimpArgs false
set_option linter.unusedVariables false
namespace Go.Proofs.Ytgcahcjffoehfaa
open Go.RowKit

theorem and_u64_mask (x m k : Nat) (hx : x < 18446744073709551616) (hm : m + 1 = 2 ^ k) (hk : m < 18446744073709551616) : bits .and .u64 (x : Int) (m : Int) = ((x % 2 ^ k : Nat) : Int) := by
  rw [bits_and_u64_nat x m hx hk, show m = 2 ^ k - 1 by omega, Nat.and_two_pow_sub_one_eq_mod]

theorem parts_any (x : Nat) (hx : x < 18446744073709551616) (w : World) : Calls Try.prog 47 #[.float .f64 x] w fun e w' =>
    e = .returned (.tuple #[.bool (decide (9223372036854775808 ≤ x)), .int .i64 (x / 4503599627370496 % 2048 : Nat), .int .u64 (x % 4503599627370496 : Nat)]) ∧ w = w' := by
  have h1 := call_float64bits x
  have h2 : bits .and .u64 ((x : Int) / 4503599627370496) 2047 = ((x / 4503599627370496 % 2048 : Nat) : Int) :=
    and_u64_mask (x / 4503599627370496) 2047 11 (by omega) (by omega) (by omega)
  have h3 : bits .and .u64 (x : Int) 4503599627370495 = ((x % 4503599627370496 : Nat) : Int) :=
    and_u64_mask x 4503599627370495 52 (by omega) (by omega) (by omega)
  go_enter Try.func47, Try.ntmps47
  go_wp2
  go_ret3
  refine ⟨?_, rfl⟩
  have e1 : ((x : Int) / 9223372036854775808 == 1) = decide (9223372036854775808 ≤ x) := by rw [Bool.eq_iff_iff]; simp; omega
  have e2 : wrap64 ((x / 4503599627370496 % 2048 : Nat) : Int) = ((x / 4503599627370496 % 2048 : Nat) : Int) := IntWalk.wrap64_in _ (by omega)
  simp [e1]
  
theorem mask_low (M l : Nat) (hM2 : M < 4503599627370496) (hl : l < 63) :
    bits .and .u64 ((M : Int) + 4503599627370496) (IntKind.u64.wrap (IntKind.u64.wrap (2 ^ l) - 1)) = (((M + 4503599627370496) % 2 ^ l : Nat) : Int) := by
  have hp : 0 < 2 ^ l := Nat.two_pow_pos l
  have h2 : 2 ^ l < 18446744073709551616 := Nat.lt_of_lt_of_le (Nat.pow_lt_pow_right (by omega) hl) (by decide)
  have e : IntKind.u64.wrap (IntKind.u64.wrap (2 ^ l) - 1) = ((2 ^ l - 1 : Nat) : Int) := by
    rw [IntKind.wrap_u64, IntKind.wrap_u64]
    have : ((2 : Int) ^ l) = ((2 ^ l : Nat) : Int) := by simp
    rw [this]
    omega
  rw [e, show ((M : Int) + 4503599627370496) = ((M + 4503599627370496 : Nat) : Int) by omega]
  exact and_u64_mask _ _ l (by omega) (by omega) (by omega)
theorem refQ_zero (x : Nat) (hx : x < 18446744073709551616) (he : x % 9223372036854775808 = 0) (w : World) : Calls Try.prog 25 #[.float .f64 x] w fun e w' =>
    e = .returned (.tuple #[.int .i64 0, .bool true]) ∧ w = w' := by
  have h1 : ((x / 4503599627370496 % 2048 : Nat) : Int) = 0 := by omega
  have h2 : ((x % 4503599627370496 : Nat) : Int) = 0 := by omega
  go_enter Try.func25, Try.ntmps25
  go_wp2_with (first | (go_at_call 47; refine (parts_any _ hx _).mono ?_; rintro e w' ⟨rfl, rfl⟩; rw [h1, h2]))
  go_ret2
  exact ⟨rfl, rfl⟩
theorem refQ_minus (x : Nat) (hx : x < 18446744073709551616) (he : 9223372036854775808 < x) (w : World) : Calls Try.prog 25 #[.float .f64 x] w fun e w' =>
    e = .returned (.tuple #[.int .i64 0, .bool false]) ∧ w = w' := by
  have h1 : decide (9223372036854775808 ≤ x) = true := by simp; omega
  by_cases hc : x / 4503599627370496 % 2048 = 0
  · have h2 : (((x / 4503599627370496 % 2048 : Nat) : Int) == 0) = true := by rw [beq_iff_eq]; omega
    have h3 : (((x % 4503599627370496 : Nat) : Int) == 0) = false := by rw [beq_eq_false_iff_ne]; omega
    clear hc
    go_enter Try.func25, Try.ntmps25
    go_wp2_with (first | (go_at_call 47; refine (parts_any _ hx _).mono ?_; rintro e w' ⟨rfl, rfl⟩; rw [h1]; generalize ((x / 4503599627370496 % 2048 : Nat) : Int) = e at h2 ⊢; generalize ((x % 4503599627370496 : Nat) : Int) = m at h3 ⊢))
    go_ret2
    exact ⟨rfl, rfl⟩
  · have h2 : (((x / 4503599627370496 % 2048 : Nat) : Int) == 0) = false := by rw [beq_eq_false_iff_ne]; omega
    clear hc
    go_enter Try.func25, Try.ntmps25
    go_wp2_with (first | (go_at_call 47; refine (parts_any _ hx _).mono ?_; rintro e w' ⟨rfl, rfl⟩; rw [h1]; generalize ((x / 4503599627370496 % 2048 : Nat) : Int) = e at h2 ⊢; generalize ((x % 4503599627370496 : Nat) : Int) = m))
    go_ret2
    exact ⟨rfl, rfl⟩
theorem refQ_great (x : Nat) (hx : x < 9223372036854775808) (he : 4652218415073722368 ≤ x) (w : World) : Calls Try.prog 25 #[.float .f64 x] w fun e w' =>
    e = .returned (.tuple #[.int .i64 0, .bool false]) ∧ w = w' := by
  have h1 : decide (9223372036854775808 ≤ x) = false := by simp; omega
  have h2 : (((x / 4503599627370496 % 2048 : Nat) : Int) == 0) = false := by rw [beq_eq_false_iff_ne]; omega
  have h4 : 1033 ≤ (((x / 4503599627370496 % 2048 : Nat) : Int)) := by omega
  by_cases hc : x / 4503599627370496 % 2048 = 2047
  · have h3 : (((x / 4503599627370496 % 2048 : Nat) : Int) == 2047) = true := by rw [beq_iff_eq]; omega
    clear hc
    go_enter Try.func25, Try.ntmps25
    go_wp2_with (first | (go_at_call 47; refine (parts_any _ (by omega) _).mono ?_; rintro e w' ⟨rfl, rfl⟩; rw [h1]; generalize ((x / 4503599627370496 % 2048 : Nat) : Int) = e at h2 h3 h4 ⊢; generalize ((x % 4503599627370496 : Nat) : Int) = m))
    go_ret2
    exact ⟨rfl, rfl⟩
  · have h3 : (((x / 4503599627370496 % 2048 : Nat) : Int) == 2047) = false := by rw [beq_eq_false_iff_ne]; omega
    have h5 : 0 < (((x / 4503599627370496 % 2048 : Nat) : Int)) := by omega
    clear hc
    go_enter Try.func25, Try.ntmps25
    go_wp2_with (first | (go_at_call 47; refine (parts_any _ (by omega) _).mono ?_; rintro e w' ⟨rfl, rfl⟩; rw [h1]; generalize ((x / 4503599627370496 % 2048 : Nat) : Int) = e at h2 h3 h4 h5 ⊢; generalize ((x % 4503599627370496 : Nat) : Int) = m))
    go_ret2
    exact ⟨rfl, rfl⟩
set_option maxRecDepth 100000 in
theorem refQ_small (x E M : Nat) (hx : x < 4652218415073722368) (hE : E = x / 4503599627370496) (hM : M = x % 4503599627370496) (h0 : 0 < E) (hl : 60 < 1075 - E - 10) (w : World) : Calls Try.prog 25 #[.float .f64 x] w fun e w' =>
    e = .returned (.tuple #[.int .i64 0, .bool true]) ∧ w = w' := by
  have h1 : decide (9223372036854775808 ≤ x) = false := by simp; omega
  have e1 : ((x / 4503599627370496 % 2048 : Nat) : Int) = (E : Int) := by omega
  have e2 : ((x % 4503599627370496 : Nat) : Int) = (M : Int) := by omega
  have hE2 : E < 1033 := by omega
  have hM2 : M < 4503599627370496 := by omega
  clear hE hM
  have h2 : ((E : Int) == 0) = false := by rw [beq_eq_false_iff_ne]; omega
  have h3 : ((E : Int) == 2047) = false := by rw [beq_eq_false_iff_ne]; omega
  go_enter Try.func25, Try.ntmps25
  go_wp2_with (first | (go_at_call 47; refine (parts_any _ (by omega) _).mono ?_; rintro e w' ⟨rfl, rfl⟩; rw [h1, e1, e2]; clear e1 e2))
  go_ret2
  exact ⟨rfl, rfl⟩
set_option maxRecDepth 100000 in
theorem refQ_mid (x E M : Nat) (hx : x < 4652218415073722368) (hE : E = x / 4503599627370496) (hM : M = x % 4503599627370496) (h0 : 0 < E) (hl : 63 ≤ 1075 - E) (hl2 : 1075 - E - 10 ≤ 60) (w : World) : Calls Try.prog 25 #[.float .f64 x] w fun e w' =>
    e = .returned (.tuple #[.int .i64 (wrap64 (((M : Int) + 4503599627370496) / 2 ^ (1075 - E - 10))), .bool true]) ∧ w = w' := by
  have h1 : decide (9223372036854775808 ≤ x) = false := by simp; omega
  have e1 : ((x / 4503599627370496 % 2048 : Nat) : Int) = (E : Int) := by omega
  have e2 : ((x % 4503599627370496 : Nat) : Int) = (M : Int) := by omega
  have hE2 : E < 1033 := by omega
  have hM2 : M < 4503599627370496 := by omega
  clear hE hM
  have h2 : ((E : Int) == 0) = false := by rw [beq_eq_false_iff_ne]; omega
  have h3 : ((E : Int) == 2047) = false := by rw [beq_eq_false_iff_ne]; omega
  go_enter Try.func25, Try.ntmps25
  go_wp2_with (first | (go_at_call 47; refine (parts_any _ (by omega) _).mono ?_; rintro e w' ⟨rfl, rfl⟩; rw [h1, e1, e2]; clear e1 e2))
  go_ret2
  exact ⟨rfl, rfl⟩
set_option maxRecDepth 100000 in
theorem refQ_gt (x E M : Nat) (hx : x < 4652218415073722368) (hE : E = x / 4503599627370496) (hM : M = x % 4503599627370496) (h0 : 0 < E) (hl : 1075 - E < 63) (hq : 1000 < ((M : Int) + 4503599627370496) / 2 ^ (1075 - E)) (w : World) : Calls Try.prog 25 #[.float .f64 x] w fun e w' =>
    e = .returned (.tuple #[.int .i64 0, .bool false]) ∧ w = w' := by
  have h1 : decide (9223372036854775808 ≤ x) = false := by simp; omega
  have e1 : ((x / 4503599627370496 % 2048 : Nat) : Int) = (E : Int) := by omega
  have e2 : ((x % 4503599627370496 : Nat) : Int) = (M : Int) := by omega
  have hE2 : E < 1033 := by omega
  have hM2 : M < 4503599627370496 := by omega
  clear hE hM
  have h2 : ((E : Int) == 0) = false := by rw [beq_eq_false_iff_ne]; omega
  have h3 : ((E : Int) == 2047) = false := by rw [beq_eq_false_iff_ne]; omega
  have hq1 : decide (1000 < ((M : Int) + 4503599627370496) / 2 ^ (1075 - E)) = true := by simpa using hq
  go_enter Try.func25, Try.ntmps25
  go_wp2_with (first | (go_at_call 47; refine (parts_any _ (by omega) _).mono ?_; rintro e w' ⟨rfl, rfl⟩; rw [h1, e1, e2]; clear e1 e2))
  go_ret2
  exact ⟨rfl, rfl⟩
set_option maxRecDepth 100000 in
theorem refQ_lt (x E M : Nat) (hx : x < 4652218415073722368) (hE : E = x / 4503599627370496) (hM : M = x % 4503599627370496) (h0 : 0 < E) (hl : 1075 - E < 63) (hq : ((M : Int) + 4503599627370496) / 2 ^ (1075 - E) < 1000) (w : World) : Calls Try.prog 25 #[.float .f64 x] w fun e w' =>
    e = .returned (.tuple #[.int .i64 (wrap64 (((M : Int) + 4503599627370496) / 2 ^ (1075 - E - 10))), .bool true]) ∧ w = w' := by
  have h1 : decide (9223372036854775808 ≤ x) = false := by simp; omega
  have e1 : ((x / 4503599627370496 % 2048 : Nat) : Int) = (E : Int) := by omega
  have e2 : ((x % 4503599627370496 : Nat) : Int) = (M : Int) := by omega
  have hE2 : E < 1033 := by omega
  have hM2 : M < 4503599627370496 := by omega
  clear hE hM
  have h2 : ((E : Int) == 0) = false := by rw [beq_eq_false_iff_ne]; omega
  have h3 : ((E : Int) == 2047) = false := by rw [beq_eq_false_iff_ne]; omega
  have hq1 : decide (1000 < ((M : Int) + 4503599627370496) / 2 ^ (1075 - E)) = false := by simp; omega
  have hq2 : (((M : Int) + 4503599627370496) / 2 ^ (1075 - E) == 1000) = false := by rw [beq_eq_false_iff_ne]; omega
  go_enter Try.func25, Try.ntmps25
  go_wp2_with (first | (go_at_call 47; refine (parts_any _ (by omega) _).mono ?_; rintro e w' ⟨rfl, rfl⟩; rw [h1, e1, e2]; clear e1 e2))
  go_ret2
  exact ⟨rfl, rfl⟩
set_option maxRecDepth 100000 in
theorem refQ_eqno (x E M : Nat) (hx : x < 4652218415073722368) (hE : E = x / 4503599627370496) (hM : M = x % 4503599627370496) (h0 : 0 < E) (hl : 1075 - E < 63) (hq : ((M : Int) + 4503599627370496) / 2 ^ (1075 - E) = 1000) (hm : (M + 4503599627370496) % 2 ^ (1075 - E) ≠ 0) (w : World) : Calls Try.prog 25 #[.float .f64 x] w fun e w' =>
    e = .returned (.tuple #[.int .i64 0, .bool false]) ∧ w = w' := by
  have h1 : decide (9223372036854775808 ≤ x) = false := by simp; omega
  have e1 : ((x / 4503599627370496 % 2048 : Nat) : Int) = (E : Int) := by omega
  have e2 : ((x % 4503599627370496 : Nat) : Int) = (M : Int) := by omega
  have hE2 : E < 1033 := by omega
  have hM2 : M < 4503599627370496 := by omega
  clear hE hM
  have h2 : ((E : Int) == 0) = false := by rw [beq_eq_false_iff_ne]; omega
  have h3 : ((E : Int) == 2047) = false := by rw [beq_eq_false_iff_ne]; omega
  have hq1 : decide (1000 < ((M : Int) + 4503599627370496) / 2 ^ (1075 - E)) = false := by simp; omega
  have hq2 : (((M : Int) + 4503599627370496) / 2 ^ (1075 - E) == 1000) = true := by rw [beq_iff_eq]; omega
  have hmk : bits .and .u64 ((M : Int) + 4503599627370496) (IntKind.u64.wrap (IntKind.u64.wrap (2 ^ (1075 - E)) - 1)) = (((M + 4503599627370496) % 2 ^ (1075 - E) : Nat) : Int) := mask_low M (1075 - E) hM2 hl
  have hm2 : ((((M + 4503599627370496) % 2 ^ (1075 - E) : Nat) : Int) != 0) = true := by rw [bne_iff_ne]; omega
  clear hq hm
  generalize (((M + 4503599627370496) % 2 ^ (1075 - E) : Nat) : Int) = mm at hmk hm2
  go_enter Try.func25, Try.ntmps25
  go_wp2_with (first | (go_at_call 47; refine (parts_any _ (by omega) _).mono ?_; rintro e w' ⟨rfl, rfl⟩; rw [h1, e1, e2]; clear e1 e2))
  go_ret2
  exact ⟨rfl, rfl⟩
set_option maxRecDepth 100000 in
theorem refQ_eqyes (x E M : Nat) (hx : x < 4652218415073722368) (hE : E = x / 4503599627370496) (hM : M = x % 4503599627370496) (h0 : 0 < E) (hl : 1075 - E < 63) (hq : ((M : Int) + 4503599627370496) / 2 ^ (1075 - E) = 1000) (hm : (M + 4503599627370496) % 2 ^ (1075 - E) = 0) (w : World) : Calls Try.prog 25 #[.float .f64 x] w fun e w' =>
    e = .returned (.tuple #[.int .i64 (wrap64 (((M : Int) + 4503599627370496) / 2 ^ (1075 - E - 10))), .bool true]) ∧ w = w' := by
  have h1 : decide (9223372036854775808 ≤ x) = false := by simp; omega
  have e1 : ((x / 4503599627370496 % 2048 : Nat) : Int) = (E : Int) := by omega
  have e2 : ((x % 4503599627370496 : Nat) : Int) = (M : Int) := by omega
  have hE2 : E < 1033 := by omega
  have hM2 : M < 4503599627370496 := by omega
  clear hE hM
  have h2 : ((E : Int) == 0) = false := by rw [beq_eq_false_iff_ne]; omega
  have h3 : ((E : Int) == 2047) = false := by rw [beq_eq_false_iff_ne]; omega
  have hq1 : decide (1000 < ((M : Int) + 4503599627370496) / 2 ^ (1075 - E)) = false := by simp; omega
  have hq2 : (((M : Int) + 4503599627370496) / 2 ^ (1075 - E) == 1000) = true := by rw [beq_iff_eq]; omega
  have hmk : bits .and .u64 ((M : Int) + 4503599627370496) (IntKind.u64.wrap (IntKind.u64.wrap (2 ^ (1075 - E)) - 1)) = (((M + 4503599627370496) % 2 ^ (1075 - E) : Nat) : Int) := mask_low M (1075 - E) hM2 hl
  have hm2 : ((((M + 4503599627370496) % 2 ^ (1075 - E) : Nat) : Int) != 0) = false := by rw [hm]; rfl
  clear hq hm
  generalize (((M + 4503599627370496) % 2 ^ (1075 - E) : Nat) : Int) = mm at hmk hm2
  go_enter Try.func25, Try.ntmps25
  go_wp2_with (first | (go_at_call 47; refine (parts_any _ (by omega) _).mono ?_; rintro e w' ⟨rfl, rfl⟩; rw [h1, e1, e2]; clear e1 e2))
  go_ret2
  exact ⟨rfl, rfl⟩
set_option maxRecDepth 100000 in
theorem refQ_sub (x : Nat) (h0 : 0 < x) (hx : x < 4503599627370496) (w : World) : Calls Try.prog 25 #[.float .f64 x] w fun e w' =>
    e = .returned (.tuple #[.int .i64 0, .bool true]) ∧ w = w' := by
  have h1 : decide (9223372036854775808 ≤ x) = false := by simp; omega
  have e1 : ((x / 4503599627370496 % 2048 : Nat) : Int) = 0 := by omega
  have e2 : ((x % 4503599627370496 : Nat) : Int) = (x : Int) := by omega
  have h2 : ((x : Int) == 0) = false := by rw [beq_eq_false_iff_ne]; omega
  go_enter Try.func25, Try.ntmps25
  go_wp2_with (first | (go_at_call 47; refine (parts_any _ (by omega) _).mono ?_; rintro e w' ⟨rfl, rfl⟩; rw [h1, e1, e2]; clear e1 e2))
  go_ret2
  exact ⟨rfl, rfl⟩
end Go.Proofs.Ytgcahcjffoehfaa
