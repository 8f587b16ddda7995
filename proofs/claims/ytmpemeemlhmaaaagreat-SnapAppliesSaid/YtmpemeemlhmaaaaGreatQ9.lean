/- The leaves of the layer of weights: what each call answers, of whatever bits. -/
import Derived.Test.YtmpemeemlhmaaaaGreatRows
import Derived.WalkKit
import Derived.WalkSpells
import Derived.WalkLawsBesides
import Derived.Lib.Hide
import Derived.Test.YtmpemeemlhmaaaaGreatQ8
import Derived.Test.YtmpemeemlhmaaaaGreatQ1
import Derived.Test.YtmpemeemlhmaaaaGreatQ3
import Derived.Deep.RegionWith
set_option linter.unusedSimpArgs false
set_option linter.unusedVariables false
set_option maxRecDepth 100000
namespace Go.Proofs.YtmpemeemlhmaaaaGreat
open Go.RowKit

theorem call_float64bits (x : Nat) (w : World) : (callFunc 108 #[.float .f64 x]).run Tryz.prog w = .ok (.value (.int .u64 x)) w := by
  rw [run_callFunc_extern Tryz.func108 (by kernel_rfl) (by kernel_rfl) (by kernel_rfl) (e := Extern.MathFloatBits.float64bits) (by kernel_rfl)]
  rfl
theorem call_float64frombits (x : Int) (w : World) : (callFunc 167 #[.int .u64 x]).run Tryz.prog w = .ok (.value (.float .f64 x.toNat)) w := by
  rw [run_callFunc_extern Tryz.func167 (by kernel_rfl) (by kernel_rfl) (by kernel_rfl) (e := Extern.MathFloatBits.float64frombits) (by kernel_rfl)]
  rfl

def ord (x y : Nat) : Option Ordering := FloatKind.f64.format.order x y
def isNan (x : Nat) : Bool := ord x x != some .eq

theorem isNaN_any (x : Nat) (w : World) : Calls Tryz.prog 147 #[.float .f64 x] w fun e w' => e = .returned (.bool (isNan x)) ∧ w = w' := by
  go_enter Tryz.func147, Tryz.ntmps147
  go_wp2
  go_ret
  exact ⟨rfl, rfl⟩

def wBits (x : Nat) : Nat := if isNan x then 9221120237041090560 else x
theorem bits_any (x : Nat) (w : World) : Calls Tryz.prog 118 #[.float .f64 x] w fun e w' => e = .returned (.int .u64 (wBits x)) ∧ w = w' := by
  have h1 := call_float64bits x
  cases hn : isNan x
  all_goals
    go_enter Tryz.func118, Tryz.ntmps118
    go_wp2_with (first | (go_at_call 147; refine (isNaN_any _ _).mono ?_; rintro e w' ⟨rfl, rfl⟩))
    go_ret
    exact ⟨by simp [wBits, hn], rfl⟩

def wSame (x y : Nat) : Bool := wBits x == wBits y
theorem same_any (x y : Nat) (w : World) : Calls Tryz.prog 81 #[.float .f64 x, .float .f64 y] w fun e w' => e = .returned (.bool (wSame x y)) ∧ w = w' := by
  go_enter Tryz.func81, Tryz.ntmps81
  go_wp2_with (first | (go_at_call 118; refine (bits_any _ _).mono ?_; rintro e w' ⟨rfl, rfl⟩))
  go_ret
  exact ⟨by simp [wSame, nat_beq], rfl⟩

def wRight (x : Nat) : Bool := (ord x 0 == some .gt || ord x 0 == some .eq) && (ord x 4652007308841189376 == some .lt || ord x 4652007308841189376 == some .eq)
theorem right_any (x : Nat) (w : World) : Calls Tryz.prog 112 #[.float .f64 x] w fun e w' => e = .returned (.bool (wRight x)) ∧ w = w' := by
  cases h0 : (FloatKind.f64.format.order x 0 == some .gt || FloatKind.f64.format.order x 0 == some .eq)
  all_goals
    go_enter Tryz.func112, Tryz.ntmps112
    go_wp2
    go_ret
    exact ⟨by simp [wRight, ord, h0], rfl⟩

def wPlain (x : Nat) : Nat := if ord x 0 == some .eq then 0 else x
theorem plain_any (x : Nat) (w : World) : Calls Tryz.prog 75 #[.float .f64 x] w fun e w' => e = .returned (.float .f64 (wPlain x)) ∧ w = w' := by
  cases h0 : (FloatKind.f64.format.order x 0 == some .eq)
  all_goals
    go_enter Tryz.func75, Tryz.ntmps75
    go_wp2
    go_ret
    exact ⟨by simp [wPlain, ord, h0], rfl⟩


/-- the words of weights: from nought to 1000, or minus nought -/
def wOk (x : Nat) : Bool := decide (x ≤ 4652007308841189376) || x == 9223372036854775808
theorem fin_ok {x : Nat} (h : wOk x = true) : Fl.fin x := by
  simp [wOk] at h
  unfold Fl.fin; omega
theorem sv_ok {x : Nat} (h : wOk x = true) : Fl.SV x = Fl.V (x % 9223372036854775808) := by
  simp [wOk] at h
  unfold Fl.SV
  rcases h with h | h
  · rw [if_pos (by omega), Nat.mod_eq_of_lt (by omega)]
  · subst h; simp [Fl.V_zero]
theorem wRight_eq {x : Nat} (hx : x < 18446744073709551616) : wRight x = wOk x := by
  have f0 : Fl.fin 0 := by unfold Fl.fin; omega
  have f1 : Fl.fin 4652007308841189376 := by unfold Fl.fin; omega
  have s0 : Fl.SV 0 = 0 := by decide +kernel
  have s1 : Fl.SV 4652007308841189376 = (Fl.V 4652007308841189376 : Int) := by unfold Fl.SV; rw [if_pos (by omega)]
  have hord : ∀ a b, ord a b = Ieee.double.order a b := fun _ _ => rfl
  unfold wRight wOk
  rw [Bool.eq_iff_iff]
  simp only [hord]
  by_cases hf : Fl.fin x
  · rw [Fl.ord_fin hf f0, Fl.ord_fin hf f1, s0, s1]
    have e1 : ∀ a b : Int, (some (compare a b) == some Ordering.gt || some (compare a b) == some Ordering.eq) = decide (b ≤ a) := by
      intro a b
      rw [Bool.eq_iff_iff]
      simp [Int.compare_eq_gt, Int.compare_eq_eq]
      omega
    have e2 : ∀ a b : Int, (some (compare a b) == some Ordering.lt || some (compare a b) == some Ordering.eq) = decide (a ≤ b) := by
      intro a b
      rw [Bool.eq_iff_iff]
      simp [Int.compare_eq_lt, Int.compare_eq_eq]
      omega
    rw [e1, e2]
    unfold Fl.SV
    split
    · rename_i h1
      have := @Fl.V_le_iff x 4652007308841189376
      simp
      omega
    · rename_i h1
      have := @Fl.V_le_iff (x - 9223372036854775808) 0
      have hz := Fl.V_zero
      simp
      omega
  · have hno : ¬ x ≤ 4652007308841189376 := fun h => hf (by unfold Fl.fin; omega)
    have hno' : ¬ x = 9223372036854775808 := fun h => hf (by unfold Fl.fin; omega)
    rcases Fl.not_fin hx hf with rfl | rfl | ⟨s, f, h⟩
    · rw [Fl.ord_inf_l f0, Fl.ord_inf_l f1]; decide
    · rw [Fl.ord_ninf_l f0, Fl.ord_ninf_l f1]; decide
    · rw [Fl.ord_nan_l h, Fl.ord_nan_l h]
      simp
      omega

/-- the quanta of a word, and whether it is a weight -/
def wQ (x : Nat) : Nat := if wOk x then Fl.quanta (x % 9223372036854775808) else 0
theorem wQ_le (x : Nat) : wQ x ≤ 1024000 := by
  unfold wQ
  split
  · rename_i h
    simp [wOk] at h
    refine Fl.quanta_le ?_
    omega
  · omega

end Go.Proofs.YtmpemeemlhmaaaaGreat

namespace Go.Proofs.YtmpemeemlhmaaaaGreat
open Go.RowKit

theorem and_u64_mask (x m k : Nat) (hx : x < 18446744073709551616) (hm : m + 1 = 2 ^ k) (hk : m < 18446744073709551616) : bits .and .u64 (x : Int) (m : Int) = ((x % 2 ^ k : Nat) : Int) := by
  rw [bits_and_u64_nat x m hx hk, show m = 2 ^ k - 1 by omega, Nat.and_two_pow_sub_one_eq_mod]

theorem parts_any (x : Nat) (hx : x < 18446744073709551616) (w : World) : Calls Tryz.prog 141 #[.float .f64 x] w fun e w' =>
    e = .returned (.tuple #[.bool (decide (9223372036854775808 ≤ x)), .int .i64 (x / 4503599627370496 % 2048 : Nat), .int .u64 (x % 4503599627370496 : Nat)]) ∧ w = w' := by
  have h1 := call_float64bits x
  have h2 : bits .and .u64 ((x : Int) / 4503599627370496) 2047 = ((x / 4503599627370496 % 2048 : Nat) : Int) :=
    and_u64_mask (x / 4503599627370496) 2047 11 (by omega) (by omega) (by omega)
  have h3 : bits .and .u64 (x : Int) 4503599627370495 = ((x % 4503599627370496 : Nat) : Int) :=
    and_u64_mask x 4503599627370495 52 (by omega) (by omega) (by omega)
  go_enter Tryz.func141, Tryz.ntmps141
  go_wp2
  go_ret3
  refine ⟨?_, rfl⟩
  have e1 : ((x : Int) / 9223372036854775808 == 1) = decide (9223372036854775808 ≤ x) := by rw [Bool.eq_iff_iff]; simp; omega
  have e2 : wrap64 ((x / 4503599627370496 % 2048 : Nat) : Int) = ((x / 4503599627370496 % 2048 : Nat) : Int) := IntWalk.wrap64_in _ (by omega)
  simp [e1]
  
theorem mask_low (M l : Nat) (hM2 : M < 4503599627370496) (hl : l < 63) :
    bits .and .u64 ((M : Int) + 4503599627370496) (IntKind.u64.wrap (IntKind.u64.wrap (2 ^ l) - 1)) = (((M + 4503599627370496) % 2 ^ l : Nat) : Int) := by
  have hp : 0 < 2 ^ l := Nat.two_pow_pos l
  have h2 : 2 ^ l < 18446744073709551616 := Nat.lt_of_lt_of_le (Nat.pow_lt_pow_right (by omega) hl) (by decide)
  have e : IntKind.u64.wrap (IntKind.u64.wrap (2 ^ l) - 1) = ((2 ^ l - 1 : Nat) : Int) := by
    rw [IntKind.wrap_u64, IntKind.wrap_u64]
    have : ((2 : Int) ^ l) = ((2 ^ l : Nat) : Int) := by simp
    rw [this]
    omega
  rw [e, show ((M : Int) + 4503599627370496) = ((M + 4503599627370496 : Nat) : Int) by omega]
  exact and_u64_mask _ _ l (by omega) (by omega) (by omega)
theorem refQ_zero (x : Nat) (hx : x < 18446744073709551616) (he : x % 9223372036854775808 = 0) (w : World) : Calls Tryz.prog 140 #[.float .f64 x] w fun e w' =>
    e = .returned (.tuple #[.int .i64 0, .bool true]) ∧ w = w' := by
  have h1 : ((x / 4503599627370496 % 2048 : Nat) : Int) = 0 := by omega
  have h2 : ((x % 4503599627370496 : Nat) : Int) = 0 := by omega
  go_enter Tryz.func140, Tryz.ntmps140
  go_wp2_with (first | (go_at_call 141; refine (parts_any _ hx _).mono ?_; rintro e w' ⟨rfl, rfl⟩; rw [h1, h2]))
  go_ret2
  exact ⟨rfl, rfl⟩
theorem refQ_minus (x : Nat) (hx : x < 18446744073709551616) (he : 9223372036854775808 < x) (w : World) : Calls Tryz.prog 140 #[.float .f64 x] w fun e w' =>
    e = .returned (.tuple #[.int .i64 0, .bool false]) ∧ w = w' := by
  have h1 : decide (9223372036854775808 ≤ x) = true := by simp; omega
  by_cases hc : x / 4503599627370496 % 2048 = 0
  · have h2 : (((x / 4503599627370496 % 2048 : Nat) : Int) == 0) = true := by rw [beq_iff_eq]; omega
    have h3 : (((x % 4503599627370496 : Nat) : Int) == 0) = false := by rw [beq_eq_false_iff_ne]; omega
    clear hc
    go_enter Tryz.func140, Tryz.ntmps140
    go_wp2_with (first | (go_at_call 141; refine (parts_any _ hx _).mono ?_; rintro e w' ⟨rfl, rfl⟩; rw [h1]; generalize ((x / 4503599627370496 % 2048 : Nat) : Int) = e at h2 ⊢; generalize ((x % 4503599627370496 : Nat) : Int) = m at h3 ⊢))
    go_ret2
    exact ⟨rfl, rfl⟩
  · have h2 : (((x / 4503599627370496 % 2048 : Nat) : Int) == 0) = false := by rw [beq_eq_false_iff_ne]; omega
    clear hc
    go_enter Tryz.func140, Tryz.ntmps140
    go_wp2_with (first | (go_at_call 141; refine (parts_any _ hx _).mono ?_; rintro e w' ⟨rfl, rfl⟩; rw [h1]; generalize ((x / 4503599627370496 % 2048 : Nat) : Int) = e at h2 ⊢; generalize ((x % 4503599627370496 : Nat) : Int) = m))
    go_ret2
    exact ⟨rfl, rfl⟩
theorem refQ_great (x : Nat) (hx : x < 9223372036854775808) (he : 4652218415073722368 ≤ x) (w : World) : Calls Tryz.prog 140 #[.float .f64 x] w fun e w' =>
    e = .returned (.tuple #[.int .i64 0, .bool false]) ∧ w = w' := by
  have h1 : decide (9223372036854775808 ≤ x) = false := by simp; omega
  have h2 : (((x / 4503599627370496 % 2048 : Nat) : Int) == 0) = false := by rw [beq_eq_false_iff_ne]; omega
  have h4 : 1033 ≤ (((x / 4503599627370496 % 2048 : Nat) : Int)) := by omega
  by_cases hc : x / 4503599627370496 % 2048 = 2047
  · have h3 : (((x / 4503599627370496 % 2048 : Nat) : Int) == 2047) = true := by rw [beq_iff_eq]; omega
    clear hc
    go_enter Tryz.func140, Tryz.ntmps140
    go_wp2_with (first | (go_at_call 141; refine (parts_any _ (by omega) _).mono ?_; rintro e w' ⟨rfl, rfl⟩; rw [h1]; generalize ((x / 4503599627370496 % 2048 : Nat) : Int) = e at h2 h3 h4 ⊢; generalize ((x % 4503599627370496 : Nat) : Int) = m))
    go_ret2
    exact ⟨rfl, rfl⟩
  · have h3 : (((x / 4503599627370496 % 2048 : Nat) : Int) == 2047) = false := by rw [beq_eq_false_iff_ne]; omega
    have h5 : 0 < (((x / 4503599627370496 % 2048 : Nat) : Int)) := by omega
    clear hc
    go_enter Tryz.func140, Tryz.ntmps140
    go_wp2_with (first | (go_at_call 141; refine (parts_any _ (by omega) _).mono ?_; rintro e w' ⟨rfl, rfl⟩; rw [h1]; generalize ((x / 4503599627370496 % 2048 : Nat) : Int) = e at h2 h3 h4 h5 ⊢; generalize ((x % 4503599627370496 : Nat) : Int) = m))
    go_ret2
    exact ⟨rfl, rfl⟩
set_option maxRecDepth 100000 in
theorem refQ_small (x E M : Nat) (hx : x < 4652218415073722368) (hE : E = x / 4503599627370496) (hM : M = x % 4503599627370496) (h0 : 0 < E) (hl : 60 < 1075 - E - 10) (w : World) : Calls Tryz.prog 140 #[.float .f64 x] w fun e w' =>
    e = .returned (.tuple #[.int .i64 0, .bool true]) ∧ w = w' := by
  have h1 : decide (9223372036854775808 ≤ x) = false := by simp; omega
  have e1 : ((x / 4503599627370496 % 2048 : Nat) : Int) = (E : Int) := by omega
  have e2 : ((x % 4503599627370496 : Nat) : Int) = (M : Int) := by omega
  have hE2 : E < 1033 := by omega
  have hM2 : M < 4503599627370496 := by omega
  clear hE hM
  have h2 : ((E : Int) == 0) = false := by rw [beq_eq_false_iff_ne]; omega
  have h3 : ((E : Int) == 2047) = false := by rw [beq_eq_false_iff_ne]; omega
  go_enter Tryz.func140, Tryz.ntmps140
  go_wp2_with (first | (go_at_call 141; refine (parts_any _ (by omega) _).mono ?_; rintro e w' ⟨rfl, rfl⟩; rw [h1, e1, e2]; clear e1 e2))
  go_ret2
  exact ⟨rfl, rfl⟩
set_option maxRecDepth 100000 in
theorem refQ_mid (x E M : Nat) (hx : x < 4652218415073722368) (hE : E = x / 4503599627370496) (hM : M = x % 4503599627370496) (h0 : 0 < E) (hl : 63 ≤ 1075 - E) (hl2 : 1075 - E - 10 ≤ 60) (w : World) : Calls Tryz.prog 140 #[.float .f64 x] w fun e w' =>
    e = .returned (.tuple #[.int .i64 (wrap64 (((M : Int) + 4503599627370496) / 2 ^ (1075 - E - 10))), .bool true]) ∧ w = w' := by
  have h1 : decide (9223372036854775808 ≤ x) = false := by simp; omega
  have e1 : ((x / 4503599627370496 % 2048 : Nat) : Int) = (E : Int) := by omega
  have e2 : ((x % 4503599627370496 : Nat) : Int) = (M : Int) := by omega
  have hE2 : E < 1033 := by omega
  have hM2 : M < 4503599627370496 := by omega
  clear hE hM
  have h2 : ((E : Int) == 0) = false := by rw [beq_eq_false_iff_ne]; omega
  have h3 : ((E : Int) == 2047) = false := by rw [beq_eq_false_iff_ne]; omega
  go_enter Tryz.func140, Tryz.ntmps140
  go_wp2_with (first | (go_at_call 141; refine (parts_any _ (by omega) _).mono ?_; rintro e w' ⟨rfl, rfl⟩; rw [h1, e1, e2]; clear e1 e2))
  go_ret2
  exact ⟨rfl, rfl⟩
set_option maxRecDepth 100000 in
theorem refQ_gt (x E M : Nat) (hx : x < 4652218415073722368) (hE : E = x / 4503599627370496) (hM : M = x % 4503599627370496) (h0 : 0 < E) (hl : 1075 - E < 63) (hq : 1000 < ((M : Int) + 4503599627370496) / 2 ^ (1075 - E)) (w : World) : Calls Tryz.prog 140 #[.float .f64 x] w fun e w' =>
    e = .returned (.tuple #[.int .i64 0, .bool false]) ∧ w = w' := by
  have h1 : decide (9223372036854775808 ≤ x) = false := by simp; omega
  have e1 : ((x / 4503599627370496 % 2048 : Nat) : Int) = (E : Int) := by omega
  have e2 : ((x % 4503599627370496 : Nat) : Int) = (M : Int) := by omega
  have hE2 : E < 1033 := by omega
  have hM2 : M < 4503599627370496 := by omega
  clear hE hM
  have h2 : ((E : Int) == 0) = false := by rw [beq_eq_false_iff_ne]; omega
  have h3 : ((E : Int) == 2047) = false := by rw [beq_eq_false_iff_ne]; omega
  have hq1 : decide (1000 < ((M : Int) + 4503599627370496) / 2 ^ (1075 - E)) = true := by simpa using hq
  go_enter Tryz.func140, Tryz.ntmps140
  go_wp2_with (first | (go_at_call 141; refine (parts_any _ (by omega) _).mono ?_; rintro e w' ⟨rfl, rfl⟩; rw [h1, e1, e2]; clear e1 e2))
  go_ret2
  exact ⟨rfl, rfl⟩
set_option maxRecDepth 100000 in
theorem refQ_lt (x E M : Nat) (hx : x < 4652218415073722368) (hE : E = x / 4503599627370496) (hM : M = x % 4503599627370496) (h0 : 0 < E) (hl : 1075 - E < 63) (hq : ((M : Int) + 4503599627370496) / 2 ^ (1075 - E) < 1000) (w : World) : Calls Tryz.prog 140 #[.float .f64 x] w fun e w' =>
    e = .returned (.tuple #[.int .i64 (wrap64 (((M : Int) + 4503599627370496) / 2 ^ (1075 - E - 10))), .bool true]) ∧ w = w' := by
  have h1 : decide (9223372036854775808 ≤ x) = false := by simp; omega
  have e1 : ((x / 4503599627370496 % 2048 : Nat) : Int) = (E : Int) := by omega
  have e2 : ((x % 4503599627370496 : Nat) : Int) = (M : Int) := by omega
  have hE2 : E < 1033 := by omega
  have hM2 : M < 4503599627370496 := by omega
  clear hE hM
  have h2 : ((E : Int) == 0) = false := by rw [beq_eq_false_iff_ne]; omega
  have h3 : ((E : Int) == 2047) = false := by rw [beq_eq_false_iff_ne]; omega
  have hq1 : decide (1000 < ((M : Int) + 4503599627370496) / 2 ^ (1075 - E)) = false := by simp; omega
  have hq2 : (((M : Int) + 4503599627370496) / 2 ^ (1075 - E) == 1000) = false := by rw [beq_eq_false_iff_ne]; omega
  go_enter Tryz.func140, Tryz.ntmps140
  go_wp2_with (first | (go_at_call 141; refine (parts_any _ (by omega) _).mono ?_; rintro e w' ⟨rfl, rfl⟩; rw [h1, e1, e2]; clear e1 e2))
  go_ret2
  exact ⟨rfl, rfl⟩
set_option maxRecDepth 100000 in
theorem refQ_eqno (x E M : Nat) (hx : x < 4652218415073722368) (hE : E = x / 4503599627370496) (hM : M = x % 4503599627370496) (h0 : 0 < E) (hl : 1075 - E < 63) (hq : ((M : Int) + 4503599627370496) / 2 ^ (1075 - E) = 1000) (hm : (M + 4503599627370496) % 2 ^ (1075 - E) ≠ 0) (w : World) : Calls Tryz.prog 140 #[.float .f64 x] w fun e w' =>
    e = .returned (.tuple #[.int .i64 0, .bool false]) ∧ w = w' := by
  have h1 : decide (9223372036854775808 ≤ x) = false := by simp; omega
  have e1 : ((x / 4503599627370496 % 2048 : Nat) : Int) = (E : Int) := by omega
  have e2 : ((x % 4503599627370496 : Nat) : Int) = (M : Int) := by omega
  have hE2 : E < 1033 := by omega
  have hM2 : M < 4503599627370496 := by omega
  clear hE hM
  have h2 : ((E : Int) == 0) = false := by rw [beq_eq_false_iff_ne]; omega
  have h3 : ((E : Int) == 2047) = false := by rw [beq_eq_false_iff_ne]; omega
  have hq1 : decide (1000 < ((M : Int) + 4503599627370496) / 2 ^ (1075 - E)) = false := by simp; omega
  have hq2 : (((M : Int) + 4503599627370496) / 2 ^ (1075 - E) == 1000) = true := by rw [beq_iff_eq]; omega
  have hmk : bits .and .u64 ((M : Int) + 4503599627370496) (IntKind.u64.wrap (IntKind.u64.wrap (2 ^ (1075 - E)) - 1)) = (((M + 4503599627370496) % 2 ^ (1075 - E) : Nat) : Int) := mask_low M (1075 - E) hM2 hl
  have hm2 : ((((M + 4503599627370496) % 2 ^ (1075 - E) : Nat) : Int) != 0) = true := by rw [bne_iff_ne]; omega
  clear hq hm
  generalize (((M + 4503599627370496) % 2 ^ (1075 - E) : Nat) : Int) = mm at hmk hm2
  go_enter Tryz.func140, Tryz.ntmps140
  go_wp2_with (first | (go_at_call 141; refine (parts_any _ (by omega) _).mono ?_; rintro e w' ⟨rfl, rfl⟩; rw [h1, e1, e2]; clear e1 e2))
  go_ret2
  exact ⟨rfl, rfl⟩
set_option maxRecDepth 100000 in
theorem refQ_eqyes (x E M : Nat) (hx : x < 4652218415073722368) (hE : E = x / 4503599627370496) (hM : M = x % 4503599627370496) (h0 : 0 < E) (hl : 1075 - E < 63) (hq : ((M : Int) + 4503599627370496) / 2 ^ (1075 - E) = 1000) (hm : (M + 4503599627370496) % 2 ^ (1075 - E) = 0) (w : World) : Calls Tryz.prog 140 #[.float .f64 x] w fun e w' =>
    e = .returned (.tuple #[.int .i64 (wrap64 (((M : Int) + 4503599627370496) / 2 ^ (1075 - E - 10))), .bool true]) ∧ w = w' := by
  have h1 : decide (9223372036854775808 ≤ x) = false := by simp; omega
  have e1 : ((x / 4503599627370496 % 2048 : Nat) : Int) = (E : Int) := by omega
  have e2 : ((x % 4503599627370496 : Nat) : Int) = (M : Int) := by omega
  have hE2 : E < 1033 := by omega
  have hM2 : M < 4503599627370496 := by omega
  clear hE hM
  have h2 : ((E : Int) == 0) = false := by rw [beq_eq_false_iff_ne]; omega
  have h3 : ((E : Int) == 2047) = false := by rw [beq_eq_false_iff_ne]; omega
  have hq1 : decide (1000 < ((M : Int) + 4503599627370496) / 2 ^ (1075 - E)) = false := by simp; omega
  have hq2 : (((M : Int) + 4503599627370496) / 2 ^ (1075 - E) == 1000) = true := by rw [beq_iff_eq]; omega
  have hmk : bits .and .u64 ((M : Int) + 4503599627370496) (IntKind.u64.wrap (IntKind.u64.wrap (2 ^ (1075 - E)) - 1)) = (((M + 4503599627370496) % 2 ^ (1075 - E) : Nat) : Int) := mask_low M (1075 - E) hM2 hl
  have hm2 : ((((M + 4503599627370496) % 2 ^ (1075 - E) : Nat) : Int) != 0) = false := by rw [hm]; rfl
  clear hq hm
  generalize (((M + 4503599627370496) % 2 ^ (1075 - E) : Nat) : Int) = mm at hmk hm2
  go_enter Tryz.func140, Tryz.ntmps140
  go_wp2_with (first | (go_at_call 141; refine (parts_any _ (by omega) _).mono ?_; rintro e w' ⟨rfl, rfl⟩; rw [h1, e1, e2]; clear e1 e2))
  go_ret2
  exact ⟨rfl, rfl⟩
set_option maxRecDepth 100000 in
theorem refQ_sub (x : Nat) (h0 : 0 < x) (hx : x < 4503599627370496) (w : World) : Calls Tryz.prog 140 #[.float .f64 x] w fun e w' =>
    e = .returned (.tuple #[.int .i64 0, .bool true]) ∧ w = w' := by
  have h1 : decide (9223372036854775808 ≤ x) = false := by simp; omega
  have e1 : ((x / 4503599627370496 % 2048 : Nat) : Int) = 0 := by omega
  have e2 : ((x % 4503599627370496 : Nat) : Int) = (x : Int) := by omega
  have h2 : ((x : Int) == 0) = false := by rw [beq_eq_false_iff_ne]; omega
  go_enter Tryz.func140, Tryz.ntmps140
  go_wp2_with (first | (go_at_call 141; refine (parts_any _ (by omega) _).mono ?_; rintro e w' ⟨rfl, rfl⟩; rw [h1, e1, e2]; clear e1 e2))
  go_ret2
  exact ⟨rfl, rfl⟩
end Go.Proofs.YtmpemeemlhmaaaaGreat

namespace Go.Proofs.YtmpemeemlhmaaaaGreat
open Go.RowKit

theorem quanta_shift {x E M : Nat} (hE : E = x / 4503599627370496) (hM : M = x % 4503599627370496) (h0 : 0 < E) (h1 : E < 1033) : Fl.quanta x = (M + 4503599627370496) / 2 ^ (1075 - E - 10) := by
  unfold Fl.quanta Fl.V
  have e1 : Fl.mag x = M + 4503599627370496 := by unfold Fl.mag; rw [if_neg (by omega)]; omega
  have e2 : Fl.pl x = E - 1 := by unfold Fl.pl; omega
  rw [e1, e2]
  obtain ⟨u, hu, hU⟩ := Fl.U_is
  have e3 : Fl.U = 2 ^ (1075 - E - 10) * (2 ^ (E - 1) * 1024) := by
    rw [hU, show (1024 : Nat) = 2 ^ 10 from rfl, ← Nat.pow_add, ← Nat.pow_add, show 1075 - E - 10 + (E - 1 + 10) = u by omega]
  rw [e3, Nat.mul_assoc, Nat.mul_div_mul_right _ _ (Nat.mul_pos (Nat.two_pow_pos _) (by omega))]
theorem ok_shift {x E M : Nat} (hE : E = x / 4503599627370496) (hM : M = x % 4503599627370496) (h0 : 0 < E) (h1 : E < 1033) : x ≤ 4652007308841189376 ↔ M + 4503599627370496 ≤ 1000 * 2 ^ (1075 - E) := by
  rw [← Fl.V_le_iff, Fl.V_1000]
  unfold Fl.V
  have e1 : Fl.mag x = M + 4503599627370496 := by unfold Fl.mag; rw [if_neg (by omega)]; omega
  have e2 : Fl.pl x = E - 1 := by unfold Fl.pl; omega
  rw [e1, e2]
  obtain ⟨u, hu, hU⟩ := Fl.U_is
  have e3 : 1000 * Fl.U = 1000 * 2 ^ (1075 - E) * 2 ^ (E - 1) := by
    rw [hU, Nat.mul_assoc, ← Nat.pow_add, show 1075 - E + (E - 1) = u by omega]
  rw [e3]
  exact Nat.mul_le_mul_right_iff (Nat.two_pow_pos _)

theorem wOk_pos {x : Nat} (h : x < 9223372036854775808) : wOk x = decide (x ≤ 4652007308841189376) := by
  unfold wOk
  have : (x == 9223372036854775808) = false := by rw [beq_eq_false_iff_ne]; omega
  rw [this, Bool.or_false]
theorem wQ_pos {x : Nat} (h : x ≤ 4652007308841189376) : wQ x = Fl.quanta x := by
  unfold wQ
  rw [wOk_pos (by omega), if_pos (by simpa using h), Nat.mod_eq_of_lt (by omega)]
theorem wQ_no {x : Nat} (h : wOk x = false) : wQ x = 0 := by unfold wQ; rw [h]; rfl
theorem int_div (M d : Nat) : ((M : Int) + 4503599627370496) / 2 ^ d = (((M + 4503599627370496) / 2 ^ d : Nat) : Int) := by simp

theorem refQ_any (x : Nat) (hx : x < 18446744073709551616) (w : World) : Calls Tryz.prog 140 #[.float .f64 x] w fun e w' =>
    e = .returned (.tuple #[.int .i64 (wQ x), .bool (wOk x)]) ∧ w = w' := by
  by_cases c1 : x % 9223372036854775808 = 0
  · have h1 : wOk x = true := by unfold wOk; simp; omega
    have h2 : wQ x = 0 := by unfold wQ; rw [if_pos h1, c1]; decide +kernel
    refine (refQ_zero x hx c1 w).mono ?_
    rintro e w' ⟨rfl, rfl⟩
    rw [h1, h2]
    exact ⟨rfl, rfl⟩
  by_cases c2 : 9223372036854775808 < x
  · have h1 : wOk x = false := by unfold wOk; simp; omega
    refine (refQ_minus x hx c2 w).mono ?_
    rintro e w' ⟨rfl, rfl⟩
    rw [h1, wQ_no h1]
    exact ⟨rfl, rfl⟩
  have hx3 : x < 9223372036854775808 := by omega
  by_cases c3 : 4652218415073722368 ≤ x
  · have h1 : wOk x = false := by rw [wOk_pos hx3]; simp; omega
    refine (refQ_great x hx3 c3 w).mono ?_
    rintro e w' ⟨rfl, rfl⟩
    rw [h1, wQ_no h1]
    exact ⟨rfl, rfl⟩
  have hx4 : x < 4652218415073722368 := by omega
  obtain ⟨E, hE⟩ : ∃ E, E = x / 4503599627370496 := ⟨_, rfl⟩
  obtain ⟨M, hM⟩ : ∃ M, M = x % 4503599627370496 := ⟨_, rfl⟩
  by_cases c4 : E = 0
  · -- the least numbers
    have h1 : wOk x = true := by rw [wOk_pos hx3]; simp; omega
    have h2 : wQ x = 0 := by
      rw [wQ_pos (by omega)]
      have a : Fl.quanta x ≤ Fl.quanta 4503599627370496 := Fl.quanta_mono (by omega)
      have b : Fl.quanta 4503599627370496 = 0 := by decide +kernel
      omega
    refine (refQ_sub x (by omega) (by omega) w).mono ?_
    rintro e w' ⟨rfl, rfl⟩
    rw [h1, h2]
    exact ⟨rfl, rfl⟩
  have h0 : 0 < E := by omega
  have hE2 : E < 1033 := by omega
  have hM2 : M < 4503599627370496 := by omega
  have hok := ok_shift hE hM h0 hE2
  have hqs := quanta_shift hE hM h0 hE2
  have hqle : (M + 4503599627370496) / 2 ^ (1075 - E - 10) ≤ 9007199254740992 := Nat.le_trans (Nat.div_le_self _ _) (by omega)
  have hwr : wrap64 (((M : Int) + 4503599627370496) / 2 ^ (1075 - E - 10)) = (((M + 4503599627370496) / 2 ^ (1075 - E - 10) : Nat) : Int) := by
    rw [int_div]; exact IntWalk.wrap64_in _ (by omega)
  by_cases c5 : 63 ≤ 1075 - E
  · have hbig : M + 4503599627370496 ≤ 1000 * 2 ^ (1075 - E) := by
      have : 2 ^ 63 ≤ 2 ^ (1075 - E) := Nat.pow_le_pow_right (by omega) c5
      omega
    have h1 : wOk x = true := by rw [wOk_pos hx3]; simpa using hok.2 hbig
    have h2 := wQ_pos (hok.2 hbig)
    rw [hqs] at h2
    by_cases c6 : 60 < 1075 - E - 10
    · have h3 : (M + 4503599627370496) / 2 ^ (1075 - E - 10) = 0 := by
        have : 2 ^ 61 ≤ 2 ^ (1075 - E - 10) := Nat.pow_le_pow_right (by omega) c6
        exact Nat.div_eq_of_lt (by omega)
      refine (refQ_small x E M hx4 hE hM h0 c6 w).mono ?_
      rintro e w' ⟨rfl, rfl⟩
      rw [h1, h2, h3]
      exact ⟨rfl, rfl⟩
    · refine (refQ_mid x E M hx4 hE hM h0 c5 (by omega) w).mono ?_
      rintro e w' ⟨rfl, rfl⟩
      rw [h1, h2, hwr]
      exact ⟨rfl, rfl⟩
  · have hp : 0 < 2 ^ (1075 - E) := Nat.two_pow_pos _
    by_cases c7 : 1000 < (M + 4503599627370496) / 2 ^ (1075 - E)
    · have h1 : wOk x = false := by
        rw [wOk_pos hx3]
        have : ¬ M + 4503599627370496 ≤ 1000 * 2 ^ (1075 - E) := fun hc => by
          have := Nat.div_le_of_le_mul (show M + 4503599627370496 ≤ 2 ^ (1075 - E) * 1000 by omega)
          omega
        simpa using fun hc => this (hok.1 hc)
      refine (refQ_gt x E M hx4 hE hM h0 (by omega) (by rw [int_div]; omega) w).mono ?_
      rintro e w' ⟨rfl, rfl⟩
      rw [h1, wQ_no h1]
      exact ⟨rfl, rfl⟩
    have hdm := Nat.div_add_mod (M + 4503599627370496) (2 ^ (1075 - E))
    have hml := Nat.mod_lt (M + 4503599627370496) hp
    by_cases c8 : (M + 4503599627370496) / 2 ^ (1075 - E) = 1000
    · rw [c8] at hdm
      by_cases c9 : (M + 4503599627370496) % 2 ^ (1075 - E) = 0
      · have hb : M + 4503599627370496 ≤ 1000 * 2 ^ (1075 - E) := by omega
        have h1 : wOk x = true := by rw [wOk_pos hx3]; simpa using hok.2 hb
        have h2 := wQ_pos (hok.2 hb)
        rw [hqs] at h2
        refine (refQ_eqyes x E M hx4 hE hM h0 (by omega) (by rw [int_div]; omega) c9 w).mono ?_
        rintro e w' ⟨rfl, rfl⟩
        rw [h1, h2, hwr]
        exact ⟨rfl, rfl⟩
      · have h1 : wOk x = false := by
          rw [wOk_pos hx3]
          have : ¬ M + 4503599627370496 ≤ 1000 * 2 ^ (1075 - E) := by omega
          simpa using fun hc => this (hok.1 hc)
        refine (refQ_eqno x E M hx4 hE hM h0 (by omega) (by rw [int_div]; omega) c9 w).mono ?_
        rintro e w' ⟨rfl, rfl⟩
        rw [h1, wQ_no h1]
        exact ⟨rfl, rfl⟩
    · have hb : M + 4503599627370496 ≤ 1000 * 2 ^ (1075 - E) := by
        have : (M + 4503599627370496) / 2 ^ (1075 - E) ≤ 999 := by omega
        have h5 := Nat.mul_le_mul_left (2 ^ (1075 - E)) this
        omega
      have h1 : wOk x = true := by rw [wOk_pos hx3]; simpa using hok.2 hb
      have h2 := wQ_pos (hok.2 hb)
      rw [hqs] at h2
      refine (refQ_lt x E M hx4 hE hM h0 (by omega) (by rw [int_div]; omega) w).mono ?_
      rintro e w' ⟨rfl, rfl⟩
      rw [h1, h2, hwr]
      exact ⟨rfl, rfl⟩
end Go.Proofs.YtmpemeemlhmaaaaGreat

namespace Go.Proofs.YtmpemeemlhmaaaaGreat
open Go.RowKit

theorem lowPut_succ (n i : Nat) : lowPut n (i + 1) = lowPut n i ++ [lowB n i] := by
  unfold lowPut; rw [List.range_succ, List.map_append]; rfl

set_option maxRecDepth 100000 in
theorem ref_put_big (n k : Nat) (hk : k ≤ 8) (hn : n < 18446744073709551616) (w : World) :
    Calls Tryz.prog 107 #[.int .u64 n, .int .i64 k, .bool true] w fun e w' => ∃ v, e = .returned v ∧
      w'.ownsRow w.heap.size 5 1 v k ((numPut n k true).map bv) ∧ Below w.heap.size w w' := by
  obtain ⟨i0, hi0, hz0, hz1, hz2⟩ := info_parts infoU8
  go_enter Tryz.func107, Tryz.ntmps107
  go_wp2
  go_loopw [0, 7, 8] (fun s0 s7 s8 wr => ∃ (i : Nat) (A : Option Addr) (cap : Nat), i ≤ k ∧ s0 = .int .u64 (n / 2 ^ (8 * i) : Nat) ∧ s7 = .slice A i cap ∧ s8 = .int .i64 i ∧ wr.ownsRow w.heap.size 5 1 (.slice A i cap) i ((lowPut n i).reverse.map bv) ∧ Below w.heap.size w wr) (fun _ _ s8 _ => k - (intOf s8).toNat)
  case atStart => exact ⟨0, none, 0, by omega, by simp, rfl, rfl, World.ownsRow_nil _ _ _ _, Below.refl _ _⟩
  case round =>
    obtain ⟨i, A, cap, hi, rfl, rfl, rfl, hown, hb⟩ := hrel
    by_cases hlt : i < k
    · have hlt2 : (i : Int) < k := by omega
      have hlt3 : (i : Int) < 8 := by omega
      have hlo := lowPut_succ n i
      have hbyte := lowB_int n i
      have hq : n / 2 ^ (8 * i) < 18446744073709551616 := Nat.lt_of_le_of_lt (Nat.div_le_self _ _) hn
      have hn2 : n / 2 ^ (8 * (i + 1)) = n / 2 ^ (8 * i) / 256 := by
        rw [Nat.div_div_eq_div_mul, show 8 * (i + 1) = 8 * i + 8 by omega, Nat.pow_add]
      have hbyte2 : ((lowB n i).toNat : Int) = ((n / 2 ^ (8 * i) : Nat) : Int) % 256 := by rw [hbyte]; simp
      have HN := Lib.hid hn2
      have HLO := Lib.hid hlo
      have HBY := Lib.hid hbyte2
      clear hn2 hlo hbyte hbyte2
      generalize n / 2 ^ (8 * i) = q at hq HN HBY ⊢
      have hrd := Rd.of_own hown
      have HO := Lib.hid hown
      clear hown
      have o1 : (wr.alloc (.cells #[.int .u8 ((q : Int) % 256)] 5)).ownsRow w.heap.size 5 1 (.slice (some ⟨wr.heap.size, 0, none⟩) 1 1) 1 [.int .u8 ((q : Int) % 256)] :=
        World.ownsRow_lit wr #[.int .u8 ((q : Int) % 256)] 1 hb.size (by unfold maxLen; omega) rfl
      have o2 := hrd.alloc (Nat.le_refl _) (.cells #[.int .u8 ((q : Int) % 256)] 5)
      have o3 : w.heap.size ≤ (wr.alloc (.cells #[.int .u8 ((q : Int) % 256)] 5)).heap.size := by have := hb.size; simp; omega
      have O1 := Lib.hid o1
      have O2 := Lib.hid o2
      have O3 := Lib.hid o3
      have HB := Lib.hid hb
      clear o1 o2 o3 hrd hb
      go_wp2_with (at_builtin; refine wpList_app_rd _ rfl (.tmp 26) (.tmp 27) _ rfl w.heap.size 5 i0 (.int .u8 0) 1 1 Tryz.underlying32 hi0 hz0 hz1 hz2 rfl (Nat.le_refl 1) (.slice (some ⟨wr.heap.size, 0, none⟩) 1 1) 1 [.int .u8 ((q : Int) % 256)] rfl O1.out wr.heap.size A i cap ((lowPut n i).reverse.map bv) rfl O2.out (bvs_one _) (by unfold maxLen; omega) (by omega) O3.out ?_; intro v1 w1 hown1 hg1 hat1)
      go_roundw
      case rel =>
        obtain ⟨A', cap', hv, _, _⟩ := own_form hown1
        refine ⟨i + 1, A', cap', by omega, by rw [HN.out]; go_num, by rw [hv, Nat.add_comm], by go_num, ?_, ?_⟩
        · rw [Nat.add_comm i 1, ← hv, Nat.add_comm 1 i, HLO.out]
          rw [Nat.add_comm 1 i] at hown1
          simpa [bv, HBY.out] using hown1
        · exact gb_below (HB.out.alloc HB.out.size _) hg1 HB.out.size O3.out
      case measure => simp [intOf] <;> omega
    · obtain rfl : i = k := by omega
      have hd : decide ((i : Int) < (i : Int)) = false := by simp
      go_wp2
      go_ret
      exact ⟨_, rfl, hown, hb⟩

set_option maxRecDepth 100000 in
theorem ref_get_big (A : Option Addr) (n c B : Nat) (l : List UInt8) (w : World) (hn : n ≤ 9223372036854775807) (hr : RdB w B A n l) :
    Calls Tryz.prog 169 #[.slice A n c, .bool true] w fun e w' => e = .returned (.int .u64 (bigNum (l.take 8))) ∧ w = w' := by
  have hlen := hr.len
  obtain ⟨m, hm, hmn⟩ : ∃ m : Nat, m = min n 8 ∧ m ≤ n := ⟨_, rfl, Nat.min_le_left _ _⟩
  have hm8 : m ≤ 8 := by omega
  have e8 : l.take 8 = l.take m := by
    rw [hm]
    by_cases h8 : n ≤ 8
    · rw [Nat.min_eq_left h8, List.take_of_length_le (by omega), List.take_of_length_le (by omega)]
    · rw [Nat.min_eq_right (by omega)]
  rw [e8]
  have hnl : n ≤ l.length := by omega
  clear e8 hlen
  by_cases h8 : 8 < n
  · obtain rfl : m = 8 := by omega
    clear hm hmn hm8
    go_enter Tryz.func169, Tryz.ntmps169
    go_wp2
    go_loop [6, 7] (fun s6 s7 => ∃ i : Nat, i ≤ 8 ∧ s6 = .int .u64 (bigNum (l.take i)) ∧ s7 = .int .i64 i) (fun _ s7 => 8 - (intOf s7).toNat)
    case atStart => exact ⟨0, by omega, rfl, rfl⟩
    case round =>
      obtain ⟨i, hi, rfl, rfl⟩ := hrel
      by_cases hlt : i < 8
      · obtain ⟨a, rfl, hab, hcell⟩ := hr.at_ (k := i) (by omega)
        have hbn := bigNum_lt (l.take i)
        have hsn := bigNum_snoc (l.take i) (l.getD i 0)
        rw [← take_succ_getD l i (by omega)] at hsn
        have hb8 : bigNum (l.take i) * 256 + 256 ≤ 18446744073709551616 := by
          have h1 : (l.take i).length ≤ 7 := by rw [List.length_take]; omega
          have h2 : 256 ^ (l.take i).length ≤ 256 ^ 7 := Nat.pow_le_pow_right (by omega) h1
          omega
        have HSN := Lib.hid hsn
        have hlt8 := (l.getD i 0).toNat_lt
        have HRD := Lib.hid hr
        unfold bv at hcell
        generalize (l.getD i 0).toNat = ch at hcell hlt8 HSN
        generalize bigNum (l.take i) = nn at hb8 HSN ⊢
        have hin : (i : Int) < n := by omega
        clear hsn hbn hr
        go_wp2
        go_round
        case rel => exact ⟨i + 1, by omega, by rw [HSN.out]; go_num, by go_num⟩
        case measure => simp [intOf] <;> omega
      · obtain rfl : i = 8 := by omega
        clear hr
        go_wp2
        go_ret
        exact ⟨rfl, rfl⟩
  · obtain rfl : n = m := by omega
    clear hm hmn
    go_enter Tryz.func169, Tryz.ntmps169
    go_wp2
    go_loop [6, 7] (fun s6 s7 => ∃ i : Nat, i ≤ n ∧ s6 = .int .u64 (bigNum (l.take i)) ∧ s7 = .int .i64 i) (fun _ s7 => n - (intOf s7).toNat)
    case atStart => exact ⟨0, by omega, rfl, rfl⟩
    case round =>
      obtain ⟨i, hi, rfl, rfl⟩ := hrel
      by_cases hlt : i < n
      · obtain ⟨a, rfl, hab, hcell⟩ := hr.at_ (k := i) (by omega)
        have hbn := bigNum_lt (l.take i)
        have hsn := bigNum_snoc (l.take i) (l.getD i 0)
        rw [← take_succ_getD l i (by omega)] at hsn
        have hb8 : bigNum (l.take i) * 256 + 256 ≤ 18446744073709551616 := by
          have h1 : (l.take i).length ≤ 7 := by rw [List.length_take]; omega
          have h2 : 256 ^ (l.take i).length ≤ 256 ^ 7 := Nat.pow_le_pow_right (by omega) h1
          omega
        have HSN := Lib.hid hsn
        have hlt8 := (l.getD i 0).toNat_lt
        have HRD := Lib.hid hr
        unfold bv at hcell
        generalize (l.getD i 0).toNat = ch at hcell hlt8 HSN
        generalize bigNum (l.take i) = nn at hb8 HSN ⊢
        have hin : (i : Int) < n := by omega
        clear hsn hbn hr
        go_wp2
        go_round
        case rel => exact ⟨i + 1, by omega, by rw [HSN.out]; go_num, by go_num⟩
        case measure => simp [intOf] <;> omega
      · obtain rfl : i = n := by omega
        clear hr
        go_wp2
        go_ret
        exact ⟨rfl, rfl⟩
end Go.Proofs.YtmpemeemlhmaaaaGreat

namespace Go.Proofs.YtmpemeemlhmaaaaGreat
open Go.RowKit

theorem isNan_eq {x : Nat} (hx : x < 18446744073709551616) : isNan x = ((((x / 4503599627370496 % 2048 : Nat) : Int) == 2047) && (((x % 4503599627370496 : Nat) : Int) != 0)) := by
  have hord : ord x x = Ieee.double.order x x := rfl
  unfold isNan
  rw [hord, Bool.eq_iff_iff]
  by_cases hf : Fl.fin x
  · rw [Fl.ord_fin hf hf]
    have : compare (Fl.SV x) (Fl.SV x) = .eq := Int.compare_eq_eq.2 rfl
    rw [this]
    unfold Fl.fin at hf
    simp
    omega
  · rcases Fl.not_fin hx hf with rfl | rfl | ⟨s, f, h⟩
    · decide +kernel
    · decide +kernel
    · rw [Fl.ord_nan_l h]
      have h1 : x ≠ 9218868437227405312 := by rintro rfl; rw [Fl.read_inf] at h; cases h
      have h2 : x ≠ 18442240474082181120 := by rintro rfl; rw [Fl.read_ninf] at h; cases h
      unfold Fl.fin at hf
      simp
      omega
theorem refNan_any (x : Nat) (hx : x < 18446744073709551616) (w : World) : Calls Tryz.prog 106 #[.float .f64 x] w fun e w' => e = .returned (.bool (isNan x)) ∧ w = w' := by
  have hn := isNan_eq hx
  obtain ⟨E, hE⟩ : ∃ E : Int, E = ((x / 4503599627370496 % 2048 : Nat) : Int) := ⟨_, rfl⟩
  obtain ⟨M, hM⟩ : ∃ M : Int, M = ((x % 4503599627370496 : Nat) : Int) := ⟨_, rfl⟩
  rw [← hE, ← hM] at hn
  have HN := Lib.hid hn
  have HE := Lib.hid hE
  have HM := Lib.hid hM
  clear hn hE hM
  cases hc : (E == 2047)
  all_goals
    go_enter Tryz.func106, Tryz.ntmps106
    go_wp2_with (first | (go_at_call 141; refine (parts_any _ hx _).mono ?_; rintro e w' ⟨rfl, rfl⟩; rw [← HE.out, ← HM.out]))
    go_ret
    refine ⟨?_, rfl⟩
    rw [HN.out, hc]
    simp

theorem wBits_lt {x : Nat} (hx : x < 18446744073709551616) : wBits x < 18446744073709551616 := by unfold wBits; split <;> omega
/-- the bytes of a number -/
def wPut (x : Nat) : List UInt8 := numPut (wBits x) 8 true
theorem wPut_len (x : Nat) : (wPut x).length = 8 := by simp [wPut, numPut, lowPut]

theorem rowIs_lt {w : World} {b : Nat} {t : TypeId} {n : Nat} {f : Nat → Value} (h : w.rowIs b t n f) : b < w.heap.size := h.lt

theorem put_any (x : Nat) (hx : x < 18446744073709551616) (w : World) : Calls Tryz.prog 154 #[.float .f64 x] w fun e w' =>
    ∃ A, e = .returned (.slice A 8 8) ∧ RdB w' w'.heap.size A 8 (wPut x) ∧ Below w.heap.size w w' := by
  have hb := wBits_lt hx
  go_enter Tryz.func154, Tryz.ntmps154
  go_wp2_with (first | (go_at_call 118; refine (bits_any _ _).mono ?_; rintro e w' ⟨rfl, rfl⟩) | (go_at_call 84; refine (put_low _ 8 (by omega) hb true _).mono ?_; rintro e w' ⟨rfl, hr, hbl⟩))
  go_ret
  refine ⟨_, rfl, ?_, hbl⟩
  have := RdB.of_rowIs (c := 0) (l := wPut x) hr (by rw [wPut_len]; omega) hr.lt (fun j hj => rfl)
  rwa [wPut_len] at this
theorem refPut_any (x : Nat) (hx : x < 18446744073709551616) (w : World) : Calls Tryz.prog 65 #[.float .f64 x] w fun e w' =>
    ∃ A c, e = .returned (.slice A 8 c) ∧ RdB w' w'.heap.size A 8 (wPut x) ∧ Below w.heap.size w w' := by
  have h1 := call_float64bits x
  cases hn : isNan x
  · have e1 : wBits x = x := by unfold wBits; rw [hn]; rfl
    have HE := Lib.hid e1
    clear e1
    go_enter Tryz.func65, Tryz.ntmps65
    go_wp2_with (first | (go_at_call 106; refine (refNan_any _ hx _).mono ?_; rintro e w' ⟨rfl, rfl⟩) | (go_at_call 107; refine (ref_put_big _ 8 (by omega) hx _).mono ?_; rintro e w' ⟨v, rfl, hown, hbl⟩))
    obtain ⟨A, cap, hv, _, _⟩ := own_form hown
    go_ret
    refine ⟨A, cap, by simp [hv], ?_, hbl⟩
    rw [hv] at hown
    have := Rd.of_own hown
    unfold RdB wPut
    rw [HE.out]
    exact this
  · have e1 : wPut x = [127, 248, 0, 0, 0, 0, 0, 0] := by unfold wPut wBits; rw [hn, if_pos rfl]; decide +kernel
    have HE := Lib.hid e1
    clear e1
    go_enter Tryz.func65, Tryz.ntmps65
    go_wp2_with (first | (go_at_call 106; refine (refNan_any _ hx _).mono ?_; rintro e w' ⟨rfl, rfl⟩))
    go_ret
    refine ⟨_, _, rfl, ?_, (Below.refl _ _).alloc (Nat.le_refl _) _⟩
    rw [HE.out]
    refine RdB.of_rowIs (c := 0) (l := [127, 248, 0, 0, 0, 0, 0, 0]) (World.rowIs_alloc w _ _ (fun j => bv (([127, 248, 0, 0, 0, 0, 0, 0] : List UInt8).getD j 0)) (fun i hi => ?_)) (by simp) (by simp) (fun j hj => rfl)
    simp at hi
    have : i = 0 ∨ i = 1 ∨ i = 2 ∨ i = 3 ∨ i = 4 ∨ i = 5 ∨ i = 6 ∨ i = 7 := by omega
    rcases this with rfl | rfl | rfl | rfl | rfl | rfl | rfl | rfl <;> rfl

/-- the number of bytes, if they are one's -/
def wGetOk (l : List UInt8) : Bool := decide (l.length = 8) && wBits (bigNum (l.take 8)) == bigNum (l.take 8)
def wGet (l : List UInt8) : Nat := if wGetOk l then bigNum (l.take 8) else 0

/-- bytes' text, in their own world and in whatever world has grown out of it -/
theorem text_later {w : World} {A : Option Addr} {n : Nat} {l : List UInt8} (h : RdB w w.heap.size A n l) (c : Nat) :
    (∀ W, Below w.heap.size w W → (convert 32 9 (.slice A n c)).run Tryz.prog W = .ok (.string (textOf l)) W) ∧
      (convert 32 9 (.slice A n c)).run Tryz.prog w = .ok (.string (textOf l)) w :=
  ⟨fun W hW => run_bytes_text (P := Tryz.prog) (h.below hW) _ _ _ Tryz.underlying32 Tryz.underlying5 Tryz.underlying9 c,
    run_bytes_text (P := Tryz.prog) h _ _ _ Tryz.underlying32 Tryz.underlying5 Tryz.underlying9 c⟩
theorem text_toList (l : List UInt8) : (textOf l).toList = l := ByteArray.toList_mk l
theorem lowB_ext {n m : Nat} (k : Nat) (h : ∀ i, i < k → lowB n i = lowB m i) : n % 2 ^ (8 * k) = m % 2 ^ (8 * k) := by
  induction k with
  | zero => simp [Nat.mod_one]
  | succ k ih =>
    have h1 := ih (fun i hi => h i (by omega))
    have h2 := congrArg UInt8.toNat (h k (by omega))
    simp only [lowB, UInt8.toNat_ofNat'] at h2
    have e : 2 ^ (8 * (k + 1)) = 2 ^ (8 * k) * 256 := by rw [show 8 * (k + 1) = 8 * k + 8 by omega, Nat.pow_add]
    rw [e, Nat.mod_mul, Nat.mod_mul, h1, h2]
theorem numPut_inj {n m : Nat} (hn : n < 18446744073709551616) (hm : m < 18446744073709551616) (h : numPut n 8 true = numPut m 8 true) : n = m := by
  have h1 : lowPut n 8 = lowPut m 8 := by
    have := congrArg List.reverse h
    simpa [numPut] using this
  have h2 : ∀ i, i < 8 → lowB n i = lowB m i := fun i hi => by
    have := congrArg (fun l : List UInt8 => l[i]?) h1
    simpa [lowPut, hi] using this
  have h3 := lowB_ext 8 h2
  rw [Nat.mod_eq_of_lt (by omega), Nat.mod_eq_of_lt (by omega)] at h3
  exact h3
theorem lowPut_snoc_big (l : List UInt8) : lowPut (bigNum l) l.length = l.reverse := by
  have key : ∀ (k : Nat) (l : List UInt8), l.length = k → lowPut (bigNum l) k = l.reverse := by
    intro k
    induction k with
    | zero => intro l hl; rw [List.eq_nil_of_length_eq_zero hl]; rfl
    | succ k ih =>
      intro l hl
      obtain ⟨r, c, rfl⟩ : ∃ r c, l = r ++ [c] := ⟨l.dropLast, l.getLast (by intro h; simp [h] at hl), (List.dropLast_concat_getLast _).symm⟩
      have hr : r.length = k := by simpa using hl
      have := ih r hr
      rw [bigNum_snoc]
      unfold lowPut at this ⊢
      rw [List.range_succ_eq_map, List.map_cons, List.map_map, List.reverse_append]
      simp only [List.reverse_cons, List.reverse_nil, List.nil_append, List.singleton_append, List.cons.injEq]
      constructor
      · unfold lowB
        apply UInt8.toNat_inj.1
        have := c.toNat_lt
        simp [UInt8.toNat_ofNat']
      · rw [← this]
        refine List.map_congr_left (fun i hi => ?_)
        simp only [Function.comp, lowB]
        have e : (bigNum r * 256 + c.toNat) / 2 ^ (8 * (i + 1)) = bigNum r / 2 ^ (8 * i) := by
          rw [show 8 * (i + 1) = 8 + 8 * i by omega, Nat.pow_add, ← Nat.div_div_eq_div_mul]
          congr 1
          have := c.toNat_lt
          omega
        rw [show Nat.succ i = i + 1 from rfl, e]
  exact key _ l rfl
theorem numPut_bigNum (l : List UInt8) (h : l.length = 8) : numPut (bigNum l) 8 true = l := by
  have := lowPut_snoc_big l
  rw [h] at this
  simp [numPut, this]

theorem get_any (A : Option Addr) (n c : Nat) (l : List UInt8) (w : World) (hnc : n ≤ c) (hc : c ≤ 9223372036854775807) (hr : RdB w w.heap.size A n l) :
    Calls Tryz.prog 158 #[.slice A n c] w fun e w' => e = .returned (.tuple #[.float .f64 (wGet l), .bool (wGetOk l)]) ∧ Below w.heap.size w w' := by
  have h1 := call_float64frombits
  have hlen := hr.len
  obtain ⟨N, hN⟩ : ∃ N, N = bigNum (l.take 8) := ⟨_, rfl⟩
  have hq : wGetOk l = (decide (n = 8) && (wBits N == N)) := by unfold wGetOk; rw [hlen, hN]
  have hq2 : wGet l = if wGetOk l then N else 0 := by unfold wGet; rw [hN]
  have HQ := Lib.hid hq
  have HQ2 := Lib.hid hq2
  have HN := Lib.hid hN
  have HR := Lib.hid hr
  clear hq hq2 hr hlen hN
  by_cases h8 : n = 8
  · subst h8
    cases hb : (wBits N == N)
    all_goals
      have hb' : (((wBits N : Nat) : Int) == (N : Int)) = (wBits N == N) := nat_beq _ _
      rw [hb] at hb'
      have hb2 : (((wBits N : Nat) : Int) != (N : Int)) = !(((wBits N : Nat) : Int) == (N : Int)) := rfl
      rw [hb'] at hb2
      simp only [Bool.not_true, Bool.not_false] at hb2
      rw [HQ2.out, HQ.out, hb]
      clear hb'
      go_enter Tryz.func158, Tryz.ntmps158
      go_wp2_with (first | (go_at_call 135; refine (get_big _ _ _ _ _ hnc hc HR.out).mono ?_; rintro e w' ⟨rfl, hbl⟩; rw [← HN.out]) | (go_at_call 118; refine (bits_any _ _).mono ?_; rintro e w' ⟨rfl, rfl⟩))
      go_ret2
      exact ⟨by simp, hbl⟩
  · have h8' : ((n : Int) != 8) = true := by rw [bne_iff_ne]; omega
    rw [HQ2.out, HQ.out, show decide (n = 8) = false by simpa using h8]
    clear h8
    go_enter Tryz.func158, Tryz.ntmps158
    go_wp2_with (first | (go_at_call 135; refine (get_big _ _ _ _ _ hnc hc HR.out).mono ?_; rintro e w' ⟨rfl, hbl⟩; rw [← HN.out]) | (go_at_call 118; refine (bits_any _ _).mono ?_; rintro e w' ⟨rfl, rfl⟩))
    go_ret2
    exact ⟨by simp, hbl⟩

theorem refSame_any (x y : Nat) (hx : x < 18446744073709551616) (hy : y < 18446744073709551616) (w : World) : Calls Tryz.prog 111 #[.float .f64 x, .float .f64 y] w fun e w' =>
    e = .returned (.bool (decide (wPut x = wPut y))) ∧ Below w.heap.size w w' := by
  have ht := text_toList
  go_enter Tryz.func111, Tryz.ntmps111
  go_wp2_with fail
  go_region_with (first | (go_at_call 65; refine (refPut_any _ (by assumption) _).mono ?_; rintro e w' ⟨A, c, rfl, hr, hb⟩; obtain ⟨k1, k2⟩ := text_later hr c))
  all_goals go_wp2
  all_goals go_ret
  all_goals exact ⟨by simp [beq_dec, eq_comm, Act.put], below2d (by assumption) hb⟩

theorem refGet_any (A : Option Addr) (n c : Nat) (l : List UInt8) (w : World) (hc : n ≤ 9223372036854775807) (hr : RdB w w.heap.size A n l) :
    Calls Tryz.prog 161 #[.slice A n c] w fun e w' => e = .returned (.tuple #[.float .f64 (wGet l), .bool (wGetOk l)]) ∧ Below w.heap.size w w' := by
  have h1 := call_float64frombits
  have hlen := hr.len
  obtain ⟨N, hN⟩ : ∃ N, N = bigNum (l.take 8) := ⟨_, rfl⟩
  have hN64 : N < 18446744073709551616 := by rw [hN]; exact bigNum_lt64 _ (by rw [List.length_take]; omega)
  have hq : wGetOk l = (decide (n = 8) && (wBits N == N)) := by unfold wGetOk; rw [hlen, hN]
  have hq2 : wGet l = if wGetOk l then N else 0 := by unfold wGet; rw [hN]
  have hkey : n = 8 → (wPut N = l ↔ wBits N = N) := by
    intro h8
    have e1 : l.take 8 = l := List.take_of_length_le (by omega)
    rw [e1] at hN
    have e2 := numPut_bigNum l (by omega)
    constructor
    · intro h
      have e3 : numPut (wBits N) 8 true = numPut N 8 true := by rw [hN, e2, ← hN]; exact h
      exact numPut_inj (wBits_lt hN64) hN64 e3
    · intro h
      unfold wPut
      rw [h, hN, e2]
  have HQ := Lib.hid hq
  have HQ2 := Lib.hid hq2
  have HN := Lib.hid hN
  have HR := Lib.hid hr
  have ht := text_toList
  by_cases h8 : n = 8
  · subst h8
    have hk := hkey rfl
    clear hq hq2 hr hlen hN hkey
    have k1 := (text_later HR.out c).1
    have k0 := (text_later HR.out c).2
    have kd : (convert 32 9 (.slice A 8 c)).run Tryz.prog w.drew = .ok (.string (textOf l)) w.drew :=
      run_bytes_text (P := Tryz.prog) HR.out.drew _ _ _ Tryz.underlying32 Tryz.underlying5 Tryz.underlying9 c
    by_cases hb : wPut N = l
    · have hb1 : wBits N = N := hk.1 hb
      have hd : (wBits N == N) = true := by rw [hb1]; simp
      rw [HQ2.out, HQ.out, hd]
      have HB := Lib.hid hb
      have hll : (l == l) = true := by simp
      clear hb1 hd hk hb
      go_enter Tryz.func161, Tryz.ntmps161
      go_wp2_with (first | (go_at_call 169; refine (ref_get_big _ _ _ _ _ _ (by omega) HR.out).mono ?_; rintro e w' ⟨rfl, rfl⟩; rw [← HN.out]))
      go_region_with (first | (go_at_call 65; refine (refPut_any _ (by assumption) _).mono ?_; rintro e w' ⟨A1, c1, rfl, hr1, hb1⟩; rw [HB.out] at hr1; obtain ⟨j1, j2⟩ := text_later hr1 c1; replace hb1 := below1d hb1))
      all_goals go_wp2
      all_goals go_ret2
      all_goals exact ⟨by simp, hb1⟩
    · have hb1 : ¬ wBits N = N := fun h => hb (hk.2 h)
      have hd : (wBits N == N) = false := by simpa using hb1
      rw [HQ2.out, HQ.out, hd]
      have hll : (wPut N == l) = false := by simpa using hb
      clear hb1 hd hk hb
      go_enter Tryz.func161, Tryz.ntmps161
      go_wp2_with (first | (go_at_call 169; refine (ref_get_big _ _ _ _ _ _ (by omega) HR.out).mono ?_; rintro e w' ⟨rfl, rfl⟩; rw [← HN.out]))
      go_region_with (first | (go_at_call 65; refine (refPut_any _ (by assumption) _).mono ?_; rintro e w' ⟨A1, c1, rfl, hr1, hb1⟩; obtain ⟨j1, j2⟩ := text_later hr1 c1; replace hb1 := below1d hb1))
      all_goals go_wp2
      all_goals go_ret2
      all_goals exact ⟨by simp, hb1⟩
  · have h8' : ((n : Int) != 8) = true := by rw [bne_iff_ne]; omega
    rw [HQ2.out, HQ.out, show decide (n = 8) = false by simpa using h8]
    clear h8 hq hq2 hr hlen hN hkey
    go_enter Tryz.func161, Tryz.ntmps161
    go_wp2
    go_ret2
    exact ⟨by simp, Below.refl _ _⟩
end Go.Proofs.YtmpemeemlhmaaaaGreat
