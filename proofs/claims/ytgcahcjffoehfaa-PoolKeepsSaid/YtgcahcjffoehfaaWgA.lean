/- The leaves of the layer of weights: what each call answers, of whatever bits. -/
import Derived.Test.YtgcahcjffoehfaaRows
import Derived.WalkKit
import Derived.WalkSpells
import Derived.WalkLawsBesides
import Derived.Lib.Hide
import Derived.Test.YtgcahcjffoehfaaFl
import Derived.Test.YtgcahcjffoehfaaMem
set_option linter.unusedSimpArgs false
set_option linter.unusedVariables false
namespace Go.Proofs.Ytgcahcjffoehfaa
open Go.RowKit

theorem call_float64bits (x : Nat) (w : World) : (callFunc 56 #[.float .f64 x]).run Try.prog w = .ok (.value (.int .u64 x)) w := by
  rw [run_callFunc_extern Try.func56 (by kernel_rfl) (by kernel_rfl) (by kernel_rfl) (e := Extern.MathFloatBits.float64bits) (by kernel_rfl)]
  rfl
theorem call_float64frombits (x : Int) (w : World) : (callFunc 48 #[.int .u64 x]).run Try.prog w = .ok (.value (.float .f64 x.toNat)) w := by
  rw [run_callFunc_extern Try.func48 (by kernel_rfl) (by kernel_rfl) (by kernel_rfl) (e := Extern.MathFloatBits.float64frombits) (by kernel_rfl)]
  rfl

def ord (x y : Nat) : Option Ordering := FloatKind.f64.format.order x y
def isNan (x : Nat) : Bool := ord x x != some .eq

theorem isNaN_any (x : Nat) (w : World) : Calls Try.prog 65 #[.float .f64 x] w fun e w' => e = .returned (.bool (isNan x)) ∧ w = w' := by
  go_enter Try.func65, Try.ntmps65
  go_wp2
  go_ret
  exact ⟨rfl, rfl⟩

def wBits (x : Nat) : Nat := if isNan x then 9221120237041090560 else x
theorem bits_any (x : Nat) (w : World) : Calls Try.prog 52 #[.float .f64 x] w fun e w' => e = .returned (.int .u64 (wBits x)) ∧ w = w' := by
  have h1 := call_float64bits x
  cases hn : isNan x
  all_goals
    go_enter Try.func52, Try.ntmps52
    go_wp2_with (first | (go_at_call 65; refine (isNaN_any _ _).mono ?_; rintro e w' ⟨rfl, rfl⟩))
    go_ret
    exact ⟨by simp [wBits, hn], rfl⟩

def wSame (x y : Nat) : Bool := wBits x == wBits y
theorem same_any (x y : Nat) (w : World) : Calls Try.prog 29 #[.float .f64 x, .float .f64 y] w fun e w' => e = .returned (.bool (wSame x y)) ∧ w = w' := by
  go_enter Try.func29, Try.ntmps29
  go_wp2_with (first | (go_at_call 52; refine (bits_any _ _).mono ?_; rintro e w' ⟨rfl, rfl⟩))
  go_ret
  exact ⟨by simp [wSame, nat_beq], rfl⟩

def wRight (x : Nat) : Bool := (ord x 0 == some .gt || ord x 0 == some .eq) && (ord x 4652007308841189376 == some .lt || ord x 4652007308841189376 == some .eq)
theorem right_any (x : Nat) (w : World) : Calls Try.prog 51 #[.float .f64 x] w fun e w' => e = .returned (.bool (wRight x)) ∧ w = w' := by
  cases h0 : (FloatKind.f64.format.order x 0 == some .gt || FloatKind.f64.format.order x 0 == some .eq)
  all_goals
    go_enter Try.func51, Try.ntmps51
    go_wp2
    go_ret
    exact ⟨by simp [wRight, ord, h0], rfl⟩

def wPlain (x : Nat) : Nat := if ord x 0 == some .eq then 0 else x
theorem plain_any (x : Nat) (w : World) : Calls Try.prog 30 #[.float .f64 x] w fun e w' => e = .returned (.float .f64 (wPlain x)) ∧ w = w' := by
  cases h0 : (FloatKind.f64.format.order x 0 == some .eq)
  all_goals
    go_enter Try.func30, Try.ntmps30
    go_wp2
    go_ret
    exact ⟨by simp [wPlain, ord, h0], rfl⟩

theorem nan_any (w : World) : Calls Try.prog 27 #[] w fun e w' => e = .returned (.float .f64 9221120237041090561) ∧ w = w' := by
  have h1 := call_float64frombits
  go_enter Try.func27, Try.ntmps27
  go_wp2
  go_ret
  exact ⟨rfl, rfl⟩

/-- the words of weights: from nought to 1000, or minus nought -/
def wOk (x : Nat) : Bool := decide (x ≤ 4652007308841189376) || x == 9223372036854775808
theorem fin_ok {x : Nat} (h : wOk x = true) : Fl.fin x := by
  simp [wOk] at h
  unfold Fl.fin; omega
theorem sv_ok {x : Nat} (h : wOk x = true) : Fl.SV x = Fl.V (x % 9223372036854775808) := by
  simp [wOk] at h
  unfold Fl.SV
  rcases h with h | h
  · rw [if_pos (by omega), Nat.mod_eq_of_lt (by omega)]
  · subst h; simp [Fl.V_zero]
theorem wRight_eq {x : Nat} (hx : x < 18446744073709551616) : wRight x = wOk x := by
  have f0 : Fl.fin 0 := by unfold Fl.fin; omega
  have f1 : Fl.fin 4652007308841189376 := by unfold Fl.fin; omega
  have s0 : Fl.SV 0 = 0 := by decide +kernel
  have s1 : Fl.SV 4652007308841189376 = (Fl.V 4652007308841189376 : Int) := by unfold Fl.SV; rw [if_pos (by omega)]
  have hord : ∀ a b, ord a b = Ieee.double.order a b := fun _ _ => rfl
  unfold wRight wOk
  rw [Bool.eq_iff_iff]
  simp only [hord]
  by_cases hf : Fl.fin x
  · rw [Fl.ord_fin hf f0, Fl.ord_fin hf f1, s0, s1]
    have e1 : ∀ a b : Int, (some (compare a b) == some Ordering.gt || some (compare a b) == some Ordering.eq) = decide (b ≤ a) := by
      intro a b
      rw [Bool.eq_iff_iff]
      simp [Int.compare_eq_gt, Int.compare_eq_eq]
      omega
    have e2 : ∀ a b : Int, (some (compare a b) == some Ordering.lt || some (compare a b) == some Ordering.eq) = decide (a ≤ b) := by
      intro a b
      rw [Bool.eq_iff_iff]
      simp [Int.compare_eq_lt, Int.compare_eq_eq]
      omega
    rw [e1, e2]
    unfold Fl.SV
    split
    · rename_i h1
      have := @Fl.V_le_iff x 4652007308841189376
      simp
      omega
    · rename_i h1
      have := @Fl.V_le_iff (x - 9223372036854775808) 0
      have hz := Fl.V_zero
      simp
      omega
  · have hno : ¬ x ≤ 4652007308841189376 := fun h => hf (by unfold Fl.fin; omega)
    have hno' : ¬ x = 9223372036854775808 := fun h => hf (by unfold Fl.fin; omega)
    rcases Fl.not_fin hx hf with rfl | rfl | ⟨s, f, h⟩
    · rw [Fl.ord_inf_l f0, Fl.ord_inf_l f1]; decide
    · rw [Fl.ord_ninf_l f0, Fl.ord_ninf_l f1]; decide
    · rw [Fl.ord_nan_l h, Fl.ord_nan_l h]
      simp
      omega

/-- the quanta of a word, and whether it is a weight -/
def wQ (x : Nat) : Nat := if wOk x then Fl.quanta (x % 9223372036854775808) else 0
theorem wQ_le (x : Nat) : wQ x ≤ 1024000 := by
  unfold wQ
  split
  · rename_i h
    simp [wOk] at h
    refine Fl.quanta_le ?_
    omega
  · omega

theorem call_archFloor (x : Nat) (d : Ieee.Datum) (h : Ieee.double.read x = d) (hn : d.isNaN = false) (w : World) :
    (callFunc 68 #[.float .f64 x]).run Try.prog w = .ok (.value (.float .f64 (Ieee.double.write (d.integral .down)))) w := by
  rw [run_callFunc_extern Try.func68 (by kernel_rfl) (by kernel_rfl) (by kernel_rfl) (e := Extern.MathFloor.toIntegral (Try.f68.name) .down) (by kernel_rfl)]
  have e : FloatKind.f64.decode x = d := h
  have hrun : Sem.run Try.prog (Extern.MathFloor.toIntegral (Try.f68.name) .down #[.float .f64 x]) w = .ok (.float .f64 (Ieee.double.write (d.integral .down))) w := by
    change Sem.run Try.prog ((match FloatKind.f64.decode x with
      | .nan s t =>
        if FloatKind.f64.format.quiet t = t then pure (Value.float .f64 x) else do
        let kept ← choose _
        pure (Value.float .f64 (if kept == 1 then x else FloatKind.f64.encode (.nan s (FloatKind.f64.format.quiet t))))
      | d => pure (Value.float .f64 (FloatKind.f64.encode (d.integral .down)))) : Sem Value) w = _
    rw [e]
    cases d with
    | nan s f => simp [Ieee.Datum.isNaN] at hn
    | infinity s => rfl
    | number s m i => rfl
  rw [hrun]
  rfl

theorem quanta_ok (x : Nat) (h : wOk x = true) (w : World) : Calls Try.prog 45 #[.float .f64 x] w fun e w' => e = .returned (.tuple #[.int .i64 (wQ x), .bool true]) ∧ w = w' := by
  have hx : x < 18446744073709551616 := by simp [wOk] at h; omega
  have hr : wRight x = true := by rw [wRight_eq hx, h]
  obtain ⟨r, r2, e1, e2, e3, e4⟩ : ∃ r r2, Ieee.double.mul x 4652218415073722368 = some r ∧ (Ieee.double.read r).isNaN = false ∧ Ieee.double.write ((Ieee.double.read r).integral .down) = r2 ∧ floatToIntVal .f64 r2 .i64 = some (wQ x : Int) := by
    by_cases hm : x = 9223372036854775808
    · subst hm
      exact ⟨_, _, Fl.mul_1024_m0, by decide +kernel, rfl, by decide +kernel⟩
    · have hle : x ≤ 4652007308841189376 := by simp [wOk] at h; omega
      have hq : wQ x = Fl.quanta x := by unfold wQ; rw [if_pos h, Nat.mod_eq_of_lt (by omega)]
      obtain ⟨r, a, b, c⟩ := Fl.mul_1024 hle
      have hqle := wQ_le x
      have hV : Fl.V r < 1048576 * Fl.U := by
        have h1 := Fl.V_mono hle
        rw [Fl.V_1000] at h1
        have := Fl.U_pos
        rw [c]; generalize Fl.V x = y at h1; generalize Fl.U = u at h1 this; omega
      have hpl : Fl.pl r ≤ 1074 := by
        have h1 : Fl.V r ≤ Fl.V 4697254411347427328 := by rw [Fl.V_2p20]; exact Nat.le_of_lt hV
        have h2 := Fl.pl_le_of_V h1
        have h3 : Fl.pl 4697254411347427328 = 1042 := by decide +kernel
        omega
      have hi := Fl.integral_down a hpl
      have hqq : Fl.V r / Fl.U = wQ x := by rw [hq, c]; rfl
      rw [hqq] at hi
      obtain ⟨r2, a2, b2, c2⟩ := Fl.write_whole (wQ x) (by omega)
      have hz := Fl.integral_zero a2 (Fl.pl_whole c2 (by omega))
      rw [c2, Nat.mul_div_cancel _ Fl.U_pos] at hz
      refine ⟨r, r2, b, ?_, ?_, ?_⟩
      · rw [Fl.read_pos a]; rfl
      · rw [hi]; exact b2
      · unfold floatToIntVal
        have : (FloatKind.f64.decode r2).toInt .zero = some (wQ x : Int) := by
          show (Ieee.double.read r2).toInt .zero = _
          unfold Ieee.Datum.toInt
          rw [hz]
          simp [Ieee.signed]
        rw [this]
        simp [IntKind.min, IntKind.max, IntKind.signed, IntKind.bits]
        omega
  have h1 := fun w => run_float_arith (P := Try.prog) w .mul 34 .f64 x 4652218415073722368 r e1
  have h2 := call_archFloor r _ rfl e2
  rw [e3] at h2
  have h3 := fun w => run_convert_float_int (P := Try.prog) w 34 3 .f64 .i64 r2 _ (by kernel_rfl) Try.underlying3 e4
  clear e1 e2 e3 e4
  go_enter Try.func45, Try.ntmps45
  go_wp2_with (first | (go_at_call 51; refine (right_any _ _).mono ?_; rintro e w' ⟨rfl, rfl⟩) | (go_at_call 62; go_in))
  go_ret2
  exact ⟨rfl, rfl⟩
theorem quanta_no (x : Nat) (hx : x < 18446744073709551616) (h : wOk x = false) (w : World) : Calls Try.prog 45 #[.float .f64 x] w fun e w' => e = .returned (.tuple #[.int .i64 (wQ x), .bool false]) ∧ w = w' := by
  have hr : wRight x = false := by rw [wRight_eq hx, h]
  have hq : wQ x = 0 := by unfold wQ; rw [h]; rfl
  go_enter Try.func45, Try.ntmps45
  go_wp2_with (first | (go_at_call 51; refine (right_any _ _).mono ?_; rintro e w' ⟨rfl, rfl⟩))
  go_ret2
  exact ⟨by simp [hq], rfl⟩
theorem quanta_any (x : Nat) (hx : x < 18446744073709551616) (w : World) : Calls Try.prog 45 #[.float .f64 x] w fun e w' => e = .returned (.tuple #[.int .i64 (wQ x), .bool (wOk x)]) ∧ w = w' := by
  cases h : wOk x
  · exact quanta_no x hx h w
  · exact quanta_ok x h w
end Go.Proofs.Ytgcahcjffoehfaa
