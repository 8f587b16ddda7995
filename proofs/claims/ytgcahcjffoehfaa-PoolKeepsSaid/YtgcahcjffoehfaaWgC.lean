/- The document's quanta are the program's; math's small functions. -/
import Derived.Test.YtgcahcjffoehfaaWgB
set_option linter.unusedSimpArgs false
set_option linter.unusedVariables false
namespace Go.Proofs.Ytgcahcjffoehfaa
open Go.RowKit

theorem quanta_shift {x E M : Nat} (hE : E = x / 4503599627370496) (hM : M = x % 4503599627370496) (h0 : 0 < E) (h1 : E < 1033) : Fl.quanta x = (M + 4503599627370496) / 2 ^ (1075 - E - 10) := by
  unfold Fl.quanta Fl.V
  have e1 : Fl.mag x = M + 4503599627370496 := by unfold Fl.mag; rw [if_neg (by omega)]; omega
  have e2 : Fl.pl x = E - 1 := by unfold Fl.pl; omega
  rw [e1, e2]
  obtain ⟨u, hu, hU⟩ := Fl.U_is
  have e3 : Fl.U = 2 ^ (1075 - E - 10) * (2 ^ (E - 1) * 1024) := by
    rw [hU, show (1024 : Nat) = 2 ^ 10 from rfl, ← Nat.pow_add, ← Nat.pow_add, show 1075 - E - 10 + (E - 1 + 10) = u by omega]
  rw [e3, Nat.mul_assoc, Nat.mul_div_mul_right _ _ (Nat.mul_pos (Nat.two_pow_pos _) (by omega))]
theorem ok_shift {x E M : Nat} (hE : E = x / 4503599627370496) (hM : M = x % 4503599627370496) (h0 : 0 < E) (h1 : E < 1033) : x ≤ 4652007308841189376 ↔ M + 4503599627370496 ≤ 1000 * 2 ^ (1075 - E) := by
  rw [← Fl.V_le_iff, Fl.V_1000]
  unfold Fl.V
  have e1 : Fl.mag x = M + 4503599627370496 := by unfold Fl.mag; rw [if_neg (by omega)]; omega
  have e2 : Fl.pl x = E - 1 := by unfold Fl.pl; omega
  rw [e1, e2]
  obtain ⟨u, hu, hU⟩ := Fl.U_is
  have e3 : 1000 * Fl.U = 1000 * 2 ^ (1075 - E) * 2 ^ (E - 1) := by
    rw [hU, Nat.mul_assoc, ← Nat.pow_add, show 1075 - E + (E - 1) = u by omega]
  rw [e3]
  exact Nat.mul_le_mul_right_iff (Nat.two_pow_pos _)

theorem wOk_pos {x : Nat} (h : x < 9223372036854775808) : wOk x = decide (x ≤ 4652007308841189376) := by
  unfold wOk
  have : (x == 9223372036854775808) = false := by rw [beq_eq_false_iff_ne]; omega
  rw [this, Bool.or_false]
theorem wQ_pos {x : Nat} (h : x ≤ 4652007308841189376) : wQ x = Fl.quanta x := by
  unfold wQ
  rw [wOk_pos (by omega), if_pos (by simpa using h), Nat.mod_eq_of_lt (by omega)]
theorem wQ_no {x : Nat} (h : wOk x = false) : wQ x = 0 := by unfold wQ; rw [h]; rfl
theorem int_div (M d : Nat) : ((M : Int) + 4503599627370496) / 2 ^ d = (((M + 4503599627370496) / 2 ^ d : Nat) : Int) := by simp

theorem refQ_any (x : Nat) (hx : x < 18446744073709551616) (w : World) : Calls Try.prog 25 #[.float .f64 x] w fun e w' =>
    e = .returned (.tuple #[.int .i64 (wQ x), .bool (wOk x)]) ∧ w = w' := by
  by_cases c1 : x % 9223372036854775808 = 0
  · have h1 : wOk x = true := by unfold wOk; simp; omega
    have h2 : wQ x = 0 := by unfold wQ; rw [if_pos h1, c1]; decide +kernel
    refine (refQ_zero x hx c1 w).mono ?_
    rintro e w' ⟨rfl, rfl⟩
    rw [h1, h2]
    exact ⟨rfl, rfl⟩
  by_cases c2 : 9223372036854775808 < x
  · have h1 : wOk x = false := by unfold wOk; simp; omega
    refine (refQ_minus x hx c2 w).mono ?_
    rintro e w' ⟨rfl, rfl⟩
    rw [h1, wQ_no h1]
    exact ⟨rfl, rfl⟩
  have hx3 : x < 9223372036854775808 := by omega
  by_cases c3 : 4652218415073722368 ≤ x
  · have h1 : wOk x = false := by rw [wOk_pos hx3]; simp; omega
    refine (refQ_great x hx3 c3 w).mono ?_
    rintro e w' ⟨rfl, rfl⟩
    rw [h1, wQ_no h1]
    exact ⟨rfl, rfl⟩
  have hx4 : x < 4652218415073722368 := by omega
  obtain ⟨E, hE⟩ : ∃ E, E = x / 4503599627370496 := ⟨_, rfl⟩
  obtain ⟨M, hM⟩ : ∃ M, M = x % 4503599627370496 := ⟨_, rfl⟩
  by_cases c4 : E = 0
  · -- the least numbers
    have h1 : wOk x = true := by rw [wOk_pos hx3]; simp; omega
    have h2 : wQ x = 0 := by
      rw [wQ_pos (by omega)]
      have a : Fl.quanta x ≤ Fl.quanta 4503599627370496 := Fl.quanta_mono (by omega)
      have b : Fl.quanta 4503599627370496 = 0 := by decide +kernel
      omega
    refine (refQ_sub x (by omega) (by omega) w).mono ?_
    rintro e w' ⟨rfl, rfl⟩
    rw [h1, h2]
    exact ⟨rfl, rfl⟩
  have h0 : 0 < E := by omega
  have hE2 : E < 1033 := by omega
  have hM2 : M < 4503599627370496 := by omega
  have hok := ok_shift hE hM h0 hE2
  have hqs := quanta_shift hE hM h0 hE2
  have hqle : (M + 4503599627370496) / 2 ^ (1075 - E - 10) ≤ 9007199254740992 := Nat.le_trans (Nat.div_le_self _ _) (by omega)
  have hwr : wrap64 (((M : Int) + 4503599627370496) / 2 ^ (1075 - E - 10)) = (((M + 4503599627370496) / 2 ^ (1075 - E - 10) : Nat) : Int) := by
    rw [int_div]; exact IntWalk.wrap64_in _ (by omega)
  by_cases c5 : 63 ≤ 1075 - E
  · have hbig : M + 4503599627370496 ≤ 1000 * 2 ^ (1075 - E) := by
      have : 2 ^ 63 ≤ 2 ^ (1075 - E) := Nat.pow_le_pow_right (by omega) c5
      omega
    have h1 : wOk x = true := by rw [wOk_pos hx3]; simpa using hok.2 hbig
    have h2 := wQ_pos (hok.2 hbig)
    rw [hqs] at h2
    by_cases c6 : 60 < 1075 - E - 10
    · have h3 : (M + 4503599627370496) / 2 ^ (1075 - E - 10) = 0 := by
        have : 2 ^ 61 ≤ 2 ^ (1075 - E - 10) := Nat.pow_le_pow_right (by omega) c6
        exact Nat.div_eq_of_lt (by omega)
      refine (refQ_small x E M hx4 hE hM h0 c6 w).mono ?_
      rintro e w' ⟨rfl, rfl⟩
      rw [h1, h2, h3]
      exact ⟨rfl, rfl⟩
    · refine (refQ_mid x E M hx4 hE hM h0 c5 (by omega) w).mono ?_
      rintro e w' ⟨rfl, rfl⟩
      rw [h1, h2, hwr]
      exact ⟨rfl, rfl⟩
  · have hp : 0 < 2 ^ (1075 - E) := Nat.two_pow_pos _
    by_cases c7 : 1000 < (M + 4503599627370496) / 2 ^ (1075 - E)
    · have h1 : wOk x = false := by
        rw [wOk_pos hx3]
        have : ¬ M + 4503599627370496 ≤ 1000 * 2 ^ (1075 - E) := fun hc => by
          have := Nat.div_le_of_le_mul (show M + 4503599627370496 ≤ 2 ^ (1075 - E) * 1000 by omega)
          omega
        simpa using fun hc => this (hok.1 hc)
      refine (refQ_gt x E M hx4 hE hM h0 (by omega) (by rw [int_div]; omega) w).mono ?_
      rintro e w' ⟨rfl, rfl⟩
      rw [h1, wQ_no h1]
      exact ⟨rfl, rfl⟩
    have hdm := Nat.div_add_mod (M + 4503599627370496) (2 ^ (1075 - E))
    have hml := Nat.mod_lt (M + 4503599627370496) hp
    by_cases c8 : (M + 4503599627370496) / 2 ^ (1075 - E) = 1000
    · rw [c8] at hdm
      by_cases c9 : (M + 4503599627370496) % 2 ^ (1075 - E) = 0
      · have hb : M + 4503599627370496 ≤ 1000 * 2 ^ (1075 - E) := by omega
        have h1 : wOk x = true := by rw [wOk_pos hx3]; simpa using hok.2 hb
        have h2 := wQ_pos (hok.2 hb)
        rw [hqs] at h2
        refine (refQ_eqyes x E M hx4 hE hM h0 (by omega) (by rw [int_div]; omega) c9 w).mono ?_
        rintro e w' ⟨rfl, rfl⟩
        rw [h1, h2, hwr]
        exact ⟨rfl, rfl⟩
      · have h1 : wOk x = false := by
          rw [wOk_pos hx3]
          have : ¬ M + 4503599627370496 ≤ 1000 * 2 ^ (1075 - E) := by omega
          simpa using fun hc => this (hok.1 hc)
        refine (refQ_eqno x E M hx4 hE hM h0 (by omega) (by rw [int_div]; omega) c9 w).mono ?_
        rintro e w' ⟨rfl, rfl⟩
        rw [h1, wQ_no h1]
        exact ⟨rfl, rfl⟩
    · have hb : M + 4503599627370496 ≤ 1000 * 2 ^ (1075 - E) := by
        have : (M + 4503599627370496) / 2 ^ (1075 - E) ≤ 999 := by omega
        have h5 := Nat.mul_le_mul_left (2 ^ (1075 - E)) this
        omega
      have h1 : wOk x = true := by rw [wOk_pos hx3]; simpa using hok.2 hb
      have h2 := wQ_pos (hok.2 hb)
      rw [hqs] at h2
      refine (refQ_lt x E M hx4 hE hM h0 (by omega) (by rw [int_div]; omega) w).mono ?_
      rintro e w' ⟨rfl, rfl⟩
      rw [h1, h2, hwr]
      exact ⟨rfl, rfl⟩
end Go.Proofs.Ytgcahcjffoehfaa
