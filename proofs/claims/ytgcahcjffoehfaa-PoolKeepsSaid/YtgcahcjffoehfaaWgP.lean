/- A weight's plain form; a weight's first byte. -/
import Derived.Test.YtgcahcjffoehfaaWgD
set_option linter.unusedSimpArgs false
set_option linter.unusedVariables false
namespace Go.Proofs.Ytgcahcjffoehfaa
open Go.RowKit

theorem same_refl (x : Nat) : wSame x x = true := by simp [wSame]
theorem plain_same (u : Nat) (hu : u < 18446744073709551616) (h : ¬ u % 9223372036854775808 = 0) : wPlain u = u := by
  unfold wPlain
  have hord : ord u 0 = Ieee.double.order u 0 := rfl
  rw [hord]
  have f0 : Fl.fin 0 := by unfold Fl.fin; omega
  have s0 : Fl.SV 0 = 0 := by decide +kernel
  by_cases hf : Fl.fin u
  · rw [Fl.ord_fin hf f0, s0]
    have : compare (Fl.SV u) 0 ≠ .eq := by
      intro hc
      have hz := Int.compare_eq_eq.1 hc
      unfold Fl.SV at hz
      split at hz
      · have := Fl.V_pos (r := u) (by omega)
        omega
      · have := Fl.V_pos (r := u - 9223372036854775808) (by omega)
        omega
    rw [if_neg]
    simpa using this
  · rcases Fl.not_fin hu hf with rfl | rfl | ⟨s, f, h⟩
    · rw [Fl.ord_inf_l f0]; rfl
    · rw [Fl.ord_ninf_l f0]; rfl
    · rw [Fl.ord_nan_l h]; rfl
theorem plain_zero (u : Nat) (hu : u < 18446744073709551616) (h : u % 9223372036854775808 = 0) : wPlain u = 0 := by
  have : u = 0 ∨ u = 9223372036854775808 := by omega
  rcases this with rfl | rfl <;> decide +kernel

/-- a weight without a sign -/
def wPos (x : Nat) : Bool := wSame x (wPlain x)
theorem firstByte {x : Nat} (h : wOk x = true) : decide (128 ≤ ((wPut x).getD 0 0).toNat) = !wPos x := by
  unfold wOk at h
  simp only [Bool.or_eq_true, decide_eq_true_eq, beq_iff_eq] at h
  rcases h with h | rfl
  · have hx : x < 18446744073709551616 := by omega
    have hn : isNan x = false := by
      have hf : Fl.fin x := by unfold Fl.fin; omega
      have hord : ord x x = Ieee.double.order x x := rfl
      unfold isNan
      rw [hord, Fl.ord_fin hf hf]
      simp
    have hp : wPlain x = x := by
      by_cases hz : x % 9223372036854775808 = 0
      · obtain rfl : x = 0 := by omega
        decide +kernel
      · exact plain_same x hx hz
    have hb : wBits x = x := by simp [wBits, hn]
    have hg : (wPut x).getD 0 0 = lowB x 7 := by
      unfold wPut
      rw [hb]
      rfl
    rw [hg, wPos, hp, same_refl]
    simp [lowB]
    omega
  · decide +kernel
end Go.Proofs.Ytgcahcjffoehfaa
