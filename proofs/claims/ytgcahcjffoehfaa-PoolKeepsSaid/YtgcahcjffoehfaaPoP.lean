/- slices.Clone of backends: a row of one's own. -/
import Derived.Test.YtgcahcjffoehfaaPoD
import Derived.Test.YtgcahcjffoehfaaApp
set_option linter.unusedSimpArgs false
set_option linter.unusedVariables false
namespace Go.Proofs.Ytgcahcjffoehfaa
open Go.RowKit

theorem cellsBk_one (l : List Bk) : ∀ u ∈ cellsBk l, u.oneCell' = true := by
  intro u hu
  obtain ⟨x, _, hx⟩ := List.mem_flatMap.1 hu
  exact Array.all_eq_true_iff_forall_mem.1 (Bk.arr_one x) u (by simpa using hx)
theorem infoBk : ∃ i : TypeInfo, Try.prog.info? 36 = some i ∧ i.zero = some (.agg noBk.arr) ∧ i.size = 27 ∧ i.bytes ≤ 200 := by
  cases h : Try.prog.info? 36 with
  | none => exact absurd h (by have : (Try.prog.info? 36).isSome = true := by kernel_rfl
                               intro e; rw [e] at this; cases this)
  | some i =>
    have h1 : (Try.prog.info? 36).map (·.size) = some 27 := by kernel_rfl
    have h2 : (Try.prog.info? 36).map (fun i => decide (i.bytes ≤ 200)) = some true := by kernel_rfl
    have h3 : (Try.prog.info? 36).map (·.zero) = some (some (.agg noBk.arr)) := by kernel_rfl
    rw [h] at h1 h2 h3
    simp at h1 h2 h3
    exact ⟨i, rfl, h3, h1, h2⟩
end Go.Proofs.Ytgcahcjffoehfaa
