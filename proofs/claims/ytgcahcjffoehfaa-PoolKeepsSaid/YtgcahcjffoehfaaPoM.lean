/- The document's plain weight. -/
import Derived.Test.YtgcahcjffoehfaaWgA
set_option linter.unusedSimpArgs false
set_option linter.unusedVariables false
namespace Go.Proofs.Ytgcahcjffoehfaa
open Go.RowKit

theorem refPlain_any (x : Nat) (w : World) : Calls Try.prog 43 #[.float .f64 x] w fun e w' => e = .returned (.float .f64 (wPlain x)) ∧ w = w' := by
  cases h0 : (FloatKind.f64.format.order x 0 == some .eq)
  all_goals
    go_enter Try.func43, Try.ntmps43
    go_wp2
    go_ret
    exact ⟨by simp [wPlain, ord, h0], rfl⟩

end Go.Proofs.Ytgcahcjffoehfaa
