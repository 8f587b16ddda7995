/- Whether two pools are alike: the program's way. -/
import Derived.Test.YtgcahcjffoehfaaPoH
set_option linter.unusedSimpArgs false
set_option linter.unusedVariables false
namespace Go.Proofs.Ytgcahcjffoehfaa
open Go.RowKit

/-- a backend with another weight, with another mark -/
def Bk.toW (x : Bk) (v : Nat) : Bk := { x with w := v }
def Bk.toD (x : Bk) (d : Bool) : Bk := { x with drain := d }
@[go_sem] theorem Bk.set_w (x : Bk) (v : Nat) : x.arr.setIfInBounds 25 (.float .f64 v) = (x.toW v).arr := by
  apply Array.ext'
  simp [Bk.arr, Bk.toW, List.set_append, fv]
@[go_sem] theorem Bk.set_d (x : Bk) (d : Bool) : x.arr.setIfInBounds 26 (.bool d) = (x.toD d).arr := by
  apply Array.ext'
  simp [Bk.arr, Bk.toD, List.set_append]
@[go_sem] theorem store_float {P : Program} {w : World} {a : Addr} {m : Mode} (k : FloatKind) (n : Nat) : (store a (.float k n) m).run P w = stored P w a (.float k n) m := run_store P w a _ m rfl
/-- two backends are alike, by the program -/
def same1 (x y : Bk) : Bool := wSame x.w y.w && bkEq (x.toW 0) (y.toW 0)
set_option maxHeartbeats 4000000 in
set_option maxRecDepth 100000 in
theorem same1_any (x y : Bk) (w : World) :
    Calls Try.prog 34 #[.agg x.arr, .agg y.arr] w fun e w' => e = .returned (.bool (same1 x y)) ∧ Below w.heap.size w w' := by
  have hb0 : ∀ ob ob', Below w.heap.size w ((w.alloc ob).alloc ob') := fun ob ob' => ((Below.refl _ _).alloc (Nat.le_refl _) _).alloc (by simp) _
  have HB0 := Lib.hid hb0
  clear hb0
  have hs : same1 x y = (wSame x.w y.w && bkEq (x.toW 0) (y.toW 0)) := rfl
  have HS := Lib.hid hs
  clear hs
  have same_K : ∀ K, wSame x.w y.w = K → ∀ W, Calls Try.prog 29 #[.float .f64 x.w, .float .f64 y.w] W fun e w' => e = .returned (.bool K) ∧ W = w' := fun K h W => by
    have := same_any x.w y.w W
    rw [h] at this
    exact this
  cases k : wSame x.w y.w
  · have HK := Lib.hid k
    have HSA := Lib.hid (same_K _ k)
    clear k same_K
    go_enter Try.func34, Try.ntmps34
    go_wp2_with (go_at_call 29; refine (HSA.out _).mono ?_; rintro e w' ⟨rfl, rfl⟩)
    go_ret
    exact ⟨by rw [HS.out, HK.out]; rfl, HB0.out _ _⟩
  · have HK := Lib.hid k
    have HSA := Lib.hid (same_K _ k)
    clear k same_K
    go_enter Try.func34, Try.ntmps34
    go_wp2_with (go_at_call 29; refine (HSA.out _).mono ?_; rintro e w' ⟨rfl, rfl⟩)
    go_ret
    exact ⟨by rw [HS.out, HK.out]; rfl, HB0.out _ _⟩
end Go.Proofs.Ytgcahcjffoehfaa
