/- Whether two backends, two pools are alike. -/
import Derived.Test.YtgcahcjffoehfaaPoC
import Derived.Test.YtgcahcjffoehfaaBkEq2
set_option linter.unusedSimpArgs false
set_option linter.unusedVariables false
namespace Go.Proofs.Ytgcahcjffoehfaa
open Go.RowKit

@[go_sem] theorem Has2_bk (w : World) (ob : Obj) (x : Bk) (t : TypeId) : Has ((w.alloc ob).alloc (.cells x.arr t)) (w.heap.size + 1) 0 27 = True := by
  have := Has_bk_new (w.alloc ob) x t
  rwa [show (w.alloc ob).heap.size = w.heap.size + 1 by simp] at this
@[go_sem] theorem cellsAt2_bk (w : World) (ob : Obj) (x : Bk) (t : TypeId) : cellsAt ((w.alloc ob).alloc (.cells x.arr t)) (w.heap.size + 1) 0 27 = x.arr := by
  have := cellsAt_bk_new (w.alloc ob) x t
  rwa [show (w.alloc ob).heap.size = w.heap.size + 1 by simp] at this
@[go_sem] theorem Has2_addr (w : World) (ob : Obj) (x : Bk) (t : TypeId) : Has ((w.alloc ob).alloc (.cells x.arr t)) (w.heap.size + 1) 1 17 = True := by
  have := Has_bk_addr (w.alloc ob) x t
  rwa [show (w.alloc ob).heap.size = w.heap.size + 1 by simp] at this
@[go_sem] theorem cellsAt2_addr (w : World) (ob : Obj) (x : Bk) (t : TypeId) : cellsAt ((w.alloc ob).alloc (.cells x.arr t)) (w.heap.size + 1) 1 17 = x.addr.arr := by
  have := cellsAt_bk_addr (w.alloc ob) x t
  rwa [show (w.alloc ob).heap.size = w.heap.size + 1 by simp] at this
@[go_sem] theorem Has2_mac (w : World) (ob : Obj) (x : Bk) (t : TypeId) : Has ((w.alloc ob).alloc (.cells x.arr t)) (w.heap.size + 1) 19 6 = True := by
  have := Has_bk_mac (w.alloc ob) x t
  rwa [show (w.alloc ob).heap.size = w.heap.size + 1 by simp] at this
@[go_sem] theorem cellsAt2_mac (w : World) (ob : Obj) (x : Bk) (t : TypeId) : cellsAt ((w.alloc ob).alloc (.cells x.arr t)) (w.heap.size + 1) 19 6 = macA x.mac := by
  have := cellsAt_bk_mac (w.alloc ob) x t
  rwa [show (w.alloc ob).heap.size = w.heap.size + 1 by simp] at this
/-- two backends are alike, by the document -/
def sameOne (x y : Bk) : Bool := (x.name == y.name) && decide (x.addr = y.addr) && (x.port == y.port) && decide (x.mac = y.mac) && (x.drain == y.drain) && decide (wPut x.w = wPut y.w)
set_option maxHeartbeats 4000000 in
set_option maxRecDepth 100000 in
theorem sameOne_any (x y : Bk) (hx : x.w < 18446744073709551616) (hy : y.w < 18446744073709551616) (w : World) :
    Calls Try.prog 22 #[.agg x.arr, .agg y.arr] w fun e w' => e = .returned (.bool (sameOne x y)) ∧ Below w.heap.size w w' := by
  have hb0 : ∀ ob ob', Below w.heap.size w ((w.alloc ob).alloc ob') := fun ob ob' => ((Below.refl _ _).alloc (Nat.le_refl _) _).alloc (by simp) _
  have HB0 := Lib.hid hb0
  clear hb0
  have hs : sameOne x y = ((x.name == y.name) && decide (x.addr = y.addr) && (x.port == y.port) && decide (x.mac = y.mac) && (x.drain == y.drain) && decide (wPut x.w = wPut y.w)) := rfl
  have HS := Lib.hid hs
  clear hs
  cases k1 : x.name == y.name
  · go_enter Try.func22, Try.ntmps22
    go_wp2
    go_ret
    exact ⟨by rw [HS.out, k1]; rfl, HB0.out _ _⟩
  cases k2 : decide (x.addr = y.addr)
  · go_enter Try.func22, Try.ntmps22
    go_wp2
    go_ret
    exact ⟨by rw [HS.out, k1, k2]; rfl, HB0.out _ _⟩
  cases k3 : x.port == y.port
  · go_enter Try.func22, Try.ntmps22
    go_wp2
    go_ret
    exact ⟨by rw [HS.out, k1, k2, k3]; rfl, HB0.out _ _⟩
  cases k4 : decide (x.mac = y.mac)
  · go_enter Try.func22, Try.ntmps22
    go_wp2
    go_ret
    exact ⟨by rw [HS.out, k1, k2, k3, k4]; rfl, HB0.out _ _⟩
  cases k5 : x.drain == y.drain
  · go_enter Try.func22, Try.ntmps22
    go_wp2
    go_ret
    exact ⟨by rw [HS.out, k1, k2, k3, k4, k5]; rfl, HB0.out _ _⟩
  go_enter Try.func22, Try.ntmps22
  go_wp2_with (go_at_call 44; refine (refSame_any _ _ hx hy _).mono ?_; rintro e w' ⟨rfl, hb1⟩; have HB1 := Lib.hid hb1; clear hb1)
  go_ret
  exact ⟨by rw [HS.out, k1, k2, k3, k4, k5]; rfl, (HB0.out _ _).trans (HB1.out.mono (by simp; omega))⟩
end Go.Proofs.Ytgcahcjffoehfaa
