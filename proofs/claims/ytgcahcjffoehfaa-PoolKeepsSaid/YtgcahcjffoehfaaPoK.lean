/- pool.Same. -/
import Derived.Test.YtgcahcjffoehfaaPoJ
set_option linter.unusedSimpArgs false
set_option linter.unusedVariables false
namespace Go.Proofs.Ytgcahcjffoehfaa
open Go.RowKit

def eqPool (v : Int) (l : List Bk) (v' : Int) (m : List Bk) : Bool := (v == v') && eqRows l m
set_option maxHeartbeats 4000000 in
set_option maxRecDepth 100000 in
theorem poolSame_any (l m : List Bk) (v v' : Int) (A B : Option Addr) (c d : Nat) (w : World) (hR : RdK w w.heap.size A l.length l) (hT : RdK w w.heap.size B m.length m) (hn : l.length < 4611686018427387904) (hm : m.length < 4611686018427387904) :
    Calls Try.prog 16 #[.agg #[.int .i64 v, .slice A l.length c], .agg #[.int .i64 v', .slice B m.length d]] w
      fun e w' => e = .returned (.bool (eqPool v l v' m)) ∧ Below w.heap.size w w' := by
  have hb0 : ∀ ob ob', Below w.heap.size w ((w.alloc ob).alloc ob') := fun ob ob' => ((Below.refl _ _).alloc (Nat.le_refl _) _).alloc (by simp) _
  have HB0 := Lib.hid hb0
  clear hb0
  have HR := Lib.hid (fun ob ob' => ((hR.alloc (Nat.le_refl _) ob).alloc (by simp) ob').more (B' := ((w.alloc ob).alloc ob').heap.size) (by simp; omega))
  have HT := Lib.hid (fun ob ob' => ((hT.alloc (Nat.le_refl _) ob).alloc (by simp) ob').more (B' := ((w.alloc ob).alloc ob').heap.size) (by simp; omega))
  clear hR hT
  have he : eqPool v l v' m = ((v == v') && eqRows l m) := rfl
  have HE := Lib.hid he
  clear he
  cases k : v == v'
  · have HK := Lib.hid k
    go_enter Try.func16, Try.ntmps16
    go_wp2
    go_ret
    exact ⟨by rw [HE.out, HK.out]; rfl, HB0.out _ _⟩
  · have HK := Lib.hid k
    go_enter Try.func16, Try.ntmps16
    go_wp2_with (go_at_call 33; refine (equalFunc_any l m A B c d _ (HR.out _ _) (HT.out _ _) hn hm).mono ?_; rintro e w1 ⟨rfl, hb1⟩; have HB1 := Lib.hid hb1; clear hb1)
    go_ret
    exact ⟨by rw [HE.out, HK.out]; rfl, (HB0.out _ _).trans (HB1.out.mono (by simp; omega))⟩
end Go.Proofs.Ytgcahcjffoehfaa
