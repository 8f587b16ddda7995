/- Law 19's anchor returns true. -/
import Derived.Test.YtjeeigdbfngjaaaHeK
set_option linter.unusedSimpArgs false
set_option linter.unusedVariables false
namespace Go.Proofs.Ytjeeigdbfngjaaa
open Go.RowKit

theorem RdR.lit {α : Type} {f : α → Array Value} {s : Nat} (hs : ∀ x, (f x).size = s) (l : List α) (n : Nat) (hn : l.length = n) (w : World) (t : TypeId) (cs : Array Value) (hc : cs.toList = l.flatMap fun x => (f x).toList) :
    RdR f s (w.alloc (.cells cs t)) (w.alloc (.cells cs t)).heap.size (some ⟨w.heap.size, 0, none⟩) n l :=
  ⟨hn, ⟨by rw [rows_len f s hs, hn], fun _ => ⟨_, rfl, by simp, by
    intro j v hv
    rw [Addr.add_mid, Nat.zero_add]
    have := cell_new w cs t j
    rw [this]
    rw [← hc] at hv
    simpa using hv⟩⟩, fun a h _ => by injection h with h; rw [← h]⟩
/-- healths are answered, read -/
def ClC (w : World) (n : Nat) (l : List Hl) (e : Ending) (w' : World) : Prop := ∃ A c, e = .returned (.slice A n c) ∧ RdH w' w'.heap.size A n l ∧ Below w.heap.size w w'
theorem clC_of {w : World} {n : Nat} {l : List Hl} (hn : l.length = n) {e : Ending} {w' : World} (h : ClP w n l e w') : ClC w n l e w' := by
  obtain ⟨A, c, he, ho, hb⟩ := h
  exact ⟨A, c, he, RdR.of_own hn ho, hb⟩
def SetC (w : World) (n : Nat) (l : List Hl) (r : Bool) (er : Int) (e : Ending) (w' : World) : Prop := ∃ A c, e = .returned (.tuple #[.slice A n c, .bool r, .int .i64 er]) ∧ RdH w' w'.heap.size A n l ∧ Below w.heap.size w w'
theorem setC_of {w : World} {n : Nat} {q : List Hl × Bool × Int} (hn : q.1.length = n) {e : Ending} {w' : World} (h : SetP w n q e w') : SetC w n q.1 q.2.1 q.2.2 e w' := by
  obtain ⟨A, c, he, ho, hb⟩ := h
  exact ⟨A, c, he, RdR.of_own hn ho, hb⟩
def TxC (w : World) (n : Nat) (l : List (List UInt8)) (e : Ending) (w' : World) : Prop := ∃ A c, e = .returned (.slice A n c) ∧ RdT w' w'.heap.size A n l ∧ Below w.heap.size w w'
theorem txC_of {w : World} {n : Nat} {l : List (List UInt8)} (hn : l.length = n) {e : Ending} {w' : World} (h : TxP w l e w') : TxC w n l e w' := by
  obtain ⟨A, n', c, he, hl, ho, hb⟩ := h
  have : n' = n := by omega
  subst this
  exact ⟨A, c, he, RdR.of_own hn ho, hb⟩
@[go_sem] theorem lit_a : Value.string { data := #[97] } = Value.string (textOf [97]) := rfl
@[go_sem] theorem lit_b : Value.string { data := #[98] } = Value.string (textOf [98]) := rfl
@[go_sem] theorem lit_c : Value.string { data := #[99] } = Value.string (textOf [99]) := rfl
def h1 : Hl := ⟨[97], false, 2⟩
def h2 : Hl := ⟨[97], true, 0⟩
def h3 : Hl := ⟨[97], true, 1⟩
def h4 : Hl := ⟨[97], false, 0⟩
def h5 : Hl := ⟨[98], false, 0⟩
def h6 : Hl := ⟨[98], true, 0⟩
theorem run1 (A : Option Addr) (c : Nat) (W : World) (hR : RdL W W.heap.size A 5 [false, false, true, false, false]) : Calls Try.prog 13 #[.agg (Hl.mk [97] false 0).arr, .slice A 5 c, .int .i64 2, .int .i64 3] W fun e w' => e = .returned (.tuple #[.agg h1.arr, .int .i64 0]) ∧ Below W.heap.size W w' := by
  have h := run_any (Hl.mk [97] false 0) [false, false, true, false, false] 2 3 A 5 c W hR ⟨by decide, by decide⟩ (by decide)
  rw [show runH (Hl.mk [97] false 0) [false, false, true, false, false] 2 3 = (h1, 0) by decide +kernel] at h
  exact h
theorem step1 (W : World) : Calls Try.prog 11 #[.agg h1.arr, .bool false, .int .i64 2, .int .i64 3] W fun e w' => e = .returned (.tuple #[.agg h2.arr, .bool true]) ∧ Below W.heap.size W w' := by
  have h := step_any h1 false 2 3 W ⟨by decide, by decide⟩
  rw [show stepH h1 false 2 3 = (h2, true) by decide +kernel] at h
  exact h
theorem step2 (W : World) : Calls Try.prog 11 #[.agg h2.arr, .bool true, .int .i64 2, .int .i64 3] W fun e w' => e = .returned (.tuple #[.agg h3.arr, .bool false]) ∧ Below W.heap.size W w' := by
  have h := step_any h2 true 2 3 W ⟨by decide, by decide⟩
  rw [show stepH h2 true 2 3 = (h3, false) by decide +kernel] at h
  exact h
theorem step3 (W : World) : Calls Try.prog 11 #[.agg h3.arr, .bool true, .int .i64 2, .int .i64 3] W fun e w' => e = .returned (.tuple #[.agg h4.arr, .bool true]) ∧ Below W.heap.size W w' := by
  have h := step_any h3 true 2 3 W ⟨by decide, by decide⟩
  rw [show stepH h3 true 2 3 = (h4, true) by decide +kernel] at h
  exact h
theorem sync1 (A B : Option Addr) (c d : Nat) (W : World) (hR : RdH W W.heap.size A 1 [h2]) (hN : RdT W W.heap.size B 3 [[98], [97], [98]]) : Calls Try.prog 17 #[.slice A 1 c, .slice B 3 d] W (ClC W 2 [h2, h5]) := by
  have h := sync_any [h2] [[98], [97], [98]] A 1 c B 3 d W hR hN (by decide) (by decide) (by decide) (by decide)
  rw [show syncH [h2] [[98], [97], [98]] = [h2, h5] by decide +kernel] at h
  exact h.mono fun e w' h => clC_of rfl h
theorem set1 (A : Option Addr) (c : Nat) (W : World) (hR : RdH W W.heap.size A 2 [h2, h5]) : Calls Try.prog 23 #[.slice A 2 c, .string (textOf [98]), .bool false, .int .i64 1, .int .i64 1] W (SetC W 2 [h2, h6] true 0) := by
  have h := set_any [h2, h5] [98] false 1 1 A 2 c W hR (by intro x hx; simp at hx; rcases hx with rfl | rfl <;> exact ⟨by decide, by decide⟩) (by decide)
  rw [show setH [h2, h5] [98] false 1 1 = ([h2, h6], true, 0) by decide +kernel] at h
  exact h.mono fun e w' h => setC_of (q := ([h2, h6], true, 0)) rfl h
theorem set2 (A : Option Addr) (c : Nat) (W : World) (hR : RdH W W.heap.size A 2 [h2, h5]) : Calls Try.prog 23 #[.slice A 2 c, .string (textOf [99]), .bool false, .int .i64 1, .int .i64 1] W (SetC W 2 [h2, h5] false 5) := by
  have h := set_any [h2, h5] [99] false 1 1 A 2 c W hR (by intro x hx; simp at hx; rcases hx with rfl | rfl <;> exact ⟨by decide, by decide⟩) (by decide)
  rw [show setH [h2, h5] [99] false 1 1 = ([h2, h5], false, 5) by decide +kernel] at h
  exact h.mono fun e w' h => setC_of (q := ([h2, h5], false, 5)) rfl h
theorem down1 (A : Option Addr) (c : Nat) (W : World) (hR : RdH W W.heap.size A 2 [h2, h6]) : Calls Try.prog 21 #[.slice A 2 c] W (TxC W 2 [[97], [98]]) := by
  have h := down_any [h2, h6] A 2 c W hR (by decide)
  rw [show downs [h2, h6] = [[97], [98]] by decide +kernel] at h
  exact h.mono fun e w' h => txC_of rfl h

set_option maxRecDepth 100000 in
set_option maxHeartbeats 4000000 in
theorem awake_any (w : World) : Calls Try.prog 10 #[] w fun e w' => e = .returned (.bool true) ∧ Below w.heap.size w w' := by
  go_enter Try.func10, Try.ntmps10
  go_wp2_with fail
  refine (run1 _ _ _ (RdR.lit blA_size [false, false, true, false, false] 5 rfl w _ _ rfl)).mono ?_
  rintro e w1 ⟨rfl, hb⟩
  have H1 := Lib.hid (below2 ((Below.refl _ w).alloc (Nat.le_refl _) _) hb)
  clear hb
  go_wp2_with fail
  refine (step1 _).mono ?_
  rintro e w2 ⟨rfl, hb⟩
  have H2 := Lib.hid (below2 (H1.out.alloc H1.out.size _) hb)
  have B12 := Lib.hid ((Box.new w1 h1.arr 23).go hb)
  clear hb
  go_wp2_with fail
  refine (step2 _).mono ?_
  rintro e w3 ⟨rfl, hb⟩
  have H3 := Lib.hid (below2 (H2.out.alloc H2.out.size _) hb)
  have B13 := Lib.hid ((B12.out.alloc (.cells h2.arr 23)).go hb)
  have B23 := Lib.hid ((Box.new w2 h2.arr 23).go hb)
  clear hb
  go_wp2_with fail
  refine (step3 _).mono ?_
  rintro e w4 ⟨rfl, hb⟩
  have H4 := Lib.hid (below2 (H3.out.alloc H3.out.size _) hb)
  have B14 := Lib.hid ((B13.out.alloc (.cells h3.arr 23)).go hb)
  have B24 := Lib.hid ((B23.out.alloc (.cells h3.arr 23)).go hb)
  have B34 := Lib.hid ((Box.new w3 h3.arr 23).go hb)
  clear hb
  obtain ⟨f1, f2, f3, f4⟩ := (B24.out.alloc (.cells h4.arr 23)).facts
  go_wp2_with fail
  have R0 := Lib.hid (show RdH ((w4.alloc (.cells h4.arr 23)).alloc (.cells h2.arr 23)) ((w4.alloc (.cells h4.arr 23)).alloc (.cells h2.arr 23)).heap.size (some ⟨w4.heap.size + 1, 0, none⟩) 1 [h2] by
    have := RdR.one h2 Hl.arr_size (w4.alloc (.cells h4.arr 23)) 23
    rwa [show (w4.alloc (.cells h4.arr 23)).heap.size = w4.heap.size + 1 by simp] at this)
  have R1 := Lib.hid (show RdT (((w4.alloc (.cells h4.arr 23)).alloc (.cells h2.arr 23)).alloc (.cells #[.string (textOf [98]), .string (textOf [97]), .string (textOf [98])] 9)) (((w4.alloc (.cells h4.arr 23)).alloc (.cells h2.arr 23)).alloc (.cells #[.string (textOf [98]), .string (textOf [97]), .string (textOf [98])] 9)).heap.size (some ⟨w4.heap.size + 1 + 1, 0, none⟩) 3 [[98], [97], [98]] by
    have := RdR.lit txA_size [[98], [97], [98]] 3 rfl ((w4.alloc (.cells h4.arr 23)).alloc (.cells h2.arr 23)) 9 #[.string (textOf [98]), .string (textOf [97]), .string (textOf [98])] rfl
    rwa [show ((w4.alloc (.cells h4.arr 23)).alloc (.cells h2.arr 23)).heap.size = w4.heap.size + 1 + 1 by simp] at this)
  have C14 := Lib.hid (((B14.out.alloc (.cells h4.arr 23)).alloc (.cells h2.arr 23)).alloc (.cells #[.string (textOf [98]), .string (textOf [97]), .string (textOf [98])] 9))
  have C24 := Lib.hid (((B24.out.alloc (.cells h4.arr 23)).alloc (.cells h2.arr 23)).alloc (.cells #[.string (textOf [98]), .string (textOf [97]), .string (textOf [98])] 9))
  have C34 := Lib.hid (((B34.out.alloc (.cells h4.arr 23)).alloc (.cells h2.arr 23)).alloc (.cells #[.string (textOf [98]), .string (textOf [97]), .string (textOf [98])] 9))
  have C44 := Lib.hid (((Box.new w4 h4.arr 23).alloc (.cells h2.arr 23)).alloc (.cells #[.string (textOf [98]), .string (textOf [97]), .string (textOf [98])] 9))
  have H5 := Lib.hid (((H4.out.alloc H4.out.size (.cells h4.arr 23)).alloc (by have := H4.out.size; simp; omega) (.cells h2.arr 23)).alloc (by have := H4.out.size; simp; omega) (.cells #[.string (textOf [98]), .string (textOf [97]), .string (textOf [98])] 9))
  clear f1 f2 f3 f4
  refine (sync1 _ _ _ _ _ (R0.out.up _) R1.out).mono ?_
  rintro e w5 ⟨A5, c5, rfl, hr5, hb5⟩
  have R5 := Lib.hid hr5
  have G5 := Lib.hid hb5
  clear hr5 hb5
  go_wp2_with fail
  refine (set1 _ _ _ R5.out).mono ?_
  rintro e w6 ⟨A6, c6, rfl, hr6, hb6⟩
  have R6 := Lib.hid hr6
  have G6 := Lib.hid hb6
  clear hr6 hb6
  go_wp2_with fail
  refine (set2 _ _ _ (R5.out.go G6.out)).mono ?_
  rintro e w7 ⟨A7, c7, rfl, hr7, hb7⟩
  have G7 := Lib.hid hb7
  clear hr7 hb7
  go_wp2_with fail
  refine (down1 _ _ _ (R6.out.go G7.out)).mono ?_
  rintro e w8 ⟨A8, c8, rfl, hr8, hb8⟩
  have GG := Lib.hid (below2 (below2 (below2 G5.out G6.out) G7.out) hb8)
  have R8 := Lib.hid (((R5.out.go G6.out).go G7.out).go hb8)
  have HZ := Lib.hid (below2 H5.out GG.out)
  obtain ⟨g11, g12, g13, g14⟩ := (C14.out.go GG.out).facts
  obtain ⟨g21, g22, g23, g24⟩ := (C24.out.go GG.out).facts
  obtain ⟨g31, g32, g33, g34⟩ := (C34.out.go GG.out).facts
  obtain ⟨g41, g42, g43, g44⟩ := (C44.out.go GG.out).facts
  obtain ⟨b5, o5, rfl, _, k1, k2, _, _⟩ := R8.out.hl (show 0 < 2 by omega)
  obtain ⟨b5', o5', hA, _, k3, k4, _, _⟩ := R8.out.hl (show 1 < 2 by omega)
  injection hA with hA
  injection hA with q1 q2
  subst q1 q2
  obtain ⟨b8, o8, rfl, _, k5⟩ := hr8.text (show 1 < 2 by omega)
  have k2' : cellsAt w8 b5 (o5 + 0 * 3) 3 = h2.arr := k2
  have k4' : cellsAt w8 b5 (o5 + 1 * 3) 3 = h5.arr := k4
  have k5' : w8.cell? ⟨b8, o8 + 1, none⟩ = some (.string (textOf [98])) := k5
  have e1 : hlEq h1 (Hl.mk [97] false 2) = true := by decide +kernel
  have e2 : hlEq h2 (Hl.mk [97] true 0) = true := by decide +kernel
  have e3 : h3.run = 1 := rfl
  have e4 : hlEq h4 (Hl.mk [97] false 0) = true := by decide +kernel
  have e5 : hlEq h2 h2 = true := by decide +kernel
  have e6 : hlEq h5 (Hl.mk [98] false 0) = true := by decide +kernel
  simp only [Nat.zero_mul, Nat.one_mul, Nat.add_zero] at k1 k3 k2' k4'
  clear k2 k4 k5 hb8 hr8
  go_wp2
  go_quiet (fail)
  go_wp2
  go_ret
  exact ⟨rfl, by first | exact HZ.out | exact below_drewN HZ.out _ | exact below_drewN (below_drewN HZ.out _) _⟩
end Go.Proofs.Ytjeeigdbfngjaaa
