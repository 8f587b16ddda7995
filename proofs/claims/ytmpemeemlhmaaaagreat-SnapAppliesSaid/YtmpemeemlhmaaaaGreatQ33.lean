/- awake: answers that the document fixes. -/
import Derived.Test.YtmpemeemlhmaaaaGreatQ31
import Derived.Test.YtmpemeemlhmaaaaGreatQ32
import Derived.Laws.MakeOwn
import Derived.Deep.RegionHeldLaw
set_option linter.unusedSimpArgs false
set_option linter.unusedVariables false
set_option maxRecDepth 100000
namespace Go.Proofs.YtmpemeemlhmaaaaGreat
open Go.RowKit

/-! ### rows of noughts -/
def zerosC (n : Nat) : Array Value := ((List.replicate n (0 : UInt8)).map bv).toArray
theorem zerosC_size (n : Nat) : (zerosC n).size = n := by simp [zerosC]
theorem made_zeros (n : Nat) : madeCells (Value.int .u8 0).cells n = zerosC n := by
  apply Array.ext_getElem?
  intro j
  rcases Nat.lt_or_ge j n with h | h
  · simp [madeCells, zerosC, Value.cells, bv, h, Nat.mod_one]
  · rw [Array.getElem?_eq_none (by simp [madeCells]; omega), Array.getElem?_eq_none (by rw [zerosC_size]; omega)]
theorem run_zeros (n : Nat) (hn : n ≤ 16777216) (w : World) : (Instr.makeSlice 32 (.int .i64 (n : Int)) (.int .i64 (n : Int))).run Tryz.prog w = .ok (.slice (some ⟨w.heap.size, 0, none⟩) n n) (w.alloc (.cells (zerosC n) 5)) := by
  obtain ⟨i0, hi0, hz0, hz1, hz2⟩ := infoU8s
  have := run_makeSlice w 32 5 i0 _ Tryz.underlying32 hi0 hz0 .i64 .i64 (n : Int) (n : Int) (by omega) (Int.le_refl _) (by rw [hz1]; simp; omega) (by rw [hz2]; omega) (by omega)
  rw [this, hz1, Int.toNat_natCast, Nat.mul_one, made_zeros]
theorem rd_zeros (w : World) (n : Nat) : RdB (w.alloc (.cells (zerosC n) 5)) (w.heap.size + 1) (some ⟨w.heap.size, 0, none⟩) n (List.replicate n 0) := by
  refine ⟨by simp, fun _ => ⟨_, rfl, by simp, fun j u hu => ?_⟩⟩
  rw [Addr.add_mid, Nat.zero_add]
  have := cell_new w (zerosC n) 5 j
  rw [this]
  unfold zerosC
  rw [List.getElem?_toArray]
  exact hu
@[go_sem] theorem run_zeros17 (w : World) : (Instr.makeSlice 32 (.int .i64 17) (.int .i64 17)).run Tryz.prog w = .ok (.slice (some ⟨w.heap.size, 0, none⟩) 17 17) (w.alloc (.cells (zerosC 17) 5)) := run_zeros 17 (by omega) w
@[go_sem] theorem conv_zeros (w : World) (n c : Nat) : (convert 32 9 (.slice (some ⟨w.heap.size, 0, none⟩) n c)).run Tryz.prog (w.alloc (.cells (zerosC n) 5)) = .ok (.string (textOf (List.replicate n 0))) (w.alloc (.cells (zerosC n) 5)) :=
  (text_later ((rd_zeros w n).more (show w.heap.size + 1 ≤ (w.alloc (.cells (zerosC n) 5)).heap.size by simp)) c).2
@[go_sem] theorem conv_zeros_drew (w : World) (n c : Nat) : (convert 32 9 (.slice (some ⟨w.heap.size, 0, none⟩) n c)).run Tryz.prog (w.alloc (.cells (zerosC n) 5)).drew = .ok (.string (textOf (List.replicate n 0))) (w.alloc (.cells (zerosC n) 5)).drew := conv_zeros w.drew n c
@[go_sem] theorem run_mkSh_tick (w : World) (u : Int) : (mkSh #[(3, .int .i64 u)]).run Tryz.prog w = .ok (.agg ({ noSh with tick := u } : Sh).arr) w := by
  obtain ⟨i0, hi0, hz0, _, _⟩ := infoSh
  exact run_build w _ _ i0 noSh.arr _ _ _ Tryz.underlying29 hi0 hz0 (places_sh w _ Tryz.underlying29) rfl
/-! ### the plain answers -/
theorem staB_no : staB noSta = List.replicate 17 0 := by decide +kernel
theorem ok_no : okSta noSta = true := by decide +kernel
theorem ok_tick : okSta { noSta with tick := -1 } = false := by decide +kernel
theorem getV_nil : getV [] = none := by decide +kernel
theorem right3 : pRight 3 [] = true := by decide +kernel
theorem right4 : pRight 4 [] = true := by decide +kernel
theorem right0 : pRight (-1) [] = false := by decide +kernel
theorem delta33 : deltaB 3 3 [] [] = [3, 3, 0, 0] := by decide +kernel
theorem deltaV33 : deltaV 3 3 [] [] = some [3, 3, 0, 0] := by unfold deltaV; rw [right3, delta33]; rfl
theorem deltaV10 : deltaV (-1) 0 [] [] = none := by unfold deltaV; rw [right0]; rfl
theorem apply33 : applyV 3 [] [3, 3, 0, 0] = some (3, []) := by rw [← delta33]; exact applyV_delta right3 right3
theorem apply43 : applyV 4 [] [3, 3, 0, 0] = none := by rw [← delta33]; exact applyV_other right3 right3 right4 (by decide)
theorem stR_no (w : World) (B : Nat) : StR w B noSh noSta := ⟨rfl, RdR.nil _ _, RdR.nil _ _, RdR.nil _ _, rfl, rfl, rfl, (fun y hy => by cases hy), (fun y hy => by cases hy), (fun y hy => by cases hy), by simp [noSh, noSlc], by simp [noSh, noSlc], by simp [noSh, noSlc]⟩
theorem stR_tick (w : World) (B : Nat) (u : Int) : StR w B { noSh with tick := u } { noSta with tick := u } := ⟨rfl, RdR.nil _ _, RdR.nil _ _, RdR.nil _ _, rfl, rfl, rfl, (fun y hy => by cases hy), (fun y hy => by cases hy), (fun y hy => by cases hy), by simp [noSh, noSlc], by simp [noSh, noSlc], by simp [noSh, noSlc]⟩
theorem same_self_st (s : Sta) : sameSt s s = true := by unfold sameSt; rw [twins_self]; simp
theorem snapPut_any (x : Sh) (s : Sta) (w : World) (h : StR w w.heap.size x s) : Calls Tryz.prog 12 #[.agg x.arr] w (StPutP w s) := by
  cases hok : okSta s
  · exact snapPut_no x s w h hok
  · exact snapPut_yes x s w h hok
set_option maxRecDepth 100000 in
set_option maxHeartbeats 8000000 in
theorem awake_any (w : World) : Calls Tryz.prog 10 #[] w fun e w' => e = .returned (.bool true) ∧ Below w.heap.size w w' := by
  have C1 := Lib.hid (snapPut_any noSh noSta w (stR_no _ _))
  have C3 := Lib.hid (fun W => snapPut_any { noSh with tick := -1 } { noSta with tick := -1 } W (stR_tick _ _ (-1)))
  have C4 := Lib.hid (fun W => snapGet_any none 0 0 [] W ⟨rfl, fun h => absurd h (by omega)⟩ (by omega))
  rw [getV_nil] at C4
  have C5 := Lib.hid (fun W => delta_any 3 3 [] [] none none 0 0 0 0 W (RdR.nil _ _) (RdR.nil _ _) (fun x hx => by cases hx) (fun x hx => by cases hx) (by omega) (by omega) _ deltaV33)
  have C8 := Lib.hid (fun W => delta_any (-1) 0 [] [] none none 0 0 0 0 W (RdR.nil _ _) (RdR.nil _ _) (fun x hx => by cases hx) (fun x hx => by cases hx) (by omega) (by omega) _ deltaV10)
  go_enter Tryz.func10, Tryz.ntmps10
  go_wp2_with fail
  (with_reducible refine C1.out.mono ?_)
  rintro e w1 ⟨hb1, h1⟩
  rw [ok_no] at h1
  obtain ⟨A1, n1, c1, rfl, hn1, ho1⟩ := h1
  obtain rfl : n1 = 17 := by rw [hn1, staB_no]; rfl
  have R1 := Lib.hid (show RdB w1 w1.heap.size A1 17 (List.replicate 17 0) by have := RdB.of_own (show w1.ownsRow w.heap.size 5 1 (.slice A1 17 c1) 17 ((staB noSta).map bv) from ho1); rwa [staB_no] at this)
  have F1 := Lib.hid hb1
  have C2 := Lib.hid (snapGet_any A1 17 c1 (List.replicate 17 0) w1 R1.out (by omega))
  rw [show getV (List.replicate 17 0) = some noSta by rw [← staB_no]; exact getV_put ok_no] at C2
  clear hb1 hn1 ho1
  go_wp2_with fail
  (with_reducible refine C2.out.mono ?_)
  rintro e w2 ⟨hb2, x, rfl, hx2, _, _, _⟩
  have F2 := Lib.hid (hb2.alloc hb2.size (.cells x.arr 29))
  have X2 := Lib.hid (Box.new w2 x.arr 29)
  have S2 := Lib.hid (hx2.go ((Below.refl w2.heap.size w2).alloc (Nat.le_refl _) (.cells x.arr 29)))
  clear hb2 hx2
  go_wp2_with fail
  (with_reducible refine (C3.out _).mono ?_)
  rintro e w3 ⟨hb3, h3⟩
  rw [ok_tick] at h3
  obtain rfl := h3
  have F3 := Lib.hid hb3
  clear hb3
  go_wp2_with fail
  (with_reducible refine (C4.out _).mono ?_)
  rintro e w4 ⟨hb4, rfl⟩
  have F4 := Lib.hid (hb4.alloc hb4.size (.cells noSh.arr 29))
  clear hb4
  go_wp2_with fail
  (with_reducible refine (C5.out _).mono ?_)
  rintro e w5 ⟨hb5, A5, n5, c5, rfl, hn5, ho5⟩
  obtain rfl : n5 = 4 := hn5
  have R5 := Lib.hid (show RdB w5 w5.heap.size A5 4 [3, 3, 0, 0] from RdB.of_own ho5)
  have F5 := Lib.hid hb5
  have C6 := Lib.hid (apply_yes 3 [] [3, 3, 0, 0] none A5 0 4 0 c5 w5 (RdR.nil _ _) (fun x hx => by cases hx) (by omega) R5.out (by omega) right3)
  rw [apply33] at C6
  clear hb5 ho5
  go_wp2_with fail
  (with_reducible refine C6.out.mono ?_)
  rintro e w6 ⟨hb6, A6, c6, rfl, ho6⟩
  have F6 := Lib.hid (hb6.alloc hb6.size (.cells #[.int .i64 3, .slice A6 0 c6] 24))
  have P6 := Lib.hid (Box.new w6 #[.int .i64 3, .slice A6 0 c6] 24)
  have R6 := Lib.hid ((R5.out.to hb6 (Nat.le_refl _)).more hb6.size)
  have C7 := Lib.hid (apply_yes 4 [] [3, 3, 0, 0] none A5 0 4 0 c5 _ (RdR.nil _ _) (fun x hx => by cases hx) (by omega) ((R5.out.to F6.out (Nat.le_refl _)).more F6.out.size) (by omega) right4)
  rw [apply43] at C7
  clear hb6 ho6
  go_wp2_with fail
  (with_reducible refine C7.out.mono ?_)
  rintro e w7 ⟨hb7, rfl⟩
  have F7 := Lib.hid (hb7.alloc hb7.size (.cells #[.int .i64 0, .slice none 0 0] 24))
  clear hb7
  go_wp2_with fail
  (with_reducible refine (C8.out _).mono ?_)
  rintro e w8 ⟨hb8, rfl⟩
  have F8 := Lib.hid hb8
  have G7 := Lib.hid (below2 F7.out F8.out)
  have G6 := Lib.hid (below2 F6.out G7.out)
  have G5 := Lib.hid (below2 F5.out G6.out)
  have G4 := Lib.hid (below2 F4.out G5.out)
  have G3 := Lib.hid (below2 F3.out G4.out)
  have G2 := Lib.hid (below2 F2.out G3.out)
  have G1 := Lib.hid (below2 F1.out G2.out)
  have RB := Lib.hid ((R1.out.to G2.out (Nat.le_refl _)).more G2.out.size)
  have BX := Lib.hid (X2.out.go G3.out)
  have SX := Lib.hid (S2.out.go G3.out)
  have RD := Lib.hid ((R5.out.to G6.out (Nat.le_refl _)).more G6.out.size)
  have BP := Lib.hid (P6.out.go G7.out)
  clear hb8 F1 F2 F3 F4 F5 F6 F7 F8 G7 G6 G5 G4 G3 G2 R1 X2 S2 R5 P6 R6 C1 C2 C3 C4 C5 C6 C7 C8
  have KS := Lib.hid (show ∀ W, Below w8.heap.size w8 W → (convert 32 9 (.slice A1 17 c1)).run Tryz.prog W = .ok (.string (textOf (List.replicate 17 0))) W ∧ (loadSh (.pointer (some ⟨w2.heap.size, 0, none⟩))).run Tryz.prog W = .ok (.agg x.arr) W ∧ (convert 32 9 (.slice A5 4 c5)).run Tryz.prog W = .ok (.string (textOf [3, 3, 0, 0])) W ∧ W.cell? ⟨w6.heap.size, 0, none⟩ = some (.int .i64 3) from fun W hW => by
    have b := (BX.out.go hW).facts
    refine ⟨(text_later RB.out c1).1 W hW, ?_, (text_later RD.out c5).1 W hW, by rw [(BP.out.go hW).facts.1]; rfl⟩
    rw [load_sh _ _ _ (by rw [b.2.2.1 0 17 (by rw [Sh.csize]; omega)]; trivial), b.2.2.2 0 17 (by rw [Sh.csize]; omega)]
    congr 2
    exact Sh.extract_all x)
  have SM := Lib.hid (fun W (hW : Below w8.heap.size w8 W) => sameState_any x noSh noSta noSta W (SX.out.go hW) (stR_no _ _) true (same_self_st noSta))
  have RI := Lib.hid (fun W (hW : Below w8.heap.size w8 W) => snapRight_any x noSta W (SX.out.go hW))
  rw [ok_no] at RI
  go_wp2_with fail
  have BZ := Lib.hid (((Below.refl w8.heap.size w8).alloc (Nat.le_refl _) (.cells (zerosC 17) 5)).drew)
  go_region_held_law (fun W => (convert 32 9 (.slice A1 17 c1)).run Tryz.prog W = .ok (.string (textOf (List.replicate 17 0))) W ∧ (loadSh (.pointer (some ⟨w2.heap.size, 0, none⟩))).run Tryz.prog W = .ok (.agg x.arr) W ∧ (convert 32 9 (.slice A5 4 c5)).run Tryz.prog W = .ok (.string (textOf [3, 3, 0, 0])) W ∧ W.cell? ⟨w6.heap.size, 0, none⟩ = some (.int .i64 3))
    (first | exact KS.out _ (Below.refl _ _).drew | exact KS.out _ ((Below.refl _ _).alloc (Nat.le_refl _) _) | exact KS.out _ ((Below.refl _ _).alloc (Nat.le_refl _) _).drew | exact KS.out _ Ba.out | exact KS.out _ Bb.out)
    (first | (go_at_call 18; (with_reducible refine (SM.out _ BZ.out).mono ?_); rintro e wa ⟨rfl, ha⟩; have Ba := Lib.hid (below2 BZ.out ha); clear ha) | (go_at_call 14; (with_reducible refine (RI.out _ Ba.out).mono ?_); rintro e wb ⟨rfl, hb⟩; have Bb := Lib.hid (below2 Ba.out hb); clear hb))
  all_goals
    go_wp2
    go_ret
    exact ⟨rfl, below2 G1.out Bb.out⟩
end Go.Proofs.YtmpemeemlhmaaaaGreat
