/- SnapKeeps: of whatever state and pool: what is handed in stays; what is answered is new memory. For every input, no condition. -/
import Derived.Test.YtmpemeemlhmaaaaGreatQ41
set_option linter.unusedSimpArgs false
set_option linter.unusedVariables false
set_option maxRecDepth 100000
namespace Go.Proofs.YtmpemeemlhmaaaaGreat
open Go.ChangeShapes Go.WideShapes Go.ChangeAt Go.RowKit

set_option maxRecDepth 100000 in
set_option maxHeartbeats 8000000 in
theorem snapKeeps_walk (x : Sh) (s : Sta) (v : Int) (A : Option Addr) (n c : Nat) (l : List Bk) (W : World) (h : StW W W.heap.size x s) (hR : RdR Bk.arr 27 W W.heap.size A n l) (hg : ∀ b ∈ l, b.good) (hm : n ≤ 9223372036854775807) :
    Calls Tryz.prog 8 #[.agg x.arr, .agg #[.int .i64 v, .slice A n c]] W fun e W' => e = .returned (.bool true) ∧ Below W.heap.size W W' := by
  obtain ⟨W0, hW0⟩ : ∃ W0, W0 = (W.alloc (.cells x.arr 29)).alloc (.cells #[.int .i64 v, .slice A n c] 24) := ⟨_, rfl⟩
  have HB0 := Lib.hid (show Below W.heap.size W W0 by rw [hW0]; exact ((Below.refl W.heap.size W).alloc (Nat.le_refl _) _).alloc (by simp) _)
  have P0 := Lib.hid (show Box W0 W.heap.size x.arr by rw [hW0]; exact (Box.new W _ _).alloc _)
  have Q0 := Lib.hid (show Box W0 (W.heap.size + 1) #[.int .i64 v, .slice A n c] by rw [hW0]; exact Box.new1 W _ _ _)
  have HS := Lib.hid h
  have HR := Lib.hid hR
  have HF := Lib.hid (fun x hx => (hg x hx).1)
  obtain ⟨K1, hK1⟩ : ∃ K, fewSt s = K := ⟨_, rfl⟩
  obtain ⟨K2, hK2⟩ : ∃ K, okSta s = K := ⟨_, rfl⟩
  obtain ⟨K3, hK3⟩ : ∃ K, few l = K := ⟨_, rfl⟩
  obtain ⟨K4, hK4⟩ : ∃ K, pRight v l = K := ⟨_, rfl⟩
  have F1 := Lib.hid (fun W' (hb : Below W.heap.size W W') => fewState_any x s W' (HS.out.go hb) K1 hK1)
  have F3 := Lib.hid (fun W' (hb : Below W.heap.size W W') => rFew_any l v A n c W' (HR.out.go hb) hm K3 hK3)
  have HK1 := Lib.hid hK1
  have HK2 := Lib.hid hK2
  have HK3 := Lib.hid hK3
  have HK4 := Lib.hid hK4
  have HN0 := Lib.hid hR.1
  clear h hR hg hK1 hK2 hK3 hK4
  have HW0 := Lib.hid hW0
  go_enter Tryz.func8, Tryz.ntmps8
  go_wp2_with fail
  rw [← HW0.out]
  clear HW0 hW0
  (with_reducible refine (awake_any _).mono ?_)
  rintro e w1 ⟨rfl, hb1⟩
  have HB1 := Lib.hid (below2 HB0.out hb1)
  have P1 := Lib.hid (P0.out.go hb1)
  have Q1 := Lib.hid (Q0.out.go hb1)
  obtain ⟨x1, x2, x3, x4⟩ := P1.out.facts
  have hl1 := P1.out.lt
  clear hb1
  go_wp2_with fail
  (with_reducible refine (F1.out _ HB1.out).mono ?_)
  rintro e w2 ⟨rfl, hb2⟩
  have HB2 := Lib.hid (below2 HB1.out hb2)
  have P2 := Lib.hid (P1.out.go hb2)
  have Q2 := Lib.hid (Q1.out.go hb2)
  clear hb2 x1 x2 x3 x4 hl1
  cases K1
  · go_wp2_with fail
    (with_reducible refine (awake_any _).mono ?_)
    rintro e w3 ⟨rfl, hb3⟩
    have HB3 := Lib.hid (below2 HB2.out hb3)
    clear hb3
    go_wp2
    go_ret
    exact ⟨rfl, HB3.out⟩
  have HST := Lib.hid (HS.out.strong HK1.out)
  have RR := Lib.hid (rState_any x s w2 (HST.out.go HB2.out))
  rw [HK2.out] at RR
  obtain ⟨x1, x2, x3, x4⟩ := P2.out.facts
  have hl1 := P2.out.lt
  go_wp2_with fail
  (with_reducible refine RR.out.mono ?_)
  rintro e w3 ⟨rfl, hb3⟩
  have HB3 := Lib.hid (below2 HB2.out hb3)
  have P3 := Lib.hid (P2.out.go hb3)
  have Q3 := Lib.hid (Q2.out.go hb3)
  clear hb3 x1 x2 x3 x4 hl1
  cases K2
  · go_wp2_with fail
    (with_reducible refine (awake_any _).mono ?_)
    rintro e w4 ⟨rfl, hb4⟩
    have HB4 := Lib.hid (below2 HB3.out hb4)
    clear hb4
    go_wp2
    go_ret
    exact ⟨rfl, HB4.out⟩
  obtain ⟨x1, x2, x3, x4⟩ := Q3.out.facts
  have hl1 := Q3.out.lt
  go_wp2_with fail
  (with_reducible refine (F3.out _ HB3.out).mono ?_)
  rintro e w4 ⟨rfl, hb4⟩
  have HB4 := Lib.hid (below2 HB3.out hb4)
  have P4 := Lib.hid (P3.out.go hb4)
  have Q4 := Lib.hid (Q3.out.go hb4)
  clear hb4 x1 x2 x3 x4 hl1
  cases K3
  · go_wp2_with fail
    (with_reducible refine (awake_any _).mono ?_)
    rintro e w5 ⟨rfl, hb5⟩
    have HB5 := Lib.hid (below2 HB4.out hb5)
    clear hb5
    go_wp2
    go_ret
    exact ⟨rfl, HB5.out⟩
  have hn40 : n ≤ 40 := by rw [← HN0.out]; exact few_le40 HK3.out
  have G1 := Lib.hid (rRightP_any l HF.out v A n c w4 (HR.out.go HB4.out) (by omega) K4 HK4.out)
  obtain ⟨x1, x2, x3, x4⟩ := Q4.out.facts
  have hl1 := Q4.out.lt
  go_wp2_with fail
  (with_reducible refine G1.out.mono ?_)
  rintro e w5 ⟨rfl, hb5⟩
  have HB5 := Lib.hid (below2 HB4.out hb5)
  have P5 := Lib.hid (P4.out.go hb5)
  have Q5 := Lib.hid (Q4.out.go hb5)
  clear hb5 x1 x2 x3 x4 hl1
  cases K4
  · go_wp2_with fail
    (with_reducible refine (awake_any _).mono ?_)
    rintro e w6 ⟨rfl, hb6⟩
    have HB6 := Lib.hid (below2 HB5.out hb6)
    clear hb6
    go_wp2
    go_ret
    exact ⟨rfl, HB6.out⟩
  obtain ⟨x1, x2, x3, x4⟩ := P5.out.facts
  have hl1 := P5.out.lt
  have PU := Lib.hid (snapPut_any x s w5 (HST.out.go HB5.out))
  go_wp2_with fail
  (with_reducible refine PU.out.mono ?_)
  rintro e w6 ⟨hb6, h6⟩
  rw [HK2.out] at h6
  obtain ⟨A6, n6, c6, rfl, hn6, ho6⟩ := h6
  have hsm := staB_small HK2.out
  have hn6b : n6 ≤ 3000000 := by omega
  have HB6 := Lib.hid (below2 HB5.out hb6)
  have P6 := Lib.hid (P5.out.go hb6)
  have Q6 := Lib.hid (Q5.out.go hb6)
  have R6 := Lib.hid (show RdB w6 w6.heap.size A6 n6 (staB s) by rw [hn6] at ho6 ⊢; exact RdB.of_own ho6)
  have HN6 := Lib.hid hn6
  have L0 := Lib.hid (Ly.lit0 w6)
  have R7 := Lib.hid (R6.out.go ((Below.refl w6.heap.size w6).alloc (Nat.le_refl _) (.cells #[] 5)))
  have HL1 := Lib.hid (show ([] : List UInt8).length + n6 ≤ 1000000000 by simp; omega)
  clear hb6 ho6 hn6 hsm x1 x2 x3 x4 hl1
  go_wp2_with (at_builtin; refine wpList_ow rfl (.tmp 47) (.tmp 48) rfl rfl L0.out.o rfl R7.out HL1.out ?_; intro A7 n7 c7 w7 h2 h3; have L7 := Lib.hid (L0.out.step (by exact h3)); clear h2 h3)
  rw [List.nil_append] at L7
  have hn7 := L7.out.len
  have GT := Lib.hid (snapGet_any A7 n7 c7 (staB s) w7 L7.out.rd (by rw [hn7]; have := HN6.out; omega))
  rw [getV_put HK2.out] at GT
  clear hn7
  (with_reducible refine GT.out.mono ?_)
  rintro e w8 ⟨hb8, y, rfl, hy8, ya, yh, yf⟩
  have HB7 := Lib.hid (below2 HB6.out L7.out.o.bel)
  have F67 := Lib.hid (show Below w6.heap.size w6 w7 from L7.out.o.bel)
  have O7 := Lib.hid (show w7.ownsRow w6.heap.size 5 1 (.slice A7 n7 c7) n7 ((staB s).map bv) by have h := L7.out.o.own; rw [← L7.out.len] at h; exact h)
  have HN7 := Lib.hid L7.out.len
  have szz := Q6.out.lt
  have LO7 := Lib.hid O7.out.lt
  obtain ⟨w4, hw4⟩ : ∃ w4, w4 = w8.alloc (.cells y.arr 29) := ⟨_, rfl⟩
  have H84 := Lib.hid (show Below w8.heap.size w8 w4 by rw [hw4]; exact (Below.refl w8.heap.size w8).alloc (Nat.le_refl _) _)
  have H74 := Lib.hid (below2 hb8 H84.out)
  have H64 := Lib.hid (below2 F67.out H74.out)
  have HB4' := Lib.hid (below2 HB6.out H64.out)
  have P9 := Lib.hid (P6.out.go H64.out)
  have Q9 := Lib.hid (Q6.out.go H64.out)
  have RB9 := Lib.hid (R6.out.to H64.out (Nat.le_refl _))
  have O9 := Lib.hid (own_below O7.out H74.out)
  have Y9 := Lib.hid (show Box w4 w8.heap.size y.arr by rw [hw4]; exact Box.new _ _ _)
  have T9 := Lib.hid (show StR w4 w8.heap.size y s by
    have h := hy8.go H84.out
    exact ⟨h.ver, hy8.b.to H84.out (Nat.le_refl _), hy8.h.to H84.out (Nat.le_refl _), hy8.f.to H84.out (Nat.le_refl _), h.tick, h.no, h.cnt, h.fine, h.fineh, h.finef, h.nb, h.nh, h.nf⟩)
  have YA := Lib.hid (And.intro ya (And.intro yh yf))
  have Rp := Lib.hid (HR.out.go HB4'.out)
  have sz1 := HB6.out.size
  have sz2 := F67.out.size
  have sz3 := hb8.size
  have sz4 := Y9.out.lt
  have HW4 := Lib.hid hw4
  have PUT := Lib.hid (show 0 + n ≤ maxLen by unfold maxLen; omega)
  clear hy8 ya yh yf hb8 hw4 L7 R7 L0 HL1 hn6b
  go_upto_region 6 with fail
  rw [← HW4.out]
  obtain ⟨i0, hi0, hz0, hz1, hzb⟩ := infoBk
  have HI0 := Lib.hid hi0
  have HZ0 := Lib.hid hz0
  have HZ1 := Lib.hid hz1
  have HZ2 := Lib.hid (show (Value.agg noBk.arr).cells.size = 27 by simp [Value.cells, Bk.arr_size])
  have HBY := Lib.hid (show (0 + n) * i0.bytes ≤ 140737488355328 from Nat.le_trans (Nat.mul_le_mul (show 0 + n ≤ 100002 by omega) hzb) (by omega))
  have H63 := Lib.hid (show 0 + n ≤ maxLen by unfold maxLen; omega)
  clear hi0 hz0 hz1 hzb
  go_cut [10] from 55 to 62 (fun s10 wx => ∃ bb A' c', s10 = .pointer (some ⟨bb, 0, none⟩) ∧ Box wx bb #[.int .i64 v, .slice A' n c'] ∧ w4.heap.size ≤ bb ∧ (Value.slice A' n c').ownBlock ≠ some bb ∧ wx.ownsRow w4.heap.size 60 27 (.slice A' n c') n (cellsBk l) ∧ Below w4.heap.size w4 wx)
  case first =>
    obtain ⟨xp1, xp2, xp3, xp4⟩ := Q9.out.facts
    have lp := Q9.out.lt
    have OA := Lib.hid (show (w4.alloc (.cells #[] 60)).drew.ownsRow w4.heap.size 60 27 (.slice (some ⟨w4.heap.size, 0, none⟩) 0 0) 0 [] from World.ownsRow_lit w4 #[] 0 (Nat.le_refl _) (by unfold maxLen; omega) rfl)
    have OB := Lib.hid (fun ob => show ((w4.alloc ob).alloc (.cells #[] 60)).drew.ownsRow w4.heap.size 60 27 (.slice (some ⟨w4.heap.size + 1, 0, none⟩) 0 0) 0 [] from by
      have h := World.ownsRow_lit (size := 27) (e := 60) (w4.alloc ob) #[] 0 (Nat.le_refl _) (by unfold maxLen; omega) rfl
      rw [show (w4.alloc ob).heap.size = w4.heap.size + 1 by simp] at h
      exact own_less h (by omega))
    have OC := Lib.hid (fun ob => show ((w4.alloc (.cells #[] 60)).alloc ob).drew.ownsRow w4.heap.size 60 27 (.slice (some ⟨w4.heap.size, 0, none⟩) 0 0) 0 [] from own_alloc OA.out ob)
    have RA := Lib.hid (show Rd (w4.alloc (.cells #[] 60)).drew w4.heap.size 27 A n (cellsBk l) from (Rp.out.alloc (Nat.le_refl _) (.cells #[] 60)).2.1)
    have RB := Lib.hid (fun ob ob' => show Rd ((w4.alloc ob).alloc ob').drew w4.heap.size 27 A n (cellsBk l) from ((Rp.out.alloc (Nat.le_refl _) ob).alloc (by simp) ob').2.1)
    have SA1 := Lib.hid (show w4.heap.size ≤ (w4.alloc (.cells #[] 60)).drew.heap.size by simp)
    have SB1 := Lib.hid (fun ob ob' => show w4.heap.size ≤ ((w4.alloc ob).alloc ob').drew.heap.size by simp; omega)
    have ON := Lib.hid (cellsBk_one l)
    have BB := Lib.hid (fun ob w1 (hg : ((w4.alloc (.cells #[.int .i64 0, .slice none 0 0] 24)).alloc ob).drew.grownBy w1 (Value.slice (some ⟨w4.heap.size + 1, 0, none⟩) 0 0).ownBlock) => ((Box.new w4 _ _).alloc ob).drew.grown hg (fun e => by have h2 : some w4.heap.size = some (w4.heap.size + 1) := e; injection h2 with h2; omega))
    have BC := Lib.hid (fun ob w1 (hg : ((w4.alloc ob).alloc (.cells #[.int .i64 0, .slice none 0 0] 24)).drew.grownBy w1 (Value.slice (some ⟨w4.heap.size, 0, none⟩) 0 0).ownBlock) => (Box.new1 w4 ob _ _).drew.grown hg (fun e => by have h2 : some (w4.heap.size + 1) = some w4.heap.size := e; injection h2 with h2; omega))
    have NBB := Lib.hid (fun ob ob' (v1 : Value) (h : v1.ownBlock = (Value.slice (some ⟨w4.heap.size + 1, 0, none⟩) 0 0).ownBlock ∨ v1.ownBlock = some ((w4.alloc ob).alloc ob').drew.heap.size) => (show v1.ownBlock ≠ some w4.heap.size from nb (a := w4.heap.size + 1) (b := ((w4.alloc ob).alloc ob').drew.heap.size) h (by omega) (by have : ((w4.alloc ob).alloc ob').drew.heap.size = w4.heap.size + 1 + 1 := (by simp); omega)))
    have NBC := Lib.hid (fun ob ob' (v1 : Value) (h : v1.ownBlock = (Value.slice (some ⟨w4.heap.size, 0, none⟩) 0 0).ownBlock ∨ v1.ownBlock = some ((w4.alloc ob).alloc ob').drew.heap.size) => (show v1.ownBlock ≠ some (w4.heap.size + 1) from nb (a := w4.heap.size) (b := ((w4.alloc ob).alloc ob').drew.heap.size) h (by omega) (by have : ((w4.alloc ob).alloc ob').drew.heap.size = w4.heap.size + 1 + 1 := (by simp); omega)))
    have KS := Lib.hid (show ∀ W', Below w4.heap.size w4 W' → W'.cell? ⟨W.heap.size + 1, 0, none⟩ = some (.int .i64 v) ∧ W'.cell? ⟨W.heap.size + 1, 1, none⟩ = some (.slice A n c) from fun W' h =>
      ⟨by rw [h.cell (p := ⟨W.heap.size + 1, 0, none⟩) lp, xp1]; rfl, by rw [h.cell (p := ⟨W.heap.size + 1, 1, none⟩) lp, xp1]; rfl⟩)
    have GA := Lib.hid (fun w1 (hg : (w4.alloc (.cells #[] 60)).drew.grownBy w1 (Value.slice (some ⟨w4.heap.size, 0, none⟩) 0 0).ownBlock) => (show Below w4.heap.size w4 w1 from Below.grown (((Below.refl _ _).alloc (Nat.le_refl _) _).drew) hg (by simp) (fun k hk => by have h2 : some w4.heap.size = some k := hk; injection h2 with h2; omega)))
    have GBB := Lib.hid (fun ob ob' w1 a (ha : w4.heap.size ≤ a) (hg : ((w4.alloc ob).alloc ob').drew.grownBy w1 (Value.slice (some ⟨a, 0, none⟩) 0 0).ownBlock) => (show Below w4.heap.size w4 w1 from Below.grown ((((Below.refl _ _).alloc (Nat.le_refl _) _).alloc (by simp) _).drew) hg (by simp; omega) (fun k hk => by have h2 : some a = some k := hk; injection h2 with h2; omega)))
    go_region_held_law (fun W' => W'.cell? ⟨W.heap.size + 1, 0, none⟩ = some (.int .i64 v) ∧ W'.cell? ⟨W.heap.size + 1, 1, none⟩ = some (.slice A n c))
      (first | exact KS.out _ (Below.refl _ _) | exact KS.out _ (Below.refl _ _).drew | exact KS.out _ ((Below.refl _ _).alloc (Nat.le_refl _) _).drew | exact KS.out _ (((Below.refl _ _).alloc (Nat.le_refl _) _).alloc (by simp) _).drew | exact KS.out _ GB.out | exact KS.out _ ((GB.out.setCell (Nat.le_succ _) _).setCell (Nat.le_succ _) _) | exact KS.out _ ((GB.out.setCell (Nat.le_refl _) _).setCell (Nat.le_refl _) _) | exact KS.out _ (GB.out.setCell (Nat.le_succ _) _) | exact KS.out _ (GB.out.setCell (Nat.le_refl _) _) | exact KS.out _ (GB.out.alloc GB.out.size _) | go_keep)
      (first
      | (refine step_app_rd _ rfl (.tmp 57) (.tmp 59) _ rfl w4.heap.size 60 i0 (.agg noBk.arr) 27 i0.bytes Tryz.underlying22 HI0.out HZ0.out HZ1.out rfl HZ2.out (Nat.succ_pos _) (.slice (some ⟨w4.heap.size, 0, none⟩) 0 0) 0 [] (by kernel_rfl) OA.out w4.heap.size A n c (cellsBk l) (by kernel_rfl) RA.out ON.out H63.out HBY.out SA1.out ?_; intro v1 w1 hown1 hg1 hat1; have GB := Lib.hid (GA.out _ hg1); have TA := Lib.hid hat1; have G1 := Lib.hid hg1; simp only [Nat.zero_add, List.nil_append] at hown1; obtain ⟨A', c', hv1, _, _⟩ := own_form hown1; subst hv1; have O1 := Lib.hid hown1; clear hown1 hg1 hat1)
      | (refine step_app_rd _ rfl (.tmp 57) (.tmp 59) _ rfl w4.heap.size 60 i0 (.agg noBk.arr) 27 i0.bytes Tryz.underlying22 HI0.out HZ0.out HZ1.out rfl HZ2.out (Nat.succ_pos _) (.slice (some ⟨w4.heap.size + 1, 0, none⟩) 0 0) 0 [] (by kernel_rfl) (OB.out _) w4.heap.size A n c (cellsBk l) (by kernel_rfl) (RB.out _ _) ON.out H63.out HBY.out (SB1.out _ _) ?_; intro v1 w1 hown1 hg1 hat1; have GB := Lib.hid (GBB.out _ _ _ _ (Nat.le_succ _) hg1); have TB := Lib.hid (NBB.out _ _ _ hat1); have BX := Lib.hid (BB.out _ _ hg1); obtain ⟨y1, y2, y3, y4⟩ := BX.out.facts; have ly := BX.out.lt; have G1 := Lib.hid hg1; simp only [Nat.zero_add, List.nil_append] at hown1; obtain ⟨A', c', hv1, _, _⟩ := own_form hown1; subst hv1; have O1 := Lib.hid hown1; clear hown1 hg1 hat1)
      | (refine step_app_rd _ rfl (.tmp 57) (.tmp 59) _ rfl w4.heap.size 60 i0 (.agg noBk.arr) 27 i0.bytes Tryz.underlying22 HI0.out HZ0.out HZ1.out rfl HZ2.out (Nat.succ_pos _) (.slice (some ⟨w4.heap.size, 0, none⟩) 0 0) 0 [] (by kernel_rfl) (OC.out _) w4.heap.size A n c (cellsBk l) (by kernel_rfl) (RB.out _ _) ON.out H63.out HBY.out (SB1.out _ _) ?_; intro v1 w1 hown1 hg1 hat1; have GB := Lib.hid (GBB.out _ _ _ _ (Nat.le_refl _) hg1); have TC := Lib.hid (NBC.out _ _ _ hat1); have BX := Lib.hid (BC.out _ _ hg1); obtain ⟨y1, y2, y3, y4⟩ := BX.out.facts; have ly := BX.out.lt; have G1 := Lib.hid hg1; simp only [Nat.zero_add, List.nil_append] at hown1; obtain ⟨A', c', hv1, _, _⟩ := own_form hown1; subst hv1; have O1 := Lib.hid hown1; clear hown1 hg1 hat1))
    all_goals
      go_wp2_with fail
      go_meet
      case rel =>
        first
        | exact ⟨_, _, _, rfl, Box.new _ _ _, GB.out.size, fun e => absurd (O1.out.lt _ e).2 (Nat.lt_irrefl _), own_alloc O1.out _, GB.out.alloc GB.out.size _⟩
        | exact ⟨_, _, _, rfl, (BX.out.set_same 0 _).set_same 1 _, Nat.le_refl _, TB.out, own_set_ne (own_set_ne O1.out TB.out _) TB.out _, (GB.out.setCell (Nat.le_refl _) _).setCell (Nat.le_refl _) _⟩
        | exact ⟨_, _, _, rfl, (BX.out.set_same 0 _).set_same 1 _, Nat.le_succ _, TC.out, own_set_ne (own_set_ne O1.out TC.out _) TC.out _, (GB.out.setCell (Nat.le_succ _) _).setCell (Nat.le_succ _) _⟩
  case rest =>
    obtain ⟨bb, A', c', rfl, hbx, hbb, hne, hown, hb⟩ := hcut
    have szc := hb.size
    have lbb := hbx.lt
    have HCC := Lib.hid hb
    have HBC := Lib.hid (below2 HB4'.out hb)
    have PC := Lib.hid (P9.out.go hb)
    have QC := Lib.hid (Q9.out.go hb)
    have YC := Lib.hid (Y9.out.go hb)
    have BC := Lib.hid hbx
    have OC := Lib.hid hown
    have LC := Lib.hid hown.lt
    have O7C := Lib.hid (own_below O9.out hb)
    have TC := Lib.hid (T9.out.to hb (by omega))
    have RBC := Lib.hid (RB9.out.to hb (by omega))
    have RC := Lib.hid (show RdR Bk.arr 27 wc wc.heap.size A' n l from RdR.of_own HN0.out hown)
    have SBC := Lib.hid (HST.out.go HBC.out).b
    have FS := Lib.hid HST.out.fine
    have KV := Lib.hid (show pRight x.ver s.bks = true by
      rw [HST.out.ver]
      have := HK2.out
      unfold okSta at this
      simp only [Bool.and_eq_true] at this
      exact this.1.1.1.1.1.1.1)
    have NB := Lib.hid HST.out.nb
    have HNE := Lib.hid hne
    have DE := Lib.hid (delta_any v x.ver l s.bks A' x.b.A n x.b.n c' x.b.c wc RC.out SBC.out HF.out FS.out (by omega) NB.out (some (deltaB v x.ver l s.bks)) (by unfold deltaV; rw [HK4.out, KV.out]; rfl))
    have DS := Lib.hid (deltaB_small HK4.out KV.out)
    obtain ⟨D, hD⟩ : ∃ D, D = deltaB v x.ver l s.bks := ⟨_, rfl⟩
    rw [← hD] at DE DS
    have HD := Lib.hid hD
    clear hb hbx hown hne hD P9 Q9 Y9 T9 O9 RB9 Rp H84 H74 H64 P6 Q6 R6 HB7 HW4 HI0 HZ0 HZ1 HZ2 HBY H63 PUT G1 F1 F3
    obtain ⟨xp1, xp2, xp3, xp4⟩ := PC.out.facts
    have lp := PC.out.lt
    obtain ⟨yp1, yp2, yp3, yp4⟩ := BC.out.facts
    go_wp2_with fail
    (with_reducible refine DE.out.mono ?_)
    rintro e wd ⟨hbd, Ad, nd, cd, rfl, hnd, hod⟩
    have szd := hbd.size
    have PD := Lib.hid (PC.out.go hbd)
    have QD := Lib.hid (QC.out.go hbd)
    have YD := Lib.hid (YC.out.go hbd)
    have BD := Lib.hid (BC.out.go hbd)
    have OD := Lib.hid (own_below OC.out hbd)
    have O7D := Lib.hid (own_below O7C.out hbd)
    have TD := Lib.hid (TC.out.to hbd (by omega))
    have RBD := Lib.hid (RBC.out.to hbd (by omega))
    have RD := Lib.hid (RC.out.go hbd)
    have HBD := Lib.hid (below2 HBC.out hbd)
    have RdD := Lib.hid (show RdB wd wd.heap.size Ad nd D by rw [hnd] at hod ⊢; exact RdB.of_own hod)
    have HND := Lib.hid hnd
    have LD := Lib.hid hod.lt
    have hnd1 : nd ≤ 1000000000 := by rw [hnd]; exact DS.out
    clear hbd hod hnd xp1 xp2 xp3 xp4 lp yp1 yp2 yp3 yp4 PC QC YC BC TC RBC O7C DE
    have L0 := Lib.hid (Ly.lit0 wd)
    have R7 := Lib.hid (RdD.out.go ((Below.refl wd.heap.size wd).alloc (Nat.le_refl _) (.cells #[] 5)))
    have HL1 := Lib.hid (show ([] : List UInt8).length + nd ≤ 1000000000 by simp; omega)
    go_wp2_with (at_builtin; refine wpList_ow rfl (.tmp 69) (.tmp 70) rfl rfl L0.out.o rfl R7.out HL1.out ?_; intro Ax nx cx wx h2 h3; have LX := Lib.hid (L0.out.step (by exact h3)); have BX0 := Lib.hid (BD.out.go (show Below wd.heap.size wd wx from LX.out.o.bel)); obtain ⟨yp1, yp2, yp3, yp4⟩ := BX0.out.facts; have lyp := BX0.out.lt; clear h2 h3)
    rw [List.nil_append] at LX
    have HBX := Lib.hid (show Below wd.heap.size wd wx from LX.out.o.bel)
    have szx := HBX.out.size
    have PX := Lib.hid (PD.out.go HBX.out)
    have QX := Lib.hid (QD.out.go HBX.out)
    have YX := Lib.hid (YD.out.go HBX.out)
    have BX := Lib.hid (BD.out.go HBX.out)
    have OX := Lib.hid (own_below OD.out HBX.out)
    have O7X := Lib.hid (own_below O7D.out HBX.out)
    have TX := Lib.hid (TD.out.to HBX.out (by omega))
    have RBX := Lib.hid (RBD.out.to HBX.out (by omega))
    have RX := Lib.hid (RD.out.go HBX.out)
    have HBWX := Lib.hid (below2 HBD.out HBX.out)
    have RdX := Lib.hid (RdD.out.to HBX.out (Nat.le_refl _))
    have OXX := Lib.hid (show wx.ownsRow wd.heap.size 5 1 (.slice Ax nx cx) nx (D.map bv) by have h := LX.out.o.own; rw [← LX.out.len] at h; exact h)
    have HNX := Lib.hid LX.out.len
    have LOX := Lib.hid OXX.out.lt
    have hnx1 : nx ≤ 1000000000 := by rw [HNX.out]; exact DS.out
    have AP := Lib.hid (apply_yes v l D A' Ax n nx c' cx wx RX.out HF.out (by omega) LX.out.rd hnx1 HK4.out)
    rw [show applyV v l D = some (x.ver, s.bks) by rw [HD.out]; exact applyV_delta HK4.out KV.out] at AP
    clear PD QD YD BD OD O7D TD RBD RD HBD RdD LX L0 R7 HL1
    obtain ⟨mb, hmb⟩ : ∃ m, s.bks.length = m := ⟨_, rfl⟩
    have HMB := Lib.hid hmb
    clear hmb
    (with_reducible refine AP.out.mono ?_)
    rintro e wq ⟨hbq, Aq, cq, rfl, hoq⟩
    rw [HMB.out] at hoq
    rw [HMB.out]
    have szq := hbq.size
    obtain ⟨we, hwe⟩ : ∃ we, we = wq.alloc (.cells #[.int .i64 x.ver, .slice Aq mb cq] 24) := ⟨_, rfl⟩
    have HQE := Lib.hid (show Below wq.heap.size wq we by rw [hwe]; exact (Below.refl _ _).alloc (Nat.le_refl _) _)
    have ZE := Lib.hid (show Box we wq.heap.size #[.int .i64 x.ver, .slice Aq mb cq] by rw [hwe]; exact Box.new _ _ _)
    have HXE := Lib.hid (below2 hbq HQE.out)
    have sze := HQE.out.size
    have PE := Lib.hid (PX.out.go HXE.out)
    have QE := Lib.hid (QX.out.go HXE.out)
    have YE := Lib.hid (YX.out.go HXE.out)
    have BE := Lib.hid (BX.out.go HXE.out)
    have OE := Lib.hid (own_below OX.out HXE.out)
    have O7E := Lib.hid (own_below O7X.out HXE.out)
    have OXE := Lib.hid (own_below OXX.out HXE.out)
    have TE := Lib.hid (TX.out.to HXE.out (by omega))
    have RBE := Lib.hid (RBX.out.to HXE.out (by omega))
    have RE := Lib.hid (RX.out.go HXE.out)
    have HBE := Lib.hid (below2 HBWX.out HXE.out)
    have RdE := Lib.hid (RdX.out.to HXE.out (by omega))
    have RqE := Lib.hid (show RdR Bk.arr 27 we wq.heap.size Aq mb s.bks from (RdR.of_own HMB.out hoq).to HQE.out (Nat.le_refl _))
    have LQ := Lib.hid hoq.lt
    have HWE := Lib.hid hwe
    clear hbq hoq hwe yp1 yp2 yp3 yp4 lyp PX QX YX BX OX O7X OXX TX RBX RX HBWX RdX AP
    go_upto_region 10 with fail
    rw [← HWE.out]
    have SMP := Lib.hid (rSame_any l l HF.out HF.out v v A' A n n c' c we RE.out (HR.out.go HBE.out) (by omega) (by omega) true (twins_self v l))
    obtain ⟨xp1, xp2, xp3, xp4⟩ := QE.out.facts
    have lp := QE.out.lt
    obtain ⟨yp1, yp2, yp3, yp4⟩ := BE.out.facts
    have lyp := BE.out.lt
    go_wp2_with fail
    (with_reducible refine SMP.out.mono ?_)
    rintro e wf ⟨rfl, hbf⟩
    have szf := hbf.size
    have PF := Lib.hid (PE.out.go hbf)
    have QF := Lib.hid (QE.out.go hbf)
    have YF := Lib.hid (YE.out.go hbf)
    have BF := Lib.hid (BE.out.go hbf)
    have ZF := Lib.hid (ZE.out.go hbf)
    have OF := Lib.hid (own_below OE.out hbf)
    have O7F := Lib.hid (own_below O7E.out hbf)
    have OXF := Lib.hid (own_below OXE.out hbf)
    have TF := Lib.hid (TE.out.to hbf (by omega))
    have RBF := Lib.hid (RBE.out.to hbf (by omega))
    have RdF := Lib.hid (RdE.out.to hbf (by omega))
    have RqF := Lib.hid (RqE.out.to hbf (by omega))
    have HBF := Lib.hid (below2 HBE.out hbf)
    have t1 := (text_later (show RdB wf wf.heap.size A7 n7 (staB s) by have h := O7F.out; rw [HN7.out] at h ⊢; exact RdB.of_own h) c7).2
    have t2 := (text_later (show RdB wf wf.heap.size A6 n6 (staB s) from RBF.out.more (by omega)) c6).2
    have t3 := (text_later (show RdB wf wf.heap.size Ax nx D by have h := OXF.out; rw [HNX.out] at h ⊢; exact RdB.of_own h) cx).2
    have t4 := (text_later (show RdB wf wf.heap.size Ad nd D from RdF.out.more (by omega)) cd).2
    have L7F := Lib.hid O7F.out.lt
    have LXF := Lib.hid OXF.out.lt
    have CL1 := Lib.hid (ClrL.of_own O7F.out HN7.out.symm)
    have CL2 := Lib.hid (clr_of OF.out)
    have CL3 := Lib.hid (ClrL.of_own OXF.out HNX.out.symm)
    have PX1 := Lib.hid (fun h : 0 < n7 => own_addr' O7F.out h)
    have PX3 := Lib.hid (fun h : 0 < nx => own_addr' OXF.out h)
    clear PE QE YE BE OE O7E OXE TE RBE RE HBE RdE RqE HXE HQE ZE SMP OC HCC SBC xp1 xp2 xp3 xp4 lp yp1 yp2 yp3 yp4 lyp hbf F67
    have hn7b : n7 ≤ 1000000000 := by have := HN7.out; have := staB_small HK2.out; omega
    have K6 := Lib.hid LO7.out
    have KC := Lib.hid LC.out
    have KX := Lib.hid LOX.out
    go_wp2_with fail
    go_loopw [16] (fun s16 wr => ∃ i : Nat, i ≤ n7 ∧ s16 = .int .i64 i ∧ wf.grownBy wr (Value.slice A7 n7 c7).ownBlock ∧ ClrL wr n7 i A7 (fun j => bv ((staB s).getD j 0))) (fun s16 _ => n7 - (intOf s16).toNat)
    case atStart => exact ⟨0, by omega, rfl, World.grownBy.refl _ _, CL1.out⟩
    case round =>
      obtain ⟨i, hin, rfl, hgr, hcl⟩ := hrel
      have HG1 := Lib.hid hgr
      have HL := Lib.hid hcl
      clear hgr hcl
      by_cases hlt : i < n7
      · have hi : (i : Int) < n7 := by omega
        obtain ⟨g, hg⟩ := PX1.out (by omega)
        obtain ⟨q1, q2⟩ := HL.out g hg i (Nat.le_refl _) hlt
        have HGG := Lib.hid hg
        unfold bv at q1
        subst hg
        go_wp2
        go_roundw
        case rel => exact ⟨i + 1, by omega, by go_num, setCell_grown (g := g) HG1.out ⟨g, i, none⟩ rfl _, fun g' hg' => by injection hg' with hg'; injection hg' with hg'; subst hg'; exact (HL.out g rfl).next _⟩
        case measure => simp [intOf] <;> omega
      · obtain rfl : n7 = i := by omega
        have hd : decide ((n7 : Int) < n7) = false := by simp
        obtain ⟨wA, hwA⟩ : ∃ wA, wA = wr := ⟨_, rfl⟩
        rw [← hwA] at HG1 ⊢
        clear HL PX1 CL1 hwA
        have szA := HG1.out.size
        have BA := Lib.hid (BF.out.grown HG1.out (fun e => by have := K6.out bb e.symm; omega))
        have CL2A := Lib.hid (CL2.out.frm (Frm.obs HG1.out) (fun a ha hlt hm => by
          have h1 := K6.out a.block (mem_obs.1 hm)
          have h2 := (KC.out a.block (by rw [ha]; rfl)).1
          omega))
        have CL3A := Lib.hid (CL3.out.frm (Frm.obs HG1.out) (fun a ha hlt hm => by
          have h1 := K6.out a.block (mem_obs.1 hm)
          have h2 := (KX.out a.block (by rw [ha]; rfl)).1
          omega))
        obtain ⟨yp1, yp2, yp3, yp4⟩ := BA.out.facts
        have lyp := BA.out.lt
        go_wp2_with fail
        clear yp1 yp2 yp3 yp4 lyp
        go_loopw [17] (fun s17 wr => ∃ j : Nat, j ≤ n ∧ s17 = .int .i64 j ∧ wA.grownBy wr (Value.slice A' n c').ownBlock ∧ Clr wr w4.heap.size n A') (fun s17 _ => n - (intOf s17).toNat)
        case atStart => exact ⟨0, by omega, rfl, World.grownBy.refl _ _, CL2A.out⟩
        case round =>
          obtain ⟨j, hjn, rfl, hgr, hclr⟩ := hrel
          have bw := BA.out.grown hgr (fun e => HNE.out e.symm)
          have HG2 := Lib.hid hgr
          by_cases hlt : j < n
          · have hj : (j : Int) < n := by omega
            obtain ⟨g, hgA, hg4, hth, hcl2⟩ := clr_step hclr hlt noBk
            have HTH := Lib.hid hth
            have HCL2 := Lib.hid hcl2
            obtain ⟨xw1, xw2, xw3, xw4⟩ := bw.facts
            have lw := bw.lt
            have hgr' : wA.grownBy wr (some g) := by rw [hgA] at hgr; exact hgr
            have GR := Lib.hid (grown_setBk (g := g) hgr' (j * 27) noBk)
            subst hgA
            clear bw hcl2 hclr hgr hgr'
            go_wp2_with fail
            go_roundw
            case rel => exact ⟨j + 1, by omega, by go_num, GR.out, HCL2.out⟩
            case measure => simp [intOf] <;> omega
          · obtain rfl : n = j := by omega
            have hd2 : decide ((n : Int) < n) = false := by simp
            obtain ⟨wB, hwB⟩ : ∃ wB, wB = wr := ⟨_, rfl⟩
            rw [← hwB] at HG2 bw ⊢
            have szB := HG2.out.size
            have CL3B := Lib.hid (CL3A.out.frm (Frm.obs HG2.out) (fun a ha hlt hm => by
              have h1 := KC.out a.block (mem_obs.1 hm)
              have h2 := (KX.out a.block (by rw [ha]; rfl)).1
              omega))
            obtain ⟨yp1, yp2, yp3, yp4⟩ := bw.facts
            have lyp := bw.lt
            clear bw hclr hgr CL2A CL3A hwB
            go_wp2_with fail
            clear yp1 yp2 yp3 yp4 lyp
            go_loopw [18] (fun s18 wr => ∃ t : Nat, t ≤ nx ∧ s18 = .int .i64 t ∧ wB.grownBy wr (Value.slice Ax nx cx).ownBlock ∧ ClrL wr nx t Ax (fun j => bv (D.getD j 0))) (fun s18 _ => nx - (intOf s18).toNat)
            case atStart => exact ⟨0, by omega, rfl, World.grownBy.refl _ _, CL3B.out⟩
            case round =>
              obtain ⟨t, htn, rfl, hgr, hcl⟩ := hrel
              have HG3 := Lib.hid hgr
              have HL := Lib.hid hcl
              clear hgr hcl
              by_cases hlt : t < nx
              · have hi : (t : Int) < nx := by omega
                obtain ⟨g, hg⟩ := PX3.out (by omega)
                obtain ⟨q1, q2⟩ := HL.out g hg t (Nat.le_refl _) hlt
                have HGG := Lib.hid hg
                unfold bv at q1
                subst hg
                go_wp2
                go_roundw
                case rel => exact ⟨t + 1, by omega, by go_num, setCell_grown (g := g) HG3.out ⟨g, t, none⟩ rfl _, fun g' hg' => by injection hg' with hg'; injection hg' with hg'; subst hg'; exact (HL.out g rfl).next _⟩
                case measure => simp [intOf] <;> omega
              · obtain rfl : nx = t := by omega
                have hd3 : decide ((nx : Int) < nx) = false := by simp
                obtain ⟨wC, hwC⟩ : ∃ wC, wC = wr := ⟨_, rfl⟩
                rw [← hwC] at HG3 ⊢
                clear HL PX3 CL3 CL3B hwC
                have FF := Lib.hid (show Frm (obs (.slice A7 n7 c7) ++ (obs (.slice A' n c') ++ obs (.slice Ax nx cx))) wf wC from
                  (((Frm.obs HG1.out).more (fun g hg => List.mem_append_left _ hg)).trans' ((Frm.obs HG2.out).more (fun g hg => List.mem_append_right _ (List.mem_append_left _ hg)))).trans' ((Frm.obs HG3.out).more (fun g hg => List.mem_append_right _ (List.mem_append_right _ hg))))
                have FM := Lib.hid (show ∀ b ∈ obs (.slice A7 n7 c7) ++ (obs (.slice A' n c') ++ obs (.slice Ax nx cx)), (w6.heap.size ≤ b ∧ b < w7.heap.size) ∨ (w4.heap.size ≤ b ∧ b < wc.heap.size) ∨ (wd.heap.size ≤ b ∧ b < wx.heap.size) from fun b hb => by
                  simp only [List.mem_append, mem_obs] at hb
                  rcases hb with h | h | h
                  · exact .inl (K6.out b h)
                  · exact .inr (.inl (KC.out b h))
                  · exact .inr (.inr (KX.out b h)))
                clear HG1 HG2 HG3
                have szC := FF.out.size
                have PG := Lib.hid (FF.out.box PF.out (fun hm => by have := FM.out _ hm; omega))
                have QG := Lib.hid (FF.out.box QF.out (fun hm => by have := FM.out _ hm; omega))
                have YG := Lib.hid (FF.out.box YF.out (fun hm => by have := FM.out _ hm; omega))
                have ZG := Lib.hid (FF.out.box ZF.out (fun hm => by have := FM.out _ hm; omega))
                have HBG := Lib.hid (HBF.out.trans (FF.out.to_below (fun b hb => by have := FM.out _ hb; omega) HBF.out.size))
                have TG := Lib.hid ((TF.out.frm (by omega) FF.out (fun a ha _ hm => by have := YA.out.1 a ha; have := FM.out _ hm; omega) (fun a ha _ hm => by have := YA.out.2.1 a ha; have := FM.out _ hm; omega) (fun a ha _ hm => by have := YA.out.2.2 a ha; have := FM.out _ hm; omega)).more (show w8.heap.size ≤ wC.heap.size by omega))
                have RbG := Lib.hid ((RBF.out.frm (by omega) FF.out (fun a ha _ hm => by have := FM.out _ hm; omega)).more (show w6.heap.size ≤ wC.heap.size by omega))
                have RdG := Lib.hid ((RdF.out.frm (by omega) FF.out (fun a ha _ hm => by have := LD.out a.block (by rw [ha]; rfl); have := FM.out _ hm; omega)).more (show wd.heap.size ≤ wC.heap.size by omega))
                have RqG := Lib.hid ((RqF.out.frm (by omega) FF.out (fun a ha _ hm => by have := LQ.out a.block (by rw [ha]; rfl); have := FM.out _ hm; omega)).more (show wq.heap.size ≤ wC.heap.size by omega))
                have HMN := Lib.hid (show mb ≤ 4611686018427387903 by have h1 := HST.out.b.1; have h2 := NB.out; have h3 := HMB.out; omega)
                have S23 := Lib.hid (fun W' (hb : Below wC.heap.size wC W') => sameState_any y x s s W' (TG.out.go hb) (HST.out.go (below2 HBG.out hb)) true (same_self_st s))
                have S18 := Lib.hid (fun W' (hb : Below wC.heap.size wC W') => rSame_any s.bks s.bks FS.out FS.out x.ver x.ver Aq x.b.A mb x.b.n cq x.b.c W' (RqG.out.go hb) (HST.out.go (below2 HBG.out hb)).b HMN.out NB.out true (twins_self x.ver s.bks))
                have PUR := Lib.hid (fun W' (hb : Below wC.heap.size wC W') => rPut_any x s W' (HST.out.go (below2 HBG.out hb)) HK2.out)
                have DER := Lib.hid (fun W' (hb : Below wC.heap.size wC W') => show Calls Tryz.prog 23 #[.agg #[.int .i64 v, .slice A n c], .agg #[.int .i64 x.ver, .slice x.b.A x.b.n x.b.c]] W' (NewP W' D) by rw [HD.out]; exact rDelta_any v x.ver l s.bks A x.b.A n x.b.n c x.b.c W' (HR.out.go (below2 HBG.out hb)) (HST.out.go (below2 HBG.out hb)).b HF.out FS.out HK4.out KV.out)
                have LSH := Lib.hid (fun (W' : World) (q : Nat) (z : Sh) (h : Box W' q z.arr) => show (loadSh (.pointer (some ⟨q, 0, none⟩))).run Tryz.prog W' = .ok (.agg z.arr) W' by
                  obtain ⟨f1, f2, f3, f4⟩ := h.facts
                  have h3 : Has W' q 0 17 := by rw [f3 0 17 (by rw [Sh.csize]; omega)]; trivial
                  rw [load_sh W' q 0 h3, f4 0 17 (by rw [Sh.csize]; omega), Nat.zero_add, Sh.extract_all])
                have KS := Lib.hid (show ∀ W', Below wC.heap.size wC W' → (loadSh (.pointer (some ⟨W.heap.size, 0, none⟩))).run Tryz.prog W' = .ok (.agg x.arr) W' ∧ (loadSh (.pointer (some ⟨w8.heap.size, 0, none⟩))).run Tryz.prog W' = .ok (.agg y.arr) W' ∧ W'.cell? ⟨wq.heap.size, 0, none⟩ = some (.int .i64 x.ver) ∧ W'.cell? ⟨wq.heap.size, 1, none⟩ = some (.slice Aq mb cq) ∧ W'.cell? ⟨W.heap.size + 1, 0, none⟩ = some (.int .i64 v) ∧ W'.cell? ⟨W.heap.size + 1, 1, none⟩ = some (.slice A n c) ∧ W'.cell? ⟨W.heap.size, 0, none⟩ = some (.int .i64 x.ver) ∧ W'.cell? ⟨W.heap.size, 1, none⟩ = some (.slice x.b.A x.b.n x.b.c) ∧ (convert 32 9 (.slice A6 n6 c6)).run Tryz.prog W' = .ok (.string (textOf (staB s))) W' ∧ (convert 32 9 (.slice Ad nd cd)).run Tryz.prog W' = .ok (.string (textOf D)) W' from fun W' hW =>
                  ⟨LSH.out W' _ x (PG.out.go hW), LSH.out W' _ y (YG.out.go hW), by rw [(ZG.out.go hW).facts.1]; rfl, by rw [(ZG.out.go hW).facts.1]; rfl, by rw [(QG.out.go hW).facts.1]; rfl, by rw [(QG.out.go hW).facts.1]; rfl, by rw [(PG.out.go hW).facts.1]; exact Sh.arr_0 x, by rw [(PG.out.go hW).facts.1]; exact Sh.arr_1 x, (text_later RbG.out c6).1 W' hW, (text_later RdG.out cd).1 W' hW⟩)
                clear t1 t2 t3 t4 PF QF YF ZF TF RBF RdF RqF OF O7F OXF BF BA K6 KC KX
                go_wp2_with fail
                have BZ := Lib.hid (Below.refl wC.heap.size wC).drew
                go_region_held_law (fun W' => (loadSh (.pointer (some ⟨W.heap.size, 0, none⟩))).run Tryz.prog W' = .ok (.agg x.arr) W' ∧ (loadSh (.pointer (some ⟨w8.heap.size, 0, none⟩))).run Tryz.prog W' = .ok (.agg y.arr) W' ∧ W'.cell? ⟨wq.heap.size, 0, none⟩ = some (.int .i64 x.ver) ∧ W'.cell? ⟨wq.heap.size, 1, none⟩ = some (.slice Aq mb cq) ∧ W'.cell? ⟨W.heap.size + 1, 0, none⟩ = some (.int .i64 v) ∧ W'.cell? ⟨W.heap.size + 1, 1, none⟩ = some (.slice A n c) ∧ W'.cell? ⟨W.heap.size, 0, none⟩ = some (.int .i64 x.ver) ∧ W'.cell? ⟨W.heap.size, 1, none⟩ = some (.slice x.b.A x.b.n x.b.c) ∧ (convert 32 9 (.slice A6 n6 c6)).run Tryz.prog W' = .ok (.string (textOf (staB s))) W' ∧ (convert 32 9 (.slice Ad nd cd)).run Tryz.prog W' = .ok (.string (textOf D)) W')
                  (first | exact KS.out _ BZ.out | exact KS.out _ Ba.out | exact KS.out _ Bb.out | exact KS.out _ Bc.out | exact KS.out _ Bd.out | go_keep)
                  (first | (go_at_call 18; (with_reducible refine (S23.out _ BZ.out).mono ?_); rintro e wa ⟨rfl, hb⟩; have Ba := Lib.hid (below2 BZ.out hb); clear hb) | (go_at_call 24; (with_reducible refine (S18.out _ Ba.out).mono ?_); rintro e wb ⟨rfl, hb⟩; have Bb := Lib.hid (below2 Ba.out hb); clear hb) | (go_at_call 15; (with_reducible refine (PUR.out _ Bb.out).mono ?_); rintro e wp ⟨Ap, np, cp, rfl, hnp, hop, hb⟩; have Bc := Lib.hid (below2 Bb.out hb); have t5 := (text_later (show RdB wp wp.heap.size Ap np (staB s) by rw [hnp] at hop ⊢; exact RdB.of_own hop) cp).2; clear hnp hop hb) | (go_at_call 23; (with_reducible refine (DER.out _ Bc.out).mono ?_); rintro e wr2 ⟨Ar, nr, cr, rfl, hnr, hor, hb⟩; have Bd := Lib.hid (below2 Bc.out hb); have t6 := (text_later (show RdB wr2 wr2.heap.size Ar nr D by rw [hnr] at hor ⊢; exact RdB.of_own hor) cr).2; clear hnr hor hb))
                all_goals
                  go_wp2
                  go_ret
                  exact ⟨rfl, below2 HBG.out Bd.out⟩

set_option maxRecDepth 100000 in
theorem snapKeeps_lifted (os : Os) (started : os.Started) (H : Type) (enc : TypeId × Value → H) :
    ReturnsInHanded {} Tryz.checked os 8 .any (Rows.snapKeepsSpec.pre6 enc Tryz.prog Tryz.f8 Rows.snapKeepsRow.domain false) (Rows.snapKeepsSpec.post enc Tryz.prog Tryz.f8 false true false false) := by
  refine returnsInHanded_of_change (C := Tryz.checked) own started (by kernel_rfl) Tryz.func8
    (ChangeSpec.witness6 (enc := enc) (C := Tryz.checked) false ⟨#[], #[.agg #[.int .i64 0, .slice none 0 0, .slice none 0 0, .slice none 0 0, .int .i64 0, .int .i64 0, .int .i64 0, .int .i64 0, .int .i64 0, .int .i64 0, .int .i64 0, .int .i64 0, .int .i64 0, .int .i64 0, .int .i64 0, .int .i64 0, .int .i64 0], .agg #[.int .i64 0, .slice none 0 0]], []⟩ 8 (by kernel_rfl) (by kernel_rfl) (by kernel_rfl) (by kernel_rfl)) ?_
  intro W base args ds gs before hval0 hW hcnd _
  have hval : ∀ (j : Nat) t v, Tryz.f8.params[j]? = some t → args[j]? = some v → Value.okWide Tryz.prog W .any base t v := hval0
  have hW' := hW
  obtain ⟨p, q, hA0, hV, rfl, hfz, hnd⟩ := hW
  have hA : DataW.TrodAll enc Tryz.prog W 0 (fun _ => true) true Tryz.f8.params.toList args.toList ds p := hA0
  rw [Tryz.params8] at hA hval
  obtain ⟨v0, vs0, d0, ds0, p0, q0, hargs, rfl, rfl, h0, r0⟩ := trodAll_cons hA
  obtain ⟨v1, vs1, d1, ds1, p1, q1, rfl, rfl, rfl, h1, r1⟩ := trodAll_cons r0
  obtain ⟨rfl, rfl, rfl⟩ := trodAll_nil r1
  obtain rfl : args = #[v0, v1] := by cases args; simp_all
  obtain ⟨Xs, s, rfl, hs⟩ := open_st (hval 0 29 v0 rfl rfl) h0
  obtain ⟨zp, Ap, np, cp, lp, rfl, hzp, hRp, hgp, hmp⟩ := open_pool (hval 1 24 v1 rfl rfl) h1
  clear hA0 hval0
  refine (snapKeeps_walk Xs s zp Ap np cp lp W hs hRp hgp hmp).mono fun e W' ⟨he, hb⟩ => ?_
  subst he
  exact ⟨_, rfl, law_post laidOut rfl (by kernel_rfl) 4 Tryz.underlying4 rfl hW' rfl hb⟩
theorem snapKeeps_holds : Rows.SnapKeepsSaid :=
  OpenClaim.holds_of_wide 8 Tryz.f8 rfl rfl rfl rfl rfl rfl rfl ⟨rfl, rfl, rfl, rfl, rfl⟩ rfl rfl rfl rfl rfl (by kernel_rfl) Tryz.func8 (by kernel_rfl)
    (of_decide_eq_true (by kernel_rfl)) (by unfold Func.isWrapper; first | (rw [if_pos (by decide +kernel)]; kernel_rfl) | (rw [if_neg (by decide +kernel)]; exact ⟨rfl, rfl⟩))
    (fun os started H enc _ => snapKeeps_lifted os started H enc)
#print axioms snapKeeps_holds
end Go.Proofs.YtmpemeemlhmaaaaGreat
