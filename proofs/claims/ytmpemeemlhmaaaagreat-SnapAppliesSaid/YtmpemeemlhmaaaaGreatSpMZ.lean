/- SnapApplies: of whatever pool and bytes: the pool to which they are the delta, or that there is none. For every input, no condition. -/
import Derived.Test.YtmpemeemlhmaaaaGreatQ46
import Derived.Test.YtmpemeemlhmaaaaGreatQ41
set_option linter.unusedSimpArgs false
set_option linter.unusedVariables false
set_option maxRecDepth 100000
namespace Go.Proofs.YtmpemeemlhmaaaaGreat
open Go.ChangeShapes Go.WideShapes Go.ChangeAt Go.RowKit

set_option maxRecDepth 100000 in
set_option maxHeartbeats 8000000 in
theorem snapApplies_walk (v : Int) (A : Option Addr) (n c : Nat) (l : List Bk) (D : Option Addr) (m cd : Nat) (d : List UInt8) (W : World) (hR : RdR Bk.arr 27 W W.heap.size A n l) (hg : ∀ b ∈ l, b.good) (hm : n ≤ 9223372036854775807) (hmc : m ≤ cd) (hcd : cd ≤ 9223372036854775807) (hD : RdB W W.heap.size D m d) :
    Calls Tryz.prog 7 #[.agg #[.int .i64 v, .slice A n c], .slice D m cd] W fun e W' => e = .returned (.bool true) ∧ Below W.heap.size W W' := by
  have HB0 := Lib.hid (show Below W.heap.size W (W.alloc (.cells #[.int .i64 v, .slice A n c] 24)) from (Below.refl W.heap.size W).alloc (Nat.le_refl _) _)
  have P0 := Lib.hid (Box.new W #[.int .i64 v, .slice A n c] 24)
  have HR := Lib.hid hR
  have HD := Lib.hid hD
  have HF := Lib.hid (fun x hx => (hg x hx).1)
  obtain ⟨K1, hK1⟩ : ∃ K, few l = K := ⟨_, rfl⟩
  have F1 := Lib.hid (fun W' (hb : Below W.heap.size W W') => rFew_any l v A n c W' (HR.out.go hb) hm K1 hK1)
  have HK1 := Lib.hid hK1
  have HN0 := Lib.hid hR.1
  clear hR hg hK1 hD
  go_enter Tryz.func7, Tryz.ntmps7
  go_wp2_with fail
  (with_reducible refine (awake_any _).mono ?_)
  rintro e w1 ⟨rfl, hb1⟩
  have HB1 := Lib.hid (below2 HB0.out hb1)
  have P1 := Lib.hid (P0.out.go hb1)
  obtain ⟨x1, x2, x3, x4⟩ := P1.out.facts
  have hl1 := P1.out.lt
  clear hb1
  go_wp2_with fail
  (with_reducible refine (F1.out _ HB1.out).mono ?_)
  rintro e w2 ⟨rfl, hb2⟩
  have HB2 := Lib.hid (below2 HB1.out hb2)
  have P2 := Lib.hid (P1.out.go hb2)
  clear hb2 x1 x2 x3 x4 hl1
  cases K1
  · go_wp2_with fail
    (with_reducible refine (awake_any _).mono ?_)
    rintro e w3 ⟨rfl, hb3⟩
    have HB3 := Lib.hid (below2 HB2.out hb3)
    clear hb3
    go_wp2
    go_ret
    exact ⟨rfl, HB3.out⟩
  have hn40 : n ≤ 40 := by rw [← HN0.out]; exact few_le40 HK1.out
  by_cases hm1 : m ≤ 10000
  rotate_left
  · have hgt : (10000 : Int) < m := by omega
    go_wp2_with fail
    (with_reducible refine (awake_any _).mono ?_)
    rintro e w3 ⟨rfl, hb3⟩
    have HB3 := Lib.hid (below2 HB2.out hb3)
    clear hb3
    go_wp2
    go_ret
    exact ⟨rfl, HB3.out⟩
  have hng : ¬ (10000 : Int) < m := by omega
  obtain ⟨x1, x2, x3, x4⟩ := P2.out.facts
  have hl1 := P2.out.lt
  obtain ⟨K2, hK2⟩ : ∃ K, pRight v l = K := ⟨_, rfl⟩
  have HK2 := Lib.hid hK2
  have SN := Lib.hid (fun W' => rSame_any [] [] (fun x hx => by cases hx) (fun x hx => by cases hx) 0 0 none none 0 0 0 0 W' (RdR.nil W' _) (RdR.nil W' _) (by omega) (by omega) true (twins_self 0 []))
  have G1 := Lib.hid (fun W' (hb : Below W.heap.size W W') => rRightP_any l HF.out v A n c W' (HR.out.go hb) (by omega) K2 HK2.out)
  cases K2
  · have AP := Lib.hid (apply_no v l d A D n m c cd w2 (HR.out.go HB2.out) HF.out (by omega) hK2)
    clear hK2
    go_wp2_with fail
    (with_reducible refine AP.out.mono ?_)
    rintro e w3 ⟨hb3, rfl⟩
    obtain ⟨w4, hw4⟩ : ∃ w4, w4 = w3.alloc (.cells #[.int .i64 0, .slice none 0 0] 24) := ⟨_, rfl⟩
    have HW4 := Lib.hid (show w3.alloc (.cells #[.int .i64 0, .slice none 0 0] 24) = w4 from hw4.symm)
    have F34 := Lib.hid (show Below w3.heap.size w3 w4 by rw [hw4]; exact (Below.refl _ _).alloc (Nat.le_refl _) _)
    have HB4 := Lib.hid (below2 (below2 HB2.out hb3) F34.out)
    have P4 := Lib.hid ((P2.out.go hb3).go F34.out)
    have Q4 := Lib.hid (show Box w4 w3.heap.size #[.int .i64 0, .slice none 0 0] by rw [hw4]; exact Box.new _ _ _)
    clear hb3 hw4 x1 x2 x3 x4 hl1
    obtain ⟨x1, x2, x3, x4⟩ := P4.out.facts
    have hl1 := P4.out.lt
    obtain ⟨y1, y2, y3, y4⟩ := Q4.out.facts
    have hl2 := Q4.out.lt
    go_upto_region 4 with fail
    rw [HW4.out]
    go_wp2_with fail
    (with_reducible refine (G1.out _ HB4.out).mono ?_)
    rintro e w5 ⟨rfl, hb5⟩
    have HB5 := Lib.hid (below2 HB4.out hb5)
    have Q5 := Lib.hid (Q4.out.go hb5)
    clear hb5 x1 x2 x3 x4 hl1 y1 y2 y3 y4 hl2
    obtain ⟨y1, y2, y3, y4⟩ := Q5.out.facts
    have hl2 := Q5.out.lt
    go_wp2_with fail
    (with_reducible refine (SN.out _).mono ?_)
    rintro e w6 ⟨rfl, hb6⟩
    have HB6 := Lib.hid (below2 HB5.out hb6)
    clear hb6
    go_wp2
    go_ret
    exact ⟨rfl, HB6.out⟩
  have AP := Lib.hid (apply_yes v l d A D n m c cd w2 (HR.out.go HB2.out) HF.out (by omega) ((HD.out.to HB2.out (Nat.le_refl _)).more HB2.out.size) (by omega) hK2)
  obtain ⟨r, hr⟩ : ∃ r, applyV v l d = r := ⟨_, rfl⟩
  rw [hr] at AP
  have HRR := Lib.hid hr
  clear hr hK2
  go_wp2_with fail
  (with_reducible refine AP.out.mono ?_)
  rintro e w3 ⟨hb3, h3⟩
  cases r with
  | none =>
    obtain rfl := h3
    obtain ⟨w4, hw4⟩ : ∃ w4, w4 = w3.alloc (.cells #[.int .i64 0, .slice none 0 0] 24) := ⟨_, rfl⟩
    have HW4 := Lib.hid (show w3.alloc (.cells #[.int .i64 0, .slice none 0 0] 24) = w4 from hw4.symm)
    have F34 := Lib.hid (show Below w3.heap.size w3 w4 by rw [hw4]; exact (Below.refl _ _).alloc (Nat.le_refl _) _)
    have HB4 := Lib.hid (below2 (below2 HB2.out hb3) F34.out)
    have P4 := Lib.hid ((P2.out.go hb3).go F34.out)
    have Q4 := Lib.hid (show Box w4 w3.heap.size #[.int .i64 0, .slice none 0 0] by rw [hw4]; exact Box.new _ _ _)
    clear hb3 hw4 x1 x2 x3 x4 hl1
    obtain ⟨x1, x2, x3, x4⟩ := P4.out.facts
    have hl1 := P4.out.lt
    go_upto_region 4 with fail
    rw [HW4.out]
    go_wp2_with fail
    (with_reducible refine (G1.out _ HB4.out).mono ?_)
    rintro e w5 ⟨rfl, hb5⟩
    have HB5 := Lib.hid (below2 HB4.out hb5)
    have Q5 := Lib.hid (Q4.out.go hb5)
    have P5 := Lib.hid (P4.out.go hb5)
    clear hb5 x1 x2 x3 x4 hl1
    obtain ⟨x1, x2, x3, x4⟩ := P5.out.facts
    have hl1 := P5.out.lt
    have RA := Lib.hid (refApply_any v l d A D n m c cd w5 (HR.out.go HB5.out) HK2.out HF.out (by omega) (HD.out.go HB5.out) hmc hcd (by omega))
    rw [HRR.out] at RA
    go_wp2_with fail
    (with_reducible refine RA.out.mono ?_)
    rintro e w6 ⟨hb6, rfl⟩
    have HB6 := Lib.hid ((below2 HB5.out hb6).alloc (below2 HB5.out hb6).size (.cells #[.int .i64 0, .slice none 0 0] 24))
    have Q6 := Lib.hid ((Q5.out.go hb6).alloc (.cells #[.int .i64 0, .slice none 0 0] 24))
    clear hb6 x1 x2 x3 x4 hl1
    obtain ⟨y1, y2, y3, y4⟩ := Q6.out.facts
    have hl2 := Q6.out.lt
    go_wp2_with fail
    (with_reducible refine (SN.out _).mono ?_)
    rintro e w7 ⟨rfl, hb7⟩
    have HB7 := Lib.hid (below2 HB6.out hb7)
    clear hb7 y1 y2 y3 y4 hl2
    go_wp2
    go_ret
    exact ⟨rfl, HB7.out⟩
  | some y =>
    obtain ⟨vq, lq⟩ := y
    obtain ⟨A7, c7, rfl, ho7⟩ := h3
    have IQ := Lib.hid ((applyV_iff HK2.out d vq lq).1 HRR.out)
    have HLE := Lib.hid (pRight_iff.1 IQ.out.1).2.2.1
    have HFQ := Lib.hid (right_fine IQ.out.1)
    obtain ⟨w4, hw4⟩ : ∃ w4, w4 = w3.alloc (.cells #[.int .i64 vq, .slice A7 lq.length c7] 24) := ⟨_, rfl⟩
    have HW4 := Lib.hid (show w3.alloc (.cells #[.int .i64 vq, .slice A7 lq.length c7] 24) = w4 from hw4.symm)
    have F34 := Lib.hid (show Below w3.heap.size w3 w4 by rw [hw4]; exact (Below.refl _ _).alloc (Nat.le_refl _) _)
    have HB4 := Lib.hid (below2 (below2 HB2.out hb3) F34.out)
    have P4 := Lib.hid ((P2.out.go hb3).go F34.out)
    have Q4 := Lib.hid (show Box w4 w3.heap.size #[.int .i64 vq, .slice A7 lq.length c7] by rw [hw4]; exact Box.new _ _ _)
    have S4 := Lib.hid (show RdR Bk.arr 27 w4 w4.heap.size A7 lq.length lq from (RdR.of_own rfl ho7).go F34.out)
    clear hb3 ho7 hw4 x1 x2 x3 x4 hl1
    obtain ⟨gn, hgn⟩ : ∃ k, lq.length = k := ⟨_, rfl⟩
    rw [hgn] at Q4 S4 HW4 HLE
    rw [hgn]
    have hgk : gn ≤ 1024 := HLE.out
    clear hgn
    obtain ⟨x1, x2, x3, x4⟩ := P4.out.facts
    have hl1 := P4.out.lt
    go_upto_region 4 with fail
    rw [HW4.out]
    go_wp2_with fail
    (with_reducible refine (G1.out _ HB4.out).mono ?_)
    rintro e w5 ⟨rfl, hb5⟩
    have HB5 := Lib.hid (below2 HB4.out hb5)
    have Q5 := Lib.hid (Q4.out.go hb5)
    have P5 := Lib.hid (P4.out.go hb5)
    have S5 := Lib.hid (S4.out.go hb5)
    clear hb5 x1 x2 x3 x4 hl1
    obtain ⟨x1, x2, x3, x4⟩ := P5.out.facts
    have hl1 := P5.out.lt
    have RA := Lib.hid (refApply_any v l d A D n m c cd w5 (HR.out.go HB5.out) HK2.out HF.out (by omega) (HD.out.go HB5.out) hmc hcd (by omega))
    rw [HRR.out] at RA
    go_wp2_with fail
    (with_reducible refine RA.out.mono ?_)
    rintro e w6 ⟨hb6, A9, c9, rfl, h9⟩
    obtain ⟨gm, hgm⟩ : ∃ k, lq.length = k := ⟨_, rfl⟩
    rw [hgm] at h9 ⊢
    obtain rfl : gm = gn := by rw [← hgm, S4.out.1]
    clear hgm
    obtain ⟨w7, hw7⟩ : ∃ w7, w7 = w6.alloc (.cells #[.int .i64 vq, .slice A9 gm c9] 24) := ⟨_, rfl⟩
    have HW7 := Lib.hid (show w6.alloc (.cells #[.int .i64 vq, .slice A9 gm c9] 24) = w7 from hw7.symm)
    have F67 := Lib.hid (show Below w6.heap.size w6 w7 by rw [hw7]; exact (Below.refl _ _).alloc (Nat.le_refl _) _)
    have HB7 := Lib.hid (below2 (below2 HB5.out hb6) F67.out)
    have P7 := Lib.hid ((P5.out.go hb6).go F67.out)
    have Q7 := Lib.hid ((Q5.out.go hb6).go F67.out)
    have S7 := Lib.hid ((S5.out.go hb6).go F67.out)
    have T7 := Lib.hid (h9.go F67.out)
    have X7 := Lib.hid (show Box w7 w6.heap.size #[.int .i64 vq, .slice A9 gm c9] by rw [hw7]; exact Box.new _ _ _)
    clear hb6 h9 hw7 x1 x2 x3 x4 hl1
    obtain ⟨x1, x2, x3, x4⟩ := P7.out.facts
    have hl1 := P7.out.lt
    obtain ⟨y1, y2, y3, y4⟩ := Q7.out.facts
    have hl2 := Q7.out.lt
    have DE := Lib.hid (delta_any v vq l lq A A7 n gm c c7 w7 (HR.out.go HB7.out) S7.out HF.out (fun x hx => HFQ.out x hx) (by omega) (by omega) (some d) (by rw [deltaV, HK2.out, IQ.out.1, ← IQ.out.2]; rfl))
    go_upto_region 9 with fail
    rw [HW7.out]
    go_wp2_with fail
    (with_reducible refine DE.out.mono ?_)
    rintro e w8 ⟨hb8, A8, n8, c8, rfl, hn8, ho8⟩
    have HB8 := Lib.hid (below2 HB7.out hb8)
    have R8 := Lib.hid (show RdB w8 w8.heap.size A8 n8 d by rw [hn8] at ho8 ⊢; exact RdB.of_own ho8)
    have Q8 := Lib.hid (Q7.out.go hb8)
    have X8 := Lib.hid (X7.out.go hb8)
    have S8 := Lib.hid (S7.out.go hb8)
    have T8 := Lib.hid (T7.out.go hb8)
    clear hn8 ho8 hb8 x1 x2 x3 x4 hl1 y1 y2 y3 y4 hl2
    have SM := Lib.hid (rSame_any lq lq (fun x hx => HFQ.out x hx) (fun x hx => HFQ.out x hx) vq vq A7 A9 gm gm c7 c9 w8 S8.out T8.out (by omega) (by omega) true (twins_self vq lq))
    obtain ⟨y1, y2, y3, y4⟩ := Q8.out.facts
    have hl2 := Q8.out.lt
    obtain ⟨z1, z2, z3, z4⟩ := X8.out.facts
    have hl3 := X8.out.lt
    go_wp2_with fail
    (with_reducible refine SM.out.mono ?_)
    rintro e w9 ⟨rfl, hb9⟩
    have HB9 := Lib.hid (below2 HB8.out hb9)
    have t1 := (text_later (R8.out.go hb9) c8).2
    have t2 := (text_later (HD.out.go HB9.out) cd).2
    clear hb9 y1 y2 y3 y4 hl2 z1 z2 z3 z4 hl3
    go_wp2
    go_ret
    exact ⟨rfl, HB9.out⟩

set_option maxRecDepth 100000 in
theorem snapApplies_lifted (os : Os) (started : os.Started) (H : Type) (enc : TypeId × Value → H) :
    ReturnsInHanded {} Tryz.checked os 7 .any (Rows.snapAppliesSpec.pre6 enc Tryz.prog Tryz.f7 Rows.snapAppliesRow.domain false) (Rows.snapAppliesSpec.post enc Tryz.prog Tryz.f7 false true false false) := by
  refine returnsInHanded_of_change (C := Tryz.checked) own started (by kernel_rfl) Tryz.func7
    (ChangeSpec.witness6 (enc := enc) (C := Tryz.checked) false ⟨#[], #[.agg #[.int .i64 0, .slice none 0 0], .slice none 0 0], []⟩ 8 (by kernel_rfl) (by kernel_rfl) (by kernel_rfl) (by kernel_rfl)) ?_
  intro W base args ds gs before hval0 hW hcnd _
  have hval : ∀ (j : Nat) t v, Tryz.f7.params[j]? = some t → args[j]? = some v → Value.okWide Tryz.prog W .any base t v := hval0
  have hW' := hW
  obtain ⟨p, q, hA0, hV, rfl, hfz, hnd⟩ := hW
  have hA : DataW.TrodAll enc Tryz.prog W 0 (fun _ => true) true Tryz.f7.params.toList args.toList ds p := hA0
  rw [Tryz.params7] at hA hval
  obtain ⟨v0, vs0, d0, ds0, p0, q0, hargs, rfl, rfl, h0, r0⟩ := trodAll_cons hA
  obtain ⟨v1, vs1, d1, ds1, p1, q1, rfl, rfl, rfl, h1, r1⟩ := trodAll_cons r0
  obtain ⟨rfl, rfl, rfl⟩ := trodAll_nil r1
  obtain rfl : args = #[v0, v1] := by cases args; simp_all
  obtain ⟨zp, Ap, np, cp, lp, rfl, hzp, hRp, hgp, hmp⟩ := open_pool (hval 0 24 v0 rfl rfl) h0
  obtain ⟨Ad, nd, cd, d, rfl, hnd, hcd, hd⟩ := open_bytes Tryz.underlying32 Tryz.underlying5 (by kernel_rfl) (hval 1 32 v1 rfl rfl) h1
  clear hA0 hval0
  refine (snapApplies_walk zp Ap np cp lp Ad nd cd d W hRp hgp hmp hnd hcd hd).mono fun e W' ⟨he, hb⟩ => ?_
  subst he
  exact ⟨_, rfl, law_post laidOut rfl (by kernel_rfl) 4 Tryz.underlying4 rfl hW' rfl hb⟩
theorem snapApplies_holds : Rows.SnapAppliesSaid :=
  OpenClaim.holds_of_wide 7 Tryz.f7 rfl rfl rfl rfl rfl rfl rfl ⟨rfl, rfl, rfl, rfl, rfl⟩ rfl rfl rfl rfl rfl (by kernel_rfl) Tryz.func7 (by kernel_rfl)
    (of_decide_eq_true (by kernel_rfl)) (by unfold Func.isWrapper; first | (rw [if_pos (by decide +kernel)]; kernel_rfl) | (rw [if_neg (by decide +kernel)]; exact ⟨rfl, rfl⟩))
    (fun os started H enc _ => snapApplies_lifted os started H enc)
#print axioms snapApplies_holds
end Go.Proofs.YtmpemeemlhmaaaaGreat
