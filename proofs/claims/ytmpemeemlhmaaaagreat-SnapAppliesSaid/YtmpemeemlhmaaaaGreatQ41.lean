/- SnapDeltas: of whatever pools: the delta from one to the other. For every input, no condition. -/
import Derived.Test.YtmpemeemlhmaaaaGreatQ40
set_option linter.unusedSimpArgs false
set_option linter.unusedVariables false
set_option maxRecDepth 100000
namespace Go.Proofs.YtmpemeemlhmaaaaGreat
open Go.ChangeShapes Go.WideShapes Go.ChangeAt Go.RowKit

theorem few_le40 {l : List Bk} (h : few l = true) : l.length ≤ 40 := by unfold few at h; simp at h; exact h.2
theorem deltaB_small {va vb : Int} {la lb : List Bk} (ha : pRight va la = true) (hb : pRight vb lb = true) : (deltaB va vb la lb).length ≤ 1000000000 := by
  have b1 := textsB_len (goneL la lb) (goneL_small (lb := lb) (fun x hx => (right_lay ha x hx).1))
  have b2 := bksB_len (otherL la lb) (fun y hy => layBk_told (right_lay hb y (otherL_mem hy)))
  have b3 := numsB_len [va, vb, ((goneL la lb).length : Nat)]
  have b4 := (varB_len (otherL la lb).length).2
  have b5 := goneL_len la lb
  have b6 := otherL_len la lb
  have i1 := (pRight_iff.1 ha).2.2.1
  have i2 := (pRight_iff.1 hb).2.2.1
  unfold deltaB bksB
  simp only [List.length_append, List.length_cons, List.length_nil] at *
  omega
set_option maxRecDepth 100000 in
set_option maxHeartbeats 8000000 in
theorem snapDeltas_walk (vp vq : Int) (A B : Option Addr) (n m c d : Nat) (lp lq : List Bk) (W : World) (hR : RdR Bk.arr 27 W W.heap.size A n lp) (hg : ∀ b ∈ lp, b.good) (hm : n ≤ 9223372036854775807) (hRq : RdR Bk.arr 27 W W.heap.size B m lq) (hgq : ∀ b ∈ lq, b.good) (hmq : m ≤ 9223372036854775807) :
    Calls Tryz.prog 6 #[.agg #[.int .i64 vp, .slice A n c], .agg #[.int .i64 vq, .slice B m d]] W fun e W' => e = .returned (.bool true) ∧ Below W.heap.size W W' := by
  obtain ⟨W0, hW0⟩ : ∃ W0, W0 = (W.alloc (.cells #[.int .i64 vp, .slice A n c] 24)).alloc (.cells #[.int .i64 vq, .slice B m d] 24) := ⟨_, rfl⟩
  have HB0 := Lib.hid (show Below W.heap.size W W0 by rw [hW0]; exact ((Below.refl W.heap.size W).alloc (Nat.le_refl _) _).alloc (by simp) _)
  have P0 := Lib.hid (show Box W0 W.heap.size #[.int .i64 vp, .slice A n c] by rw [hW0]; exact (Box.new W _ _).alloc _)
  have Q0 := Lib.hid (show Box W0 (W.heap.size + 1) #[.int .i64 vq, .slice B m d] by rw [hW0]; exact Box.new1 W _ _ _)
  have HR := Lib.hid hR
  have HQ := Lib.hid hRq
  have HF := Lib.hid (fun x hx => (hg x hx).1)
  have HFQ := Lib.hid (fun x hx => (hgq x hx).1)
  obtain ⟨K1, hK1⟩ : ∃ K, few lp = K := ⟨_, rfl⟩
  obtain ⟨K2, hK2⟩ : ∃ K, few lq = K := ⟨_, rfl⟩
  have F1 := Lib.hid (fun W' (hb : Below W.heap.size W W') => rFew_any lp vp A n c W' (HR.out.go hb) hm K1 hK1)
  have F2 := Lib.hid (fun W' (hb : Below W.heap.size W W') => rFew_any lq vq B m d W' (HQ.out.go hb) hmq K2 hK2)
  have HK1 := Lib.hid hK1
  have HK2 := Lib.hid hK2
  have HN0 := Lib.hid hR.1
  have HM0 := Lib.hid hRq.1
  clear hR hRq hg hgq hK1 hK2
  have HW0 := Lib.hid hW0
  go_enter Tryz.func6, Tryz.ntmps6
  go_wp2_with fail
  rw [← HW0.out]
  clear HW0 hW0
  (with_reducible refine (awake_any _).mono ?_)
  rintro e w1 ⟨rfl, hb1⟩
  have HB1 := Lib.hid (below2 HB0.out hb1)
  have P1 := Lib.hid (P0.out.go hb1)
  have Q1 := Lib.hid (Q0.out.go hb1)
  obtain ⟨x1, x2, x3, x4⟩ := P1.out.facts
  have hl1 := P1.out.lt
  clear hb1
  go_wp2_with fail
  (with_reducible refine (F1.out _ HB1.out).mono ?_)
  rintro e w2 ⟨rfl, hb2⟩
  have HB2 := Lib.hid (below2 HB1.out hb2)
  have P2 := Lib.hid (P1.out.go hb2)
  have Q2 := Lib.hid (Q1.out.go hb2)
  clear hb2 x1 x2 x3 x4 hl1
  cases K1
  · go_wp2_with fail
    (with_reducible refine (awake_any _).mono ?_)
    rintro e w3 ⟨rfl, hb3⟩
    have HB3 := Lib.hid (below2 HB2.out hb3)
    clear hb3
    go_wp2
    go_ret
    exact ⟨rfl, HB3.out⟩
  have hn40 : n ≤ 40 := by rw [← HN0.out]; exact few_le40 HK1.out
  obtain ⟨x1, x2, x3, x4⟩ := Q2.out.facts
  have hl1 := Q2.out.lt
  go_wp2_with fail
  (with_reducible refine (F2.out _ HB2.out).mono ?_)
  rintro e w3 ⟨rfl, hb3⟩
  have HB3 := Lib.hid (below2 HB2.out hb3)
  have P3 := Lib.hid (P2.out.go hb3)
  have Q3 := Lib.hid (Q2.out.go hb3)
  clear hb3 x1 x2 x3 x4 hl1
  cases K2
  · go_wp2_with fail
    (with_reducible refine (awake_any _).mono ?_)
    rintro e w4 ⟨rfl, hb4⟩
    have HB4 := Lib.hid (below2 HB3.out hb4)
    clear hb4
    go_wp2
    go_ret
    exact ⟨rfl, HB4.out⟩
  have hm40 : m ≤ 40 := by rw [← HM0.out]; exact few_le40 HK2.out
  obtain ⟨x1, x2, x3, x4⟩ := P3.out.facts
  have hl1 := P3.out.lt
  obtain ⟨y1, y2, y3, y4⟩ := Q3.out.facts
  have hly := Q3.out.lt
  obtain ⟨K3, hK3⟩ : ∃ K, pRight vp lp = K := ⟨_, rfl⟩
  obtain ⟨K4, hK4⟩ : ∃ K, pRight vq lq = K := ⟨_, rfl⟩
  have HK3 := Lib.hid hK3
  have HK4 := Lib.hid hK4
  obtain ⟨r, hr⟩ : ∃ r, deltaV vp vq lp lq = r := ⟨_, rfl⟩
  have HRR := Lib.hid (show r = if K3 && K4 then some (deltaB vp vq lp lq) else none by rw [← hr, deltaV, hK3, hK4])
  have DE := Lib.hid (delta_any vp vq lp lq A B n m c d w3 (HR.out.go HB3.out) (HQ.out.go HB3.out) HF.out HFQ.out (by omega) (by omega) r hr)
  have G1 := Lib.hid (fun W' (hb : Below W.heap.size W W') => rRightP_any lp HF.out vp A n c W' (HR.out.go hb) (by omega) K3 HK3.out)
  have G2 := Lib.hid (fun W' (hb : Below W.heap.size W W') => rRightP_any lq HFQ.out vq B m d W' (HQ.out.go hb) (by omega) K4 HK4.out)
  clear hK3 hK4 hr
  go_wp2_with fail
  (with_reducible refine DE.out.mono ?_)
  rintro e w4 ⟨hb4, h4⟩
  rw [HRR.out] at h4
  have HB4 := Lib.hid (below2 HB3.out hb4)
  have P4 := Lib.hid (P3.out.go hb4)
  have Q4 := Lib.hid (Q3.out.go hb4)
  clear hb4 x1 x2 x3 x4 hl1 y1 y2 y3 y4 hly
  obtain ⟨x1, x2, x3, x4⟩ := P4.out.facts
  have hl1 := P4.out.lt
  cases K3
  · obtain rfl := h4
    go_wp2_with fail
    (with_reducible refine (G1.out _ HB4.out).mono ?_)
    rintro e w5 ⟨rfl, hb5⟩
    have HB5 := Lib.hid (below2 HB4.out hb5)
    clear hb5
    go_wp2
    go_ret
    exact ⟨rfl, HB5.out⟩
  cases K4
  · obtain rfl := h4
    go_wp2_with fail
    (with_reducible refine (G1.out _ HB4.out).mono ?_)
    rintro e w5 ⟨rfl, hb5⟩
    have HB5 := Lib.hid (below2 HB4.out hb5)
    have Q5 := Lib.hid (Q4.out.go hb5)
    clear hb5 x1 x2 x3 x4 hl1
    obtain ⟨x1, x2, x3, x4⟩ := Q5.out.facts
    have hl1 := Q5.out.lt
    go_wp2_with fail
    (with_reducible refine (G2.out _ HB5.out).mono ?_)
    rintro e w6 ⟨rfl, hb6⟩
    have HB6 := Lib.hid (below2 HB5.out hb6)
    clear hb6
    go_wp2
    go_ret
    exact ⟨rfl, HB6.out⟩
  obtain ⟨A4, n4, c4, rfl, hn4, ho4⟩ := h4
  have HN4 := Lib.hid hn4
  have R4 := Lib.hid (show RdB w4 w4.heap.size A4 n4 (deltaB vp vq lp lq) by rw [hn4] at ho4 ⊢; exact RdB.of_own ho4)
  obtain ⟨_, _, _, hnc4, hc4⟩ := own_form ho4
  have HL4 := Lib.hid (show n4 ≤ 1000000000 by rw [hn4]; exact deltaB_small HK3.out HK4.out)
  clear hn4 ho4
  go_wp2_with fail
  (with_reducible refine (G1.out _ HB4.out).mono ?_)
  rintro e w5 ⟨rfl, hb5⟩
  have HB5 := Lib.hid (below2 HB4.out hb5)
  have P5 := Lib.hid (P4.out.go hb5)
  have Q5 := Lib.hid (Q4.out.go hb5)
  have R5 := Lib.hid (R4.out.go hb5)
  clear hb5 x1 x2 x3 x4 hl1
  obtain ⟨x1, x2, x3, x4⟩ := Q5.out.facts
  have hl1 := Q5.out.lt
  go_wp2_with fail
  (with_reducible refine (G2.out _ HB5.out).mono ?_)
  rintro e w6 ⟨rfl, hb6⟩
  have HB6 := Lib.hid (below2 HB5.out hb6)
  have P6 := Lib.hid (P5.out.go hb6)
  have Q6 := Lib.hid (Q5.out.go hb6)
  have R6 := Lib.hid (R5.out.go hb6)
  clear hb6 x1 x2 x3 x4 hl1
  obtain ⟨x1, x2, x3, x4⟩ := P6.out.facts
  have hl1 := P6.out.lt
  have AP := Lib.hid (apply_yes vp lp (deltaB vp vq lp lq) A A4 n n4 c c4 w6 (HR.out.go HB6.out) HF.out (by omega) R6.out HL4.out HK3.out)
  rw [applyV_delta HK3.out HK4.out] at AP
  go_wp2_with fail
  (with_reducible refine AP.out.mono ?_)
  rintro e w7 ⟨hb7, A7, c7, rfl, ho7⟩
  have HB7 := Lib.hid (below2 HB6.out hb7)
  have X7 := Lib.hid (Box.new w7 #[.int .i64 vq, .slice A7 lq.length c7] 24)
  obtain ⟨w8, hw8⟩ : ∃ w8, w8 = w7.alloc (.cells #[.int .i64 vq, .slice A7 lq.length c7] 24) := ⟨_, rfl⟩
  have H78 := Lib.hid (show Below w7.heap.size w7 w8 by rw [hw8]; exact (Below.refl w7.heap.size w7).alloc (Nat.le_refl _) _)
  have X8 := Lib.hid (show Box w8 w7.heap.size #[.int .i64 vq, .slice A7 lq.length c7] by rw [hw8]; exact X7.out)
  have HB8 := Lib.hid (below2 HB7.out H78.out)
  have P8 := Lib.hid ((P6.out.go hb7).go H78.out)
  have Q8 := Lib.hid ((Q6.out.go hb7).go H78.out)
  have R8 := Lib.hid ((R6.out.go hb7).go H78.out)
  have S8 := Lib.hid (show RdR Bk.arr 27 w8 w8.heap.size A7 lq.length lq from (RdR.of_own rfl ho7).go H78.out)
  have HW8 := Lib.hid hw8
  clear hb7 ho7 x1 x2 x3 x4 hl1 hw8 X7
  obtain ⟨gn, hgn⟩ : ∃ k, lq.length = k := ⟨_, rfl⟩
  rw [hgn] at X8 S8 HW8
  have hgk : gn ≤ 40 := by have := HM0.out; omega
  rw [hgn]
  clear hgn
  have KS := Lib.hid (show ∀ W', Below w8.heap.size w8 W' → (convert 32 9 (.slice A4 n4 c4)).run Tryz.prog W' = .ok (.string (textOf (deltaB vp vq lp lq))) W' ∧ W'.cell? ⟨W.heap.size, 0, none⟩ = some (.int .i64 vp) ∧ W'.cell? ⟨W.heap.size, 1, none⟩ = some (.slice A n c) ∧ W'.cell? ⟨W.heap.size + 1, 0, none⟩ = some (.int .i64 vq) ∧ W'.cell? ⟨W.heap.size + 1, 1, none⟩ = some (.slice B m d) ∧ W'.cell? ⟨w7.heap.size, 0, none⟩ = some (.int .i64 vq) ∧ W'.cell? ⟨w7.heap.size, 1, none⟩ = some (.slice A7 gn c7) from fun W' hW =>
    ⟨(text_later R8.out c4).1 W' hW, by rw [(P8.out.go hW).facts.1]; rfl, by rw [(P8.out.go hW).facts.1]; rfl, by rw [(Q8.out.go hW).facts.1]; rfl, by rw [(Q8.out.go hW).facts.1]; rfl, by rw [(X8.out.go hW).facts.1]; rfl, by rw [(X8.out.go hW).facts.1]; rfl⟩)
  have RD := Lib.hid (fun W' (hb : Below w8.heap.size w8 W') => rDelta_any vp vq lp lq A B n m c d W' (HR.out.go (below2 HB8.out hb)) (HQ.out.go (below2 HB8.out hb)) HF.out HFQ.out HK3.out HK4.out)
  have SM := Lib.hid (fun W' (hb : Below w8.heap.size w8 W') => rSame_any lq lq HFQ.out HFQ.out vq vq A7 B gn m c7 d W' (S8.out.go hb) (HQ.out.go (below2 HB8.out hb)) (by omega) (by omega) true (twins_self vq lq))
  go_upto_region 7 with fail
  rw [← HW8.out]
  have BZ := Lib.hid (Below.refl w8.heap.size w8).drew
  go_region_held_law (fun W' => (convert 32 9 (.slice A4 n4 c4)).run Tryz.prog W' = .ok (.string (textOf (deltaB vp vq lp lq))) W' ∧ W'.cell? ⟨W.heap.size, 0, none⟩ = some (.int .i64 vp) ∧ W'.cell? ⟨W.heap.size, 1, none⟩ = some (.slice A n c) ∧ W'.cell? ⟨W.heap.size + 1, 0, none⟩ = some (.int .i64 vq) ∧ W'.cell? ⟨W.heap.size + 1, 1, none⟩ = some (.slice B m d) ∧ W'.cell? ⟨w7.heap.size, 0, none⟩ = some (.int .i64 vq) ∧ W'.cell? ⟨w7.heap.size, 1, none⟩ = some (.slice A7 gn c7))
    (first | exact KS.out _ BZ.out | exact KS.out _ Ba.out | exact KS.out _ Bb.out | go_keep)
    (first | (go_at_call 23; (with_reducible refine (RD.out _ BZ.out).mono ?_); rintro e wa ⟨Ab, nb, cb, rfl, hnb, hob, hb⟩; have Ba := Lib.hid (below2 BZ.out hb); have t2 := (text_later (show RdB wa wa.heap.size Ab nb (deltaB vp vq lp lq) by rw [hnb] at hob ⊢; exact RdB.of_own hob) cb).2; clear hnb hob hb) | (go_at_call 24; (with_reducible refine (SM.out _ Ba.out).mono ?_); rintro e wb ⟨rfl, hb⟩; have Bb := Lib.hid (below2 Ba.out hb); clear hb))
  all_goals
    go_wp2
    go_ret
    exact ⟨rfl, below2 HB8.out Bb.out⟩

set_option maxRecDepth 100000 in
theorem snapDeltas_lifted (os : Os) (started : os.Started) (H : Type) (enc : TypeId × Value → H) :
    ReturnsInHanded {} Tryz.checked os 6 .any (Rows.snapDeltasSpec.pre6 enc Tryz.prog Tryz.f6 Rows.snapDeltasRow.domain false) (Rows.snapDeltasSpec.post enc Tryz.prog Tryz.f6 false true false false) := by
  refine returnsInHanded_of_change (C := Tryz.checked) own started (by kernel_rfl) Tryz.func6
    (ChangeSpec.witness6 (enc := enc) (C := Tryz.checked) false ⟨#[], #[.agg #[.int .i64 0, .slice none 0 0], .agg #[.int .i64 0, .slice none 0 0]], []⟩ 8 (by kernel_rfl) (by kernel_rfl) (by kernel_rfl) (by kernel_rfl)) ?_
  intro W base args ds gs before hval0 hW hcnd _
  have hval : ∀ (j : Nat) t v, Tryz.f6.params[j]? = some t → args[j]? = some v → Value.okWide Tryz.prog W .any base t v := hval0
  have hW' := hW
  obtain ⟨p, q, hA0, hV, rfl, hfz, hnd⟩ := hW
  have hA : DataW.TrodAll enc Tryz.prog W 0 (fun _ => true) true Tryz.f6.params.toList args.toList ds p := hA0
  rw [Tryz.params6] at hA hval
  obtain ⟨v0, vs0, d0, ds0, p0, q0, hargs, rfl, rfl, h0, r0⟩ := trodAll_cons hA
  obtain ⟨v1, vs1, d1, ds1, p1, q1, rfl, rfl, rfl, h1, r1⟩ := trodAll_cons r0
  obtain ⟨rfl, rfl, rfl⟩ := trodAll_nil r1
  obtain rfl : args = #[v0, v1] := by cases args; simp_all
  obtain ⟨zp, Ap, np, cp, lp, rfl, hzp, hRp, hgp, hmp⟩ := open_pool (hval 0 24 v0 rfl rfl) h0
  obtain ⟨zq, Aq, nq, cq, lq, rfl, hzq, hRq, hgq, hmq⟩ := open_pool (hval 1 24 v1 rfl rfl) h1
  clear hA0 hval0
  refine (snapDeltas_walk zp zq Ap Aq np nq cp cq lp lq W hRp hgp hmp hRq hgq hmq).mono fun e W' ⟨he, hb⟩ => ?_
  subst he
  exact ⟨_, rfl, law_post laidOut rfl (by kernel_rfl) 4 Tryz.underlying4 rfl hW' rfl hb⟩
theorem snapDeltas_holds : Rows.SnapDeltasSaid :=
  OpenClaim.holds_of_wide 6 Tryz.f6 rfl rfl rfl rfl rfl rfl rfl ⟨rfl, rfl, rfl, rfl, rfl⟩ rfl rfl rfl rfl rfl (by kernel_rfl) Tryz.func6 (by kernel_rfl)
    (of_decide_eq_true (by kernel_rfl)) (by unfold Func.isWrapper; first | (rw [if_pos (by decide +kernel)]; kernel_rfl) | (rw [if_neg (by decide +kernel)]; exact ⟨rfl, rfl⟩))
    (fun os started H enc _ => snapDeltas_lifted os started H enc)
#print axioms snapDeltas_holds
end Go.Proofs.YtmpemeemlhmaaaaGreat
