/- SnapPuts: of whatever state: whether it may be told, and its bytes. For every input, no condition. -/
import Derived.Test.YtmpemeemlhmaaaaGreatQ39
set_option linter.unusedSimpArgs false
set_option linter.unusedVariables false
set_option maxRecDepth 100000
namespace Go.Proofs.YtmpemeemlhmaaaaGreat
open Go.ChangeShapes Go.WideShapes Go.ChangeAt Go.RowKit

set_option maxRecDepth 100000 in
set_option maxHeartbeats 8000000 in
theorem snapPuts_walk (x : Sh) (s : Sta) (W : World) (h : StW W W.heap.size x s) :
    Calls Tryz.prog 3 #[.agg x.arr] W fun e W' => e = .returned (.bool true) ∧ Below W.heap.size W W' := by
  obtain ⟨W0, hW0⟩ : ∃ W0, W0 = W.alloc (.cells x.arr 29) := ⟨_, rfl⟩
  have HB0 := Lib.hid (show Below W.heap.size W W0 by rw [hW0]; exact (Below.refl W.heap.size W).alloc (Nat.le_refl _) _)
  have B0 := Lib.hid (show Box W0 W.heap.size x.arr by rw [hW0]; exact Box.new W _ _)
  have HS := Lib.hid h
  obtain ⟨K, hK⟩ : ∃ K, fewSt s = K := ⟨_, rfl⟩
  have FS := Lib.hid (fun W' (hb : Below W.heap.size W W') => fewState_any x s W' (HS.out.go hb) K hK)
  have HK := Lib.hid hK
  clear h hK
  subst hW0
  go_enter Tryz.func3, Tryz.ntmps3
  go_wp2_with fail
  (with_reducible refine (awake_any _).mono ?_)
  rintro e w1 ⟨rfl, hb1⟩
  have HB1 := Lib.hid (below2 HB0.out hb1)
  have B1 := Lib.hid (B0.out.go hb1)
  obtain ⟨x1, x2, x3, x4⟩ := B1.out.facts
  have hl1 := B1.out.lt
  clear hb1
  go_wp2_with fail
  (with_reducible refine (FS.out _ HB1.out).mono ?_)
  rintro e w2 ⟨rfl, hb2⟩
  have HB2 := Lib.hid (below2 HB1.out hb2)
  have B2 := Lib.hid (B1.out.go hb2)
  clear hb2 x1 x2 x3 x4 hl1
  cases K
  · go_wp2_with fail
    (with_reducible refine (awake_any _).mono ?_)
    rintro e w3 ⟨rfl, hb3⟩
    have HB3 := Lib.hid (below2 HB2.out hb3)
    clear hb3
    go_wp2
    go_ret
    exact ⟨rfl, HB3.out⟩
  have HST := Lib.hid (HS.out.strong HK.out)
  obtain ⟨x1, x2, x3, x4⟩ := B2.out.facts
  have hl1 := B2.out.lt
  have PU := Lib.hid (snapPut_any x s w2 (HST.out.go HB2.out))
  go_wp2_with fail
  (with_reducible refine PU.out.mono ?_)
  rintro e w3 ⟨hb3, h3⟩
  have HB3 := Lib.hid (below2 HB2.out hb3)
  have B3 := Lib.hid (B2.out.go hb3)
  clear x1 x2 x3 x4 hl1
  obtain ⟨OK, hOK⟩ : ∃ K, okSta s = K := ⟨_, rfl⟩
  rw [hOK] at h3
  have HOK := Lib.hid hOK
  have RR := Lib.hid (rState_any x s w3 (HST.out.go HB3.out))
  rw [hOK] at RR
  obtain ⟨x1, x2, x3, x4⟩ := B3.out.facts
  have hl1 := B3.out.lt
  clear hOK
  cases OK
  · obtain rfl := h3
    go_wp2_with fail
    (with_reducible refine RR.out.mono ?_)
    rintro e w4 ⟨rfl, hb4⟩
    have HB4 := Lib.hid (below2 HB3.out hb4)
    have B4 := Lib.hid (B3.out.go hb4)
    have RI := Lib.hid (snapRight_any x s w4 (HST.out.go HB4.out))
    rw [HOK.out] at RI
    clear hb3 hb4 x1 x2 x3 x4 hl1
    obtain ⟨x1, x2, x3, x4⟩ := B4.out.facts
    have hl1 := B4.out.lt
    go_wp2_with fail
    (with_reducible refine RI.out.mono ?_)
    rintro e w5 ⟨rfl, hb5⟩
    have HB5 := Lib.hid (below2 HB4.out hb5)
    clear hb5
    go_wp2
    go_ret
    exact ⟨rfl, HB5.out⟩
  · obtain ⟨A3, n3, c3, rfl, hn3, ho3⟩ := h3
    have R3 := Lib.hid (show RdB w3 w3.heap.size A3 n3 (staB s) by rw [hn3] at ho3 ⊢; exact RdB.of_own ho3)
    clear ho3 hn3
    go_wp2_with fail
    (with_reducible refine RR.out.mono ?_)
    rintro e w4 ⟨rfl, hb4⟩
    have HB4 := Lib.hid (below2 HB3.out hb4)
    have B4 := Lib.hid (B3.out.go hb4)
    have R4 := Lib.hid (R3.out.go hb4)
    clear hb3 hb4 x1 x2 x3 x4 hl1
    have KS := Lib.hid (show ∀ W', Below w4.heap.size w4 W' → (convert 32 9 (.slice A3 n3 c3)).run Tryz.prog W' = .ok (.string (textOf (staB s))) W' ∧ (loadSh (.pointer (some ⟨W.heap.size, 0, none⟩))).run Tryz.prog W' = .ok (.agg x.arr) W' from fun W' hW => by
      have b := (B4.out.go hW).facts
      refine ⟨(text_later R4.out c3).1 W' hW, ?_⟩
      rw [load_sh _ _ _ (by rw [b.2.2.1 0 17 (by rw [Sh.csize]; omega)]; trivial), b.2.2.2 0 17 (by rw [Sh.csize]; omega)]
      congr 2
      exact Sh.extract_all x)
    have RI := Lib.hid (fun W' (hb : Below w4.heap.size w4 W') => snapRight_any x s W' (HST.out.go (below2 HB4.out hb)))
    have RP := Lib.hid (fun W' (hb : Below w4.heap.size w4 W') => rPut_any x s W' (HST.out.go (below2 HB4.out hb)) HOK.out)
    rw [HOK.out] at RI
    go_wp2_with fail
    have BZ := Lib.hid (Below.refl w4.heap.size w4).drew
    go_region_held_law (fun W' => (convert 32 9 (.slice A3 n3 c3)).run Tryz.prog W' = .ok (.string (textOf (staB s))) W' ∧ (loadSh (.pointer (some ⟨W.heap.size, 0, none⟩))).run Tryz.prog W' = .ok (.agg x.arr) W')
      (first | exact KS.out _ BZ.out | exact KS.out _ Ba.out | exact KS.out _ Bb.out | go_keep)
      (first | (go_at_call 14; (with_reducible refine (RI.out _ BZ.out).mono ?_); rintro e wa ⟨rfl, ha⟩; have Ba := Lib.hid (below2 BZ.out ha); clear ha) | (go_at_call 15; (with_reducible refine (RP.out _ Ba.out).mono ?_); rintro e wb ⟨Ab, nb, cb, rfl, hnb, hob, hb⟩; have Bb := Lib.hid (below2 Ba.out hb); have t2 := (text_later (show RdB wb wb.heap.size Ab nb (staB s) by rw [hnb] at hob ⊢; exact RdB.of_own hob) cb).2; clear hnb hob hb))
    all_goals
      go_wp2
      go_ret
      exact ⟨rfl, below2 HB4.out Bb.out⟩

set_option maxRecDepth 100000 in
theorem snapPuts_lifted (os : Os) (started : os.Started) (H : Type) (enc : TypeId × Value → H) :
    ReturnsInHanded {} Tryz.checked os 3 .any (Rows.snapPutsSpec.pre6 enc Tryz.prog Tryz.f3 Rows.snapPutsRow.domain false) (Rows.snapPutsSpec.post enc Tryz.prog Tryz.f3 false true false false) := by
  refine returnsInHanded_of_change (C := Tryz.checked) own started (by kernel_rfl) Tryz.func3
    (ChangeSpec.witness6 (enc := enc) (C := Tryz.checked) false ⟨#[], #[.agg #[.int .i64 0, .slice none 0 0, .slice none 0 0, .slice none 0 0, .int .i64 0, .int .i64 0, .int .i64 0, .int .i64 0, .int .i64 0, .int .i64 0, .int .i64 0, .int .i64 0, .int .i64 0, .int .i64 0, .int .i64 0, .int .i64 0, .int .i64 0]], []⟩ 8 (by kernel_rfl) (by kernel_rfl) (by kernel_rfl) (by kernel_rfl)) ?_
  intro W base args ds gs before hval0 hW hcnd _
  have hval : ∀ (j : Nat) t v, Tryz.f3.params[j]? = some t → args[j]? = some v → Value.okWide Tryz.prog W .any base t v := hval0
  have hW' := hW
  obtain ⟨p, q, hA0, hV, rfl, hfz, hnd⟩ := hW
  have hA : DataW.TrodAll enc Tryz.prog W 0 (fun _ => true) true Tryz.f3.params.toList args.toList ds p := hA0
  rw [Tryz.params3] at hA hval
  obtain ⟨v0, vs0, d0, ds0, p0, q0, hargs, rfl, rfl, h0, r0⟩ := trodAll_cons hA
  obtain ⟨rfl, rfl, rfl⟩ := trodAll_nil r0
  obtain rfl : args = #[v0] := by cases args; simp_all
  obtain ⟨Xs, s, rfl, hs⟩ := open_st (hval 0 29 v0 rfl rfl) h0
  clear hA0 hval0
  refine (snapPuts_walk Xs s W hs).mono fun e W' ⟨he, hb⟩ => ?_
  subst he
  exact ⟨_, rfl, law_post laidOut rfl (by kernel_rfl) 4 Tryz.underlying4 rfl hW' rfl hb⟩
theorem snapPuts_holds : Rows.SnapPutsSaid :=
  OpenClaim.holds_of_wide 3 Tryz.f3 rfl rfl rfl rfl rfl rfl rfl ⟨rfl, rfl, rfl, rfl, rfl⟩ rfl rfl rfl rfl rfl (by kernel_rfl) Tryz.func3 (by kernel_rfl)
    (of_decide_eq_true (by kernel_rfl)) (by unfold Func.isWrapper; first | (rw [if_pos (by decide +kernel)]; kernel_rfl) | (rw [if_neg (by decide +kernel)]; exact ⟨rfl, rfl⟩))
    (fun os started H enc _ => snapPuts_lifted os started H enc)
#print axioms snapPuts_holds
end Go.Proofs.YtmpemeemlhmaaaaGreat
