/- SnapBack: of whatever state and bytes: what may be told comes back as it was; what is read may be told, and has just these bytes; cut off, or with more behind it, it is none's. For every input, no condition. -/
import Derived.Test.YtmpemeemlhmaaaaGreatQ34
set_option linter.unusedSimpArgs false
set_option linter.unusedVariables false
set_option maxRecDepth 100000
namespace Go.Proofs.YtmpemeemlhmaaaaGreat
open Go.ChangeShapes Go.WideShapes Go.ChangeAt Go.RowKit

set_option maxRecDepth 100000 in
set_option maxHeartbeats 8000000 in
theorem snapBack_walk (x : Sh) (s : Sta) (A : Option Addr) (n c : Nat) (lb : List UInt8) (k m : Nat) (W : World) (h : StW W W.heap.size x s) (hnc : n ≤ c) (hc : c ≤ 9223372036854775807) (hR : RdB W W.heap.size A n lb) (hk : k < 65536) (hm : m < 256) :
    Calls Tryz.prog 5 #[.agg x.arr, .slice A n c, .int .u16 (k : Nat), .int .u8 (m : Nat)] W fun e W' => e = .returned (.bool true) ∧ Below W.heap.size W W' := by
  obtain ⟨W0, hW0⟩ : ∃ W0, W0 = W.alloc (.cells x.arr 29) := ⟨_, rfl⟩
  have HB0 := Lib.hid (show Below W.heap.size W W0 by rw [hW0]; exact (Below.refl W.heap.size W).alloc (Nat.le_refl _) _)
  have B0 := Lib.hid (show Box W0 W.heap.size x.arr by rw [hW0]; exact Box.new W _ _)
  have HS := Lib.hid h
  have HR := Lib.hid hR
  obtain ⟨K, hK⟩ : ∃ K, fewSt s = K := ⟨_, rfl⟩
  have FS := Lib.hid (fun W' (hb : Below W.heap.size W W') => fewState_any x s W' (HS.out.go hb) K hK)
  have HK := Lib.hid hK
  clear h hR hK
  subst hW0
  go_enter Tryz.func5, Tryz.ntmps5
  go_wp2_with fail
  (with_reducible refine (awake_any _).mono ?_)
  rintro e w1 ⟨rfl, hb1⟩
  have HB1 := Lib.hid (below2 HB0.out hb1)
  have B1 := Lib.hid (B0.out.go hb1)
  obtain ⟨x1, x2, x3, x4⟩ := B1.out.facts
  have hl1 := B1.out.lt
  clear hb1
  go_wp2_with fail
  (with_reducible refine (FS.out _ HB1.out).mono ?_)
  rintro e w2 ⟨rfl, hb2⟩
  have HB2 := Lib.hid (below2 HB1.out hb2)
  have B2 := Lib.hid (B1.out.go hb2)
  clear hb2 x1 x2 x3 x4 hl1
  cases K
  · go_wp2_with fail
    (with_reducible refine (awake_any _).mono ?_)
    rintro e w3 ⟨rfl, hb3⟩
    have HB3 := Lib.hid (below2 HB2.out hb3)
    clear hb3
    go_wp2
    go_ret
    exact ⟨rfl, HB3.out⟩
  by_cases hn : n ≤ 30000
  rotate_left
  · have hgt : (30000 : Int) < n := by omega
    have hgd : decide ((30000 : Int) < n) = true := by simpa using hgt
    go_wp2_with fail
    (with_reducible refine (awake_any _).mono ?_)
    rintro e w3 ⟨rfl, hb3⟩
    have HB3 := Lib.hid (below2 HB2.out hb3)
    clear hb3
    go_wp2
    go_ret
    exact ⟨rfl, HB3.out⟩
  have hng : ¬ (30000 : Int) < n := by omega
  have HST := Lib.hid (HS.out.strong HK.out)
  have hlo : n ≤ 1000000000 := by omega
  obtain ⟨x1, x2, x3, x4⟩ := B2.out.facts
  have hl1 := B2.out.lt
  have PU := Lib.hid (snapPut_any x s w2 (HST.out.go HB2.out))
  go_wp2_with fail
  (with_reducible refine PU.out.mono ?_)
  rintro e w3 ⟨hb3, h3⟩
  have HB3 := Lib.hid (below2 HB2.out hb3)
  have B3 := Lib.hid (B2.out.go hb3)
  clear x1 x2 x3 x4 hl1
  obtain ⟨OK, hOK⟩ : ∃ K, okSta s = K := ⟨_, rfl⟩
  rw [hOK] at h3
  have HOK := Lib.hid hOK
  clear hOK
  cases OK
  rotate_left
  · obtain ⟨A3, n3, c3, rfl, hn3, ho3⟩ := h3
    have hl17 := staB_len s
    obtain ⟨A9, c9, e9, hnc3, hc3⟩ := own_form ho3
    injection e9 with e91 e92 e93
    subst e93
    have hsm := staB_small HOK.out
    have R3 := Lib.hid (show RdB w3 w3.heap.size A3 n3 (staB s) by rw [hn3] at ho3 ⊢; exact RdB.of_own ho3)
    have hn17 : 17 ≤ n3 := by omega
    have hn3b : n3 ≤ 10000000 := by omega
    unfold maxLen at hc3
    have GT := Lib.hid (snapGet_any A3 n3 c3 (staB s) w3 R3.out (by omega))
    rw [getV_put HOK.out] at GT
    have HN3 := Lib.hid hn3
    clear hb3 ho3 e91 e92 hl17 hn3 hsm
    go_wp2_with fail
    (with_reducible refine GT.out.mono ?_)
    rintro e w4 ⟨hb4, y, rfl, hy4, _, _, _⟩
    have HB4 := Lib.hid ((below2 HB3.out hb4).alloc (below2 HB3.out hb4).size (.cells y.arr 29))
    have B4 := Lib.hid ((B3.out.go hb4).alloc (.cells y.arr 29))
    have Y4 := Lib.hid (Box.new w4 y.arr 29)
    have F34 := Lib.hid (hb4.alloc hb4.size (.cells y.arr 29))
    have SM := Lib.hid (sameState_any y x s s (w4.alloc (.cells y.arr 29)) (hy4.go ((Below.refl w4.heap.size w4).alloc (Nat.le_refl _) _)) (HST.out.go HB4.out) true (same_self_st s))
    clear hb4 hy4
    obtain ⟨x1, x2, x3, x4⟩ := B4.out.facts
    have hl1 := B4.out.lt
    obtain ⟨y1, y2, y3, y4⟩ := Y4.out.facts
    have hly := Y4.out.lt
    have hne0 : ((n3 : Int) == 0) = false := by simp; omega
    go_wp2_with fail
    (with_reducible refine SM.out.mono ?_)
    rintro e w5 ⟨rfl, hb5⟩
    have HB5 := Lib.hid (below2 HB4.out hb5)
    have F35 := Lib.hid (below2 F34.out hb5)
    have R5 := Lib.hid (R3.out.go F35.out)
    obtain ⟨j, hj⟩ : ∃ j : Nat, (k : Int) % (n3 : Int) = (j : Int) := ⟨k % n3, by simp⟩
    have hj2 : j < n3 := by
      have h1 := Int.emod_lt_of_pos (k : Int) (show (0 : Int) < n3 by omega)
      omega
    have HJ := Lib.hid hj2
    clear hb5 x1 x2 x3 x4 hl1 y1 y2 y3 y4 hly
    have G6 := Lib.hid (snapGet_any A3 j c3 ((staB s).take j) w5 (R5.out.upto (Nat.le_of_lt hj2)) (by omega))
    rw [getV_cut HOK.out (List.take_append_drop j (staB s)).symm (by intro e; have := congrArg List.length e; have h9 := HN3.out; rw [List.length_drop, List.length_nil] at this; omega)] at G6
    go_wp2_with fail
    (with_reducible refine G6.out.mono ?_)
    rintro e w6 ⟨hb6, rfl⟩
    have F6 := Lib.hid (hb6.alloc hb6.size (.cells noSh.arr 29))
    have HB6 := Lib.hid (below2 HB5.out F6.out)
    obtain ⟨W6, hW6⟩ : ∃ W6, W6 = w6.alloc (.cells noSh.arr 29) := ⟨_, rfl⟩
    rw [← hW6] at F6 HB6
    have R6 := Lib.hid (R5.out.go F6.out)
    have L0 := Lib.hid (Ly.lit0 W6)
    have R7 := Lib.hid (R6.out.go ((Below.refl W6.heap.size W6).alloc (Nat.le_refl _) (.cells #[] 5)))
    have HL1 := Lib.hid (show ([] : List UInt8).length + n3 ≤ 1000000000 by simp; omega)
    obtain ⟨mb, hmb⟩ : ∃ b : UInt8, (m : Int) = (b.toNat : Int) := ⟨UInt8.ofNat m, by rw [dig _ hm]⟩
    have HMB := Lib.hid hmb
    have HL2 := Lib.hid (show ([] ++ staB s : List UInt8).length + 1 ≤ 1000000000 by have := HN3.out; simp; omega)
    have HW6 := Lib.hid hW6
    clear hb6 hW6 hmb
    go_upto_region 9 with fail
    rw [← HW6.out]
    go_wp2_with (first | (at_builtin; refine wpList_ow rfl (.tmp 71) (.tmp 72) rfl rfl L0.out.o rfl R7.out HL1.out ?_; intro A7 n7 c7 w7 h2 h3; have L7 := Lib.hid (L0.out.step (by exact h3)); have R8 := Lib.hid (rd_u8 w7 mb m HMB.out); have L8 := Lib.hid (L7.out.alloc (.cells #[.int .u8 (m : Nat)] 5)); clear h2 h3) | (at_builtin; refine wpList_ow rfl (.tmp 73) (.tmp 75) rfl rfl L8.out.o rfl R8.out HL2.out ?_; intro A9 n9 c9 w9 h2 h3; have L9 := Lib.hid (L8.out.step h3); clear h2 h3))
    have hn9 := L9.out.len
    have GL := Lib.hid (snapGet_any A9 n9 c9 ([] ++ staB s ++ [mb]) w9 L9.out.rd (by rw [hn9]; have := HN3.out; simp; omega))
    rw [show getV ([] ++ staB s ++ [mb]) = none by rw [List.nil_append]; exact getV_long HOK.out (by simp)] at GL
    have HB9 := Lib.hid (below2 HB6.out L9.out.o.bel)
    clear hn9
    (with_reducible refine GL.out.mono ?_)
    rintro e wz ⟨hbz, rfl⟩
    have HBZ := Lib.hid ((below2 HB9.out hbz).alloc (below2 HB9.out hbz).size (.cells noSh.arr 29))
    have GZ := Lib.hid (snapGet_any A n c lb _ (HR.out.go HBZ.out) hlo)
    clear hbz
    go_wp2_with fail
    (with_reducible refine GZ.out.mono ?_)
    rintro e wg ⟨hbg, hg⟩
    have HBG := Lib.hid (below2 HBZ.out hbg)
    obtain ⟨V, hV⟩ : ∃ V, getV lb = V := ⟨_, rfl⟩
    rw [hV] at hg
    have HV := Lib.hid hV
    clear hV hbg
    cases V with
    | none =>
      obtain rfl := hg
      go_wp2
      go_ret
      exact ⟨rfl, HBG.out.alloc HBG.out.size _⟩
    | some u =>
      obtain ⟨z, rfl, hz, _, _, _⟩ := hg
      have HBY := Lib.hid (HBG.out.alloc HBG.out.size (.cells z.arr 29))
      have Z1 := Lib.hid (Box.new wg z.arr 29)
      have SZ := Lib.hid (hz.go ((Below.refl wg.heap.size wg).alloc (Nat.le_refl _) (.cells z.arr 29)))
      have HU := Lib.hid (getV_some HV.out)
      have PZ := Lib.hid (snapPut_any z u _ SZ.out)
      obtain ⟨z1, z2, z3, z4⟩ := Z1.out.facts
      have hlz := Z1.out.lt
      clear hz
      go_wp2_with fail
      (with_reducible refine PZ.out.mono ?_)
      rintro e wp ⟨hbp, hp⟩
      rw [HU.out.1] at hp
      obtain ⟨Ap, np, cp, rfl, hnp, hop⟩ := hp
      have HBP := Lib.hid (below2 HBY.out hbp)
      have RP := Lib.hid (show RdB wp wp.heap.size Ap np lb by rw [HU.out.2]; rw [hnp] at hop ⊢; exact RdB.of_own hop)
      have RI := Lib.hid (snapRight_any z u wp (SZ.out.go hbp))
      rw [HU.out.1] at RI
      have Z2 := Lib.hid (Z1.out.go hbp)
      clear hbp hop hnp z1 z2 z3 z4 hlz
      obtain ⟨z1, z2, z3, z4⟩ := Z2.out.facts
      have hlz := Z2.out.lt
      go_wp2_with fail
      (with_reducible refine RI.out.mono ?_)
      rintro e wq ⟨rfl, hbq⟩
      have HBQ := Lib.hid (below2 HBP.out hbq)
      have t1 := (text_later (RP.out.go hbq) cp).2
      have t2 := (text_later (HR.out.go HBQ.out) c).2
      clear hbq z1 z2 z3 z4 hlz
      go_wp2
      go_ret
      exact ⟨rfl, HBQ.out⟩
  · obtain rfl := h3
    have HBZ := HB3
    have GZ := Lib.hid (snapGet_any A n c lb _ (HR.out.go HB3.out) hlo)
    clear hb3
    go_wp2_with fail
    (with_reducible refine GZ.out.mono ?_)
    rintro e wg ⟨hbg, hg⟩
    have HBG := Lib.hid (below2 HBZ.out hbg)
    obtain ⟨V, hV⟩ : ∃ V, getV lb = V := ⟨_, rfl⟩
    rw [hV] at hg
    have HV := Lib.hid hV
    clear hV hbg
    cases V with
    | none =>
      obtain rfl := hg
      go_wp2
      go_ret
      exact ⟨rfl, HBG.out.alloc HBG.out.size _⟩
    | some u =>
      obtain ⟨z, rfl, hz, _, _, _⟩ := hg
      have HBY := Lib.hid (HBG.out.alloc HBG.out.size (.cells z.arr 29))
      have Z1 := Lib.hid (Box.new wg z.arr 29)
      have SZ := Lib.hid (hz.go ((Below.refl wg.heap.size wg).alloc (Nat.le_refl _) (.cells z.arr 29)))
      have HU := Lib.hid (getV_some HV.out)
      have PZ := Lib.hid (snapPut_any z u _ SZ.out)
      obtain ⟨z1, z2, z3, z4⟩ := Z1.out.facts
      have hlz := Z1.out.lt
      clear hz
      go_wp2_with fail
      (with_reducible refine PZ.out.mono ?_)
      rintro e wp ⟨hbp, hp⟩
      rw [HU.out.1] at hp
      obtain ⟨Ap, np, cp, rfl, hnp, hop⟩ := hp
      have HBP := Lib.hid (below2 HBY.out hbp)
      have RP := Lib.hid (show RdB wp wp.heap.size Ap np lb by rw [HU.out.2]; rw [hnp] at hop ⊢; exact RdB.of_own hop)
      have RI := Lib.hid (snapRight_any z u wp (SZ.out.go hbp))
      rw [HU.out.1] at RI
      have Z2 := Lib.hid (Z1.out.go hbp)
      clear hbp hop hnp z1 z2 z3 z4 hlz
      obtain ⟨z1, z2, z3, z4⟩ := Z2.out.facts
      have hlz := Z2.out.lt
      go_wp2_with fail
      (with_reducible refine RI.out.mono ?_)
      rintro e wq ⟨rfl, hbq⟩
      have HBQ := Lib.hid (below2 HBP.out hbq)
      have t1 := (text_later (RP.out.go hbq) cp).2
      have t2 := (text_later (HR.out.go HBQ.out) c).2
      clear hbq z1 z2 z3 z4 hlz
      go_wp2
      go_ret
      exact ⟨rfl, HBQ.out⟩

set_option maxRecDepth 100000 in
theorem snapBack_lifted (os : Os) (started : os.Started) (H : Type) (enc : TypeId × Value → H) :
    ReturnsInHanded {} Tryz.checked os 5 .any (Rows.snapBackSpec.pre6 enc Tryz.prog Tryz.f5 Rows.snapBackRow.domain false) (Rows.snapBackSpec.post enc Tryz.prog Tryz.f5 false true false false) := by
  refine returnsInHanded_of_change (C := Tryz.checked) own started (by kernel_rfl) Tryz.func5
    (ChangeSpec.witness6 (enc := enc) (C := Tryz.checked) false ⟨#[], #[.agg #[.int .i64 0, .slice none 0 0, .slice none 0 0, .slice none 0 0, .int .i64 0, .int .i64 0, .int .i64 0, .int .i64 0, .int .i64 0, .int .i64 0, .int .i64 0, .int .i64 0, .int .i64 0, .int .i64 0, .int .i64 0, .int .i64 0, .int .i64 0], .slice none 0 0, .int .u16 0, .int .u8 0], []⟩ 8 (by kernel_rfl) (by kernel_rfl) (by kernel_rfl) (by kernel_rfl)) ?_
  intro W base args ds gs before hval0 hW hcnd _
  have hval : ∀ (j : Nat) t v, Tryz.f5.params[j]? = some t → args[j]? = some v → Value.okWide Tryz.prog W .any base t v := hval0
  have hW' := hW
  obtain ⟨p, q, hA0, hV, rfl, hfz, hnd⟩ := hW
  have hA : DataW.TrodAll enc Tryz.prog W 0 (fun _ => true) true Tryz.f5.params.toList args.toList ds p := hA0
  rw [Tryz.params5] at hA hval
  obtain ⟨v0, vs0, d0, ds0, p0, q0, hargs, rfl, rfl, h0, r0⟩ := trodAll_cons hA
  obtain ⟨v1, vs1, d1, ds1, p1, q1, rfl, rfl, rfl, h1, r1⟩ := trodAll_cons r0
  obtain ⟨v2, vs2, d2, ds2, p2, q2, rfl, rfl, rfl, h2, r2⟩ := trodAll_cons r1
  obtain ⟨v3, vs3, d3, ds3, p3, q3, rfl, rfl, rfl, h3, r3⟩ := trodAll_cons r2
  obtain ⟨rfl, rfl, rfl⟩ := trodAll_nil r3
  obtain rfl : args = #[v0, v1, v2, v3] := by cases args; simp_all
  obtain ⟨Xs, s, rfl, hs⟩ := open_st (hval 0 29 v0 rfl rfl) h0
  obtain ⟨Ab, nb, cb, b, rfl, hnb, hcb, hb⟩ := open_bytes Tryz.underlying32 Tryz.underlying5 (by kernel_rfl) (hval 1 32 v1 rfl rfl) h1
  obtain ⟨k, rfl, hk⟩ := open_u16 Tryz.underlying43 (hval 2 43 v2 rfl rfl) h2
  obtain ⟨m, rfl, hm⟩ := open_u8 Tryz.underlying5 (hval 3 5 v3 rfl rfl) h3
  clear hA0 hval0
  refine (snapBack_walk Xs s Ab nb cb b k m W hs hnb hcb hb hk hm).mono fun e W' ⟨he, hb⟩ => ?_
  subst he
  exact ⟨_, rfl, law_post laidOut rfl (by kernel_rfl) 4 Tryz.underlying4 rfl hW' rfl hb⟩
theorem snapBack_holds : Rows.SnapBackSaid :=
  OpenClaim.holds_of_wide 5 Tryz.f5 rfl rfl rfl rfl rfl rfl rfl ⟨rfl, rfl, rfl, rfl, rfl⟩ rfl rfl rfl rfl rfl (by kernel_rfl) Tryz.func5 (by kernel_rfl)
    (of_decide_eq_true (by kernel_rfl)) (by unfold Func.isWrapper; first | (rw [if_pos (by decide +kernel)]; kernel_rfl) | (rw [if_neg (by decide +kernel)]; exact ⟨rfl, rfl⟩))
    (fun os started H enc _ => snapBack_lifted os started H enc)
#print axioms snapBack_holds
end Go.Proofs.YtmpemeemlhmaaaaGreat
