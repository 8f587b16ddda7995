/- The document's Right: of tuples, of flows. -/
import Derived.Test.YtmpemeemlhmaaaaGreatQ36
set_option linter.unusedSimpArgs false
set_option linter.unusedVariables false
set_option maxRecDepth 100000
namespace Go.Proofs.YtmpemeemlhmaaaaGreat
open Go.RowKit

theorem rName_any (s : List UInt8) (w : World) (hs : s.length ≤ 9223372036854775807) : Calls Tryz.prog 87 #[.string (textOf s)] w fun e w' => e = .returned (.bool (okName s)) ∧ Below w.heap.size w w' :=
  (refName_any s w hs).mono (fun e w' h => ⟨h.1, h.2 ▸ Below.refl _ _⟩)
theorem okAdr_six {a : Adr} (h : a.six = true) : okAdr a = true := by simp [okAdr, h]
theorem okAdr_short {a : Adr} (h : a.six = false) : okAdr a = a.short := by simp [okAdr, h, Adr.short]
theorem nums_cases (p s d : Int) : ¬ 0 ≤ p ∨ (0 ≤ p ∧ ¬ p ≤ 255) ∨ (0 ≤ p ∧ p ≤ 255 ∧ ¬ 0 ≤ s) ∨ (0 ≤ p ∧ p ≤ 255 ∧ 0 ≤ s ∧ ¬ s ≤ 65535) ∨ (0 ≤ p ∧ p ≤ 255 ∧ 0 ≤ s ∧ s ≤ 65535 ∧ ¬ 0 ≤ d) ∨ (0 ≤ p ∧ p ≤ 255 ∧ 0 ≤ s ∧ s ≤ 65535 ∧ 0 ≤ d ∧ ¬ d ≤ 65535) ∨ (0 ≤ p ∧ p ≤ 255 ∧ 0 ≤ s ∧ s ≤ 65535 ∧ 0 ≤ d ∧ d ≤ 65535) := by omega
set_option maxRecDepth 100000 in
set_option maxHeartbeats 8000000 in
theorem rKnown_any (t : Tu) (w : World) : Calls Tryz.prog 86 #[.agg t.arr] w fun e w' => e = .returned (.bool (okTu t)) ∧ Below w.heap.size w w' := by
  have HB0 := Lib.hid ((Below.refl w.heap.size w).alloc (Nat.le_refl _) (.cells t.arr 77))
  have B0 := Lib.hid (Box.new w t.arr 77)
  obtain ⟨x1, x2, x3, x4⟩ := B0.out.facts
  have hl0 := B0.out.lt
  obtain ⟨s6, h6⟩ : ∃ s, t.src.six = s := ⟨_, rfl⟩
  obtain ⟨d6, g6⟩ : ∃ s, t.dst.six = s := ⟨_, rfl⟩
  have x0 := Tu.arr_0 t
  have x17 := Tu.arr_17 t
  rw [h6] at x0
  rw [g6] at x17
  have SH1 := Lib.hid (fun w => short_any t.src w)
  have SH2 := Lib.hid (fun w => short_any t.dst w)
  by_cases he : s6 = d6
  rotate_left
  · have HE := Lib.hid (show ¬ t.src.six = t.dst.six by rw [h6, g6]; exact he)
    clear h6 g6
    have hne : s6 = !d6 := by cases s6 <;> cases d6 <;> simp_all
    subst hne
    clear he
    cases d6
    all_goals
      go_enter Tryz.func86, Tryz.ntmps86
      go_wp2
      go_ret
      exact ⟨by rw [okTu_is]; simp [HE.out] <;> omega, HB0.out⟩
  have HE := Lib.hid (show t.src.six = t.dst.six by rw [h6, g6]; exact he)
  subst he
  cases s6
  rotate_left
  · have A1 := Lib.hid (okAdr_six h6)
    have A2 := Lib.hid (okAdr_six g6)
    clear h6 g6
    rcases nums_cases t.proto t.sport t.dport with p0 | ⟨p0, p1⟩ | ⟨p0, p1, p2⟩ | ⟨p0, p1, p2, p3⟩ | ⟨p0, p1, p2, p3, p4⟩ | ⟨p0, p1, p2, p3, p4, p5⟩ | ⟨p0, p1, p2, p3, p4, p5⟩
    all_goals
      go_enter Tryz.func86, Tryz.ntmps86
      go_wp2
      go_ret
      exact ⟨by rw [okTu_is]; simp [HE.out, A1.out, A2.out] <;> omega, HB0.out⟩
  have A1 := Lib.hid (okAdr_short h6)
  have A2 := Lib.hid (okAdr_short g6)
  rw [h6] at SH1
  rw [g6] at SH2
  simp only [Bool.not_false, Bool.and_true] at SH1 SH2
  clear h6 g6
  obtain ⟨k1, hk1⟩ : ∃ k, t.src.short = k := ⟨_, rfl⟩
  obtain ⟨k2, hk2⟩ : ∃ k, t.dst.short = k := ⟨_, rfl⟩
  rw [hk1] at A1 SH1
  rw [hk2] at A2 SH2
  clear hk1 hk2
  cases k1
  · go_enter Tryz.func86, Tryz.ntmps86
    go_wp2_with fail
    refine (SH1.out _).mono ?_
    rintro e w1 ⟨rfl, hb1⟩
    have B1 := Lib.hid (B0.out.go hb1)
    have HB1 := Lib.hid (below2 HB0.out hb1)
    obtain ⟨y1, y2, y3, y4⟩ := B1.out.facts
    have hl1 := B1.out.lt
    clear hb1
    go_wp2
    go_ret
    exact ⟨by rw [okTu_is]; simp [HE.out, A1.out] <;> omega, HB1.out⟩
  cases k2
  · go_enter Tryz.func86, Tryz.ntmps86
    go_wp2_with fail
    refine (SH1.out _).mono ?_
    rintro e w1 ⟨rfl, hb1⟩
    have B1 := Lib.hid (B0.out.go hb1)
    have HB1 := Lib.hid (below2 HB0.out hb1)
    obtain ⟨y1, y2, y3, y4⟩ := B1.out.facts
    have hl1 := B1.out.lt
    clear hb1
    go_wp2_with fail
    refine (SH2.out _).mono ?_
    rintro e w2 ⟨rfl, hb2⟩
    have B2 := Lib.hid (B1.out.go hb2)
    have HB2 := Lib.hid (below2 HB1.out hb2)
    obtain ⟨z1, z2, z3, z4⟩ := B2.out.facts
    have hl2 := B2.out.lt
    clear hb2 y1 y2 y3 y4 hl1
    go_wp2
    go_ret
    exact ⟨by rw [okTu_is]; simp [HE.out, A1.out, A2.out] <;> (first | omega | simp_all), HB2.out⟩
  rcases nums_cases t.proto t.sport t.dport with p0 | ⟨p0, p1⟩ | ⟨p0, p1, p2⟩ | ⟨p0, p1, p2, p3⟩ | ⟨p0, p1, p2, p3, p4⟩ | ⟨p0, p1, p2, p3, p4, p5⟩ | ⟨p0, p1, p2, p3, p4, p5⟩
  all_goals
    go_enter Tryz.func86, Tryz.ntmps86
    go_wp2_with fail
    refine (SH1.out _).mono ?_
    rintro e w1 ⟨rfl, hb1⟩
    have B1 := Lib.hid (B0.out.go hb1)
    have HB1 := Lib.hid (below2 HB0.out hb1)
    obtain ⟨y1, y2, y3, y4⟩ := B1.out.facts
    have hl1 := B1.out.lt
    clear hb1
    go_wp2_with fail
    refine (SH2.out _).mono ?_
    rintro e w2 ⟨rfl, hb2⟩
    have B2 := Lib.hid (B1.out.go hb2)
    have HB2 := Lib.hid (below2 HB1.out hb2)
    obtain ⟨z1, z2, z3, z4⟩ := B2.out.facts
    have hl2 := B2.out.lt
    clear hb2 y1 y2 y3 y4 hl1
    go_wp2
    go_ret
    exact ⟨by rw [okTu_is]; simp [HE.out, A1.out, A2.out] <;> (first | omega | simp_all), HB2.out⟩
set_option maxRecDepth 100000 in
set_option maxHeartbeats 8000000 in
theorem rFlow_any (x : Fw) (w : World) (hn : x.name.length ≤ 9223372036854775807) : Calls Tryz.prog 36 #[.agg x.arr] w fun e w' => e = .returned (.bool (okFw x)) ∧ Below w.heap.size w w' := by
  have HB0 := Lib.hid ((Below.refl w.heap.size w).alloc (Nat.le_refl _) (.cells x.arr 79))
  have B0 := Lib.hid (Box.new w x.arr 79)
  obtain ⟨x1, x2, x3, x4⟩ := B0.out.facts
  have hl0 := B0.out.lt
  obtain ⟨K1, h1⟩ : ∃ K, okTu x.key = K := ⟨_, rfl⟩
  obtain ⟨K2, h2⟩ : ∃ K, okName x.name = K := ⟨_, rfl⟩
  have HS1 := Lib.hid h1
  have HS2 := Lib.hid h2
  clear h1 h2
  cases K1
  · skip
    go_enter Tryz.func36, Tryz.ntmps36
    go_wp2_with fail
    refine (rKnown_any x.key _).mono ?_
    rintro e w1 ⟨rfl, hb1⟩
    rw [HS1.out]
    have B1 := Lib.hid (B0.out.go hb1)
    have HB1 := Lib.hid (below2 HB0.out hb1)
    obtain ⟨y1, y2, y3, y4⟩ := B1.out.facts
    have hl1 := B1.out.lt
    clear hb1
    go_wp2
    go_ret
    exact ⟨by rw [okFw_is]; simp [HS1.out] <;> omega, HB1.out⟩
  cases K2
  · skip
    go_enter Tryz.func36, Tryz.ntmps36
    go_wp2_with fail
    refine (rKnown_any x.key _).mono ?_
    rintro e w1 ⟨rfl, hb1⟩
    rw [HS1.out]
    have B1 := Lib.hid (B0.out.go hb1)
    have HB1 := Lib.hid (below2 HB0.out hb1)
    obtain ⟨y1, y2, y3, y4⟩ := B1.out.facts
    have hl1 := B1.out.lt
    clear hb1
    go_wp2_with fail
    refine (rName_any x.name _ hn).mono ?_
    rintro e w2 ⟨rfl, hb2⟩
    rw [HS2.out]
    have B2 := Lib.hid (B1.out.go hb2)
    have HB2 := Lib.hid (below2 HB1.out hb2)
    obtain ⟨z1, z2, z3, z4⟩ := B2.out.facts
    have hl2 := B2.out.lt
    clear hb2 y1 y2 y3 y4 hl1
    go_wp2
    go_ret
    exact ⟨by rw [okFw_is]; simp [HS1.out, HS2.out] <;> omega, HB2.out⟩
  by_cases p0 : 1 ≤ x.state
  rotate_left
  · skip
    go_enter Tryz.func36, Tryz.ntmps36
    go_wp2_with fail
    refine (rKnown_any x.key _).mono ?_
    rintro e w1 ⟨rfl, hb1⟩
    rw [HS1.out]
    have B1 := Lib.hid (B0.out.go hb1)
    have HB1 := Lib.hid (below2 HB0.out hb1)
    obtain ⟨y1, y2, y3, y4⟩ := B1.out.facts
    have hl1 := B1.out.lt
    clear hb1
    go_wp2_with fail
    refine (rName_any x.name _ hn).mono ?_
    rintro e w2 ⟨rfl, hb2⟩
    rw [HS2.out]
    have B2 := Lib.hid (B1.out.go hb2)
    have HB2 := Lib.hid (below2 HB1.out hb2)
    obtain ⟨z1, z2, z3, z4⟩ := B2.out.facts
    have hl2 := B2.out.lt
    clear hb2 y1 y2 y3 y4 hl1
    go_wp2
    go_ret
    exact ⟨by rw [okFw_is]; simp [HS1.out, HS2.out, p0] <;> omega, HB2.out⟩
  by_cases p1 : x.state ≤ 5
  rotate_left
  · skip
    go_enter Tryz.func36, Tryz.ntmps36
    go_wp2_with fail
    refine (rKnown_any x.key _).mono ?_
    rintro e w1 ⟨rfl, hb1⟩
    rw [HS1.out]
    have B1 := Lib.hid (B0.out.go hb1)
    have HB1 := Lib.hid (below2 HB0.out hb1)
    obtain ⟨y1, y2, y3, y4⟩ := B1.out.facts
    have hl1 := B1.out.lt
    clear hb1
    go_wp2_with fail
    refine (rName_any x.name _ hn).mono ?_
    rintro e w2 ⟨rfl, hb2⟩
    rw [HS2.out]
    have B2 := Lib.hid (B1.out.go hb2)
    have HB2 := Lib.hid (below2 HB1.out hb2)
    obtain ⟨z1, z2, z3, z4⟩ := B2.out.facts
    have hl2 := B2.out.lt
    clear hb2 y1 y2 y3 y4 hl1
    go_wp2
    go_ret
    exact ⟨by rw [okFw_is]; simp [HS1.out, HS2.out, p0, p1] <;> omega, HB2.out⟩
  by_cases p2 : 0 ≤ x.seen
  rotate_left
  · skip
    go_enter Tryz.func36, Tryz.ntmps36
    go_wp2_with fail
    refine (rKnown_any x.key _).mono ?_
    rintro e w1 ⟨rfl, hb1⟩
    rw [HS1.out]
    have B1 := Lib.hid (B0.out.go hb1)
    have HB1 := Lib.hid (below2 HB0.out hb1)
    obtain ⟨y1, y2, y3, y4⟩ := B1.out.facts
    have hl1 := B1.out.lt
    clear hb1
    go_wp2_with fail
    refine (rName_any x.name _ hn).mono ?_
    rintro e w2 ⟨rfl, hb2⟩
    rw [HS2.out]
    have B2 := Lib.hid (B1.out.go hb2)
    have HB2 := Lib.hid (below2 HB1.out hb2)
    obtain ⟨z1, z2, z3, z4⟩ := B2.out.facts
    have hl2 := B2.out.lt
    clear hb2 y1 y2 y3 y4 hl1
    go_wp2
    go_ret
    exact ⟨by rw [okFw_is]; simp [HS1.out, HS2.out, p0, p1, p2] <;> omega, HB2.out⟩
  by_cases p3 : x.seen ≤ 1099511627776
  rotate_left
  · skip
    go_enter Tryz.func36, Tryz.ntmps36
    go_wp2_with fail
    refine (rKnown_any x.key _).mono ?_
    rintro e w1 ⟨rfl, hb1⟩
    rw [HS1.out]
    have B1 := Lib.hid (B0.out.go hb1)
    have HB1 := Lib.hid (below2 HB0.out hb1)
    obtain ⟨y1, y2, y3, y4⟩ := B1.out.facts
    have hl1 := B1.out.lt
    clear hb1
    go_wp2_with fail
    refine (rName_any x.name _ hn).mono ?_
    rintro e w2 ⟨rfl, hb2⟩
    rw [HS2.out]
    have B2 := Lib.hid (B1.out.go hb2)
    have HB2 := Lib.hid (below2 HB1.out hb2)
    obtain ⟨z1, z2, z3, z4⟩ := B2.out.facts
    have hl2 := B2.out.lt
    clear hb2 y1 y2 y3 y4 hl1
    go_wp2
    go_ret
    exact ⟨by rw [okFw_is]; simp [HS1.out, HS2.out, p0, p1, p2, p3] <;> omega, HB2.out⟩
  by_cases p4 : 0 ≤ x.no
  rotate_left
  · skip
    go_enter Tryz.func36, Tryz.ntmps36
    go_wp2_with fail
    refine (rKnown_any x.key _).mono ?_
    rintro e w1 ⟨rfl, hb1⟩
    rw [HS1.out]
    have B1 := Lib.hid (B0.out.go hb1)
    have HB1 := Lib.hid (below2 HB0.out hb1)
    obtain ⟨y1, y2, y3, y4⟩ := B1.out.facts
    have hl1 := B1.out.lt
    clear hb1
    go_wp2_with fail
    refine (rName_any x.name _ hn).mono ?_
    rintro e w2 ⟨rfl, hb2⟩
    rw [HS2.out]
    have B2 := Lib.hid (B1.out.go hb2)
    have HB2 := Lib.hid (below2 HB1.out hb2)
    obtain ⟨z1, z2, z3, z4⟩ := B2.out.facts
    have hl2 := B2.out.lt
    clear hb2 y1 y2 y3 y4 hl1
    go_wp2
    go_ret
    exact ⟨by rw [okFw_is]; simp [HS1.out, HS2.out, p0, p1, p2, p3, p4] <;> omega, HB2.out⟩
  by_cases p5 : x.no ≤ 1152921504606846976
  rotate_left
  · skip
    go_enter Tryz.func36, Tryz.ntmps36
    go_wp2_with fail
    refine (rKnown_any x.key _).mono ?_
    rintro e w1 ⟨rfl, hb1⟩
    rw [HS1.out]
    have B1 := Lib.hid (B0.out.go hb1)
    have HB1 := Lib.hid (below2 HB0.out hb1)
    obtain ⟨y1, y2, y3, y4⟩ := B1.out.facts
    have hl1 := B1.out.lt
    clear hb1
    go_wp2_with fail
    refine (rName_any x.name _ hn).mono ?_
    rintro e w2 ⟨rfl, hb2⟩
    rw [HS2.out]
    have B2 := Lib.hid (B1.out.go hb2)
    have HB2 := Lib.hid (below2 HB1.out hb2)
    obtain ⟨z1, z2, z3, z4⟩ := B2.out.facts
    have hl2 := B2.out.lt
    clear hb2 y1 y2 y3 y4 hl1
    go_wp2
    go_ret
    exact ⟨by rw [okFw_is]; simp [HS1.out, HS2.out, p0, p1, p2, p3, p4, p5] <;> omega, HB2.out⟩
  go_enter Tryz.func36, Tryz.ntmps36
  go_wp2_with fail
  refine (rKnown_any x.key _).mono ?_
  rintro e w1 ⟨rfl, hb1⟩
  rw [HS1.out]
  have B1 := Lib.hid (B0.out.go hb1)
  have HB1 := Lib.hid (below2 HB0.out hb1)
  obtain ⟨y1, y2, y3, y4⟩ := B1.out.facts
  have hl1 := B1.out.lt
  clear hb1
  go_wp2_with fail
  refine (rName_any x.name _ hn).mono ?_
  rintro e w2 ⟨rfl, hb2⟩
  rw [HS2.out]
  have B2 := Lib.hid (B1.out.go hb2)
  have HB2 := Lib.hid (below2 HB1.out hb2)
  obtain ⟨z1, z2, z3, z4⟩ := B2.out.facts
  have hl2 := B2.out.lt
  clear hb2 y1 y2 y3 y4 hl1
  go_wp2
  go_ret
  exact ⟨by rw [okFw_is]; simp [HS1.out, HS2.out, p0, p1, p2, p3, p4, p5] <;> omega, HB2.out⟩
end Go.Proofs.YtmpemeemlhmaaaaGreat
