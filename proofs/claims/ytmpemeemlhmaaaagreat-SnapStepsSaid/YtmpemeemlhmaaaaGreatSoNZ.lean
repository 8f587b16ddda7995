/- SnapSteps: whatever is done to a right pool, one behind the other, the deltas of all steps lead from the first pool to the last, as the one delta from first to last does; a delta doesn't fit a pool of another version. For every input, no condition. -/
import Derived.Test.YtmpemeemlhmaaaaGreatQ34
import Derived.Test.YtmpemeemlhmaaaaGreatQ35
import Derived.Deep.CutRange
set_option linter.unusedSimpArgs false
set_option linter.unusedVariables false
set_option maxRecDepth 100000
namespace Go.Proofs.YtmpemeemlhmaaaaGreat
open Go.ChangeShapes Go.WideShapes Go.ChangeAt Go.RowKit

theorem RdR.setN {α : Type} {f : α → Array Value} {s : Nat} {w : World} {B n : Nat} {A : Option Addr} {l : List α} (h : RdR f s w B A n l) {p : Addr} (u : Value) (hp : 0 < n → ∀ a, A = some a → p.block ≠ a.block) : RdR f s (w.setCell p u) B A n l := by
  obtain ⟨h1, h2, h3⟩ := h
  refine ⟨h1, ⟨h2.1, fun hn => ?_⟩, h3⟩
  obtain ⟨a, e, hb, hc⟩ := h2.2 hn
  refine ⟨a, e, hb, fun j u' hu => ?_⟩
  rw [World.cell?_setCell_other _ _ _ _ (fun e2 => by have := hp hn a e; rw [e2, add_block] at this; omega)]
  exact hc j u' hu
theorem rFewOps_any (l : List Opr) (A : Option Addr) (n c : Nat) (w : World) (hR : RdO w w.heap.size A n l) (hn : n ≤ 9223372036854775807) (K : Bool) (hK : fewOps l = K) :
    Calls Tryz.prog 26 #[.slice A n c] w fun e w' => e = .returned (.bool K) ∧ w = w' := by
  subst hK
  obtain rfl := hR.1
  exact fewOps_any l A c w hR hn
theorem rRight_any (l : List Bk) (hf : ∀ x ∈ l, x.fine) (v : Int) (A : Option Addr) (n c : Nat) (w : World) (hR : RdR Bk.arr 27 w w.heap.size A n l) (hn : n ≤ 100000) (K : Bool) (hK : pRight v l = K) :
    Calls Tryz.prog 21 #[.agg #[.int .i64 v, .slice A n c]] w fun e w' => e = .returned (.bool K) ∧ Below w.heap.size w w' := by
  subst hK
  obtain rfl := hR.1
  exact refRight_any l hf v A c w hR (by omega)
theorem few_40 {l : List Bk} (h : few l = true) : l.length ≤ 40 := by unfold few at h; simp at h; exact h.2
theorem fewOps_60 {l : List Opr} (h : fewOps l = true) : l.length ≤ 60 := by unfold fewOps at h; simp at h; exact h.2
theorem same_self2 (v : Int) {l : List Bk} (h : ∀ b ∈ l, b.fine) : eqPool v l v l = true := (eqPool_is v v h h).trans (twins_self v l)
/-- a pool lies in a box at q; its row lies elsewhere than at q1, q2 -/
structure Pb (W : World) (q q1 q2 : Nat) (v : Int) (A : Option Addr) (n c : Nat) (l : List Bk) : Prop where
  box : Box W q #[.int .i64 v, .slice A n c]
  row : RdR Bk.arr 27 W W.heap.size A n l
  off : 0 < n → ∀ a, A = some a → q1 ≠ a.block ∧ q2 ≠ a.block
theorem Pb.go {W W' : World} {q q1 q2 : Nat} {v : Int} {A : Option Addr} {n c : Nat} {l : List Bk} (h : Pb W q q1 q2 v A n c l) (hb : Below W.heap.size W W') : Pb W' q q1 q2 v A n c l := ⟨h.box.go hb, h.row.go hb, h.off⟩
theorem Pb.alloc {W : World} {q q1 q2 : Nat} {v : Int} {A : Option Addr} {n c : Nat} {l : List Bk} (h : Pb W q q1 q2 v A n c l) (ob : Obj) : Pb (W.alloc ob) q q1 q2 v A n c l := h.go ((Below.refl _ _).alloc (Nat.le_refl _) ob)
/-- another box is written -/
theorem Pb.set {W : World} {q q1 q2 : Nat} {v : Int} {A : Option Addr} {n c : Nat} {l : List Bk} (h : Pb W q q1 q2 v A n c l) (p : Addr) (u : Value) (hp : p.block = q1 ∨ p.block = q2) (hq : p.block ≠ q) : Pb (W.setCell p u) q q1 q2 v A n c l :=
  ⟨h.box.set_other p u hq, by
    have := h.row.setN (p := p) u (fun hn a ha e => by have := h.off hn a ha; rcases hp with h1 | h1 <;> omega)
    simpa [World.setCell] using this, h.off⟩
/-- a pool is copied into another box -/
theorem Pb.copy {W : World} {q q1 q2 p : Nat} {v v0 : Int} {A A0 : Option Addr} {n c n0 c0 : Nat} {l : List Bk} (h : Pb W q q1 q2 v A n c l) (hb : Box W p #[.int .i64 v0, .slice A0 n0 c0]) (hp : p = q1 ∨ p = q2) :
    Pb ((W.setCell ⟨p, 0, none⟩ (.int .i64 v)).setCell ⟨p, 1, none⟩ (.slice A n c)) p q1 q2 v A n c l := by
  have hr : ∀ (W' : World) (j : Nat) (u : Value), RdR Bk.arr 27 W' W'.heap.size A n l → RdR Bk.arr 27 (W'.setCell ⟨p, j, none⟩ u) (W'.setCell ⟨p, j, none⟩ u).heap.size A n l := fun W' j u hr => by
    have := hr.setN (p := ⟨p, j, none⟩) u (fun hn a ha e => by have := h.off hn a ha; rcases hp with h1 | h1 <;> simp at e <;> omega)
    simpa [World.setCell] using this
  exact ⟨(hb.set_same 0 _).set_same 1 _, hr _ _ _ (hr _ _ _ h.row), h.off⟩
set_option maxRecDepth 100000 in
set_option maxHeartbeats 16000000 in
theorem snapSteps_walk (v0 : Int) (A0 : Option Addr) (n0 c0 : Nat) (l0 : List Bk) (Az : Option Addr) (nz cz : Nat) (lz : List Opr) (W : World) (hR : RdR Bk.arr 27 W W.heap.size A0 n0 l0) (hg : ∀ b ∈ l0, b.good) (hm : n0 ≤ 9223372036854775807) (hRz : RdO W W.heap.size Az nz lz) (hgz : ∀ o ∈ lz, o.good) (hmz : nz ≤ 9223372036854775807) :
    Calls Tryz.prog 9 #[.agg #[.int .i64 v0, .slice A0 n0 c0], .slice Az nz cz] W fun e W' => e = .returned (.bool true) ∧ Below W.heap.size W W' := by
  obtain ⟨W0, hW0⟩ : ∃ W0, W0 = W.alloc (.cells #[.int .i64 v0, .slice A0 n0 c0] 24) := ⟨_, rfl⟩
  have HB0 := Lib.hid (show Below W.heap.size W W0 by rw [hW0]; exact (Below.refl W.heap.size W).alloc (Nat.le_refl _) _)
  have B0 := Lib.hid (show Box W0 W.heap.size #[.int .i64 v0, .slice A0 n0 c0] by rw [hW0]; exact Box.new W _ _)
  have HR := Lib.hid hR
  have HZ := Lib.hid hRz
  have HGZ := Lib.hid hgz
  have HF := Lib.hid (fun x hx => (hg x hx).1)
  obtain ⟨K1, hK1⟩ : ∃ K, few l0 = K := ⟨_, rfl⟩
  obtain ⟨K2, hK2⟩ : ∃ K, pRight v0 l0 = K := ⟨_, rfl⟩
  obtain ⟨K3, hK3⟩ : ∃ K, fewOps lz = K := ⟨_, rfl⟩
  have F1 := Lib.hid (fun W' (hb : Below W.heap.size W W') => rFew_any l0 v0 A0 n0 c0 W' (HR.out.go hb) hm K1 hK1)
  have F2 := Lib.hid (fun W' (hb : Below W.heap.size W W') (hn : n0 ≤ 100000) => rRight_any l0 HF.out v0 A0 n0 c0 W' (HR.out.go hb) hn K2 hK2)
  have F3 := Lib.hid (fun W' (hb : Below W.heap.size W W') => rFewOps_any lz Az nz cz W' (HZ.out.go hb) hmz K3 hK3)
  have HK1 := Lib.hid hK1
  have HK2 := Lib.hid hK2
  have HK3 := Lib.hid hK3
  have HN0 := Lib.hid hR.1
  have HNZ := Lib.hid hRz.1
  clear hR hRz hgz hg hK1 hK2 hK3
  subst hW0
  go_enter Tryz.func9, Tryz.ntmps9
  go_wp2_with fail
  (with_reducible refine (awake_any _).mono ?_)
  rintro e w1 ⟨rfl, hb1⟩
  have HB1 := Lib.hid (below2 HB0.out hb1)
  have B1 := Lib.hid (B0.out.go hb1)
  obtain ⟨x1, x2, x3, x4⟩ := B1.out.facts
  have hl1 := B1.out.lt
  clear hb1
  go_wp2_with fail
  (with_reducible refine (F1.out _ HB1.out).mono ?_)
  rintro e w2 ⟨rfl, hb2⟩
  have HB2 := Lib.hid (below2 HB1.out hb2)
  have B2 := Lib.hid (B1.out.go hb2)
  clear hb2 x1 x2 x3 x4 hl1
  cases K1
  · go_wp2_with fail
    (with_reducible refine (awake_any _).mono ?_)
    rintro e w3 ⟨rfl, hb3⟩
    have HB3 := Lib.hid (below2 HB2.out hb3)
    clear hb3
    go_wp2
    go_ret
    exact ⟨rfl, HB3.out⟩
  have hn40 : n0 ≤ 40 := by rw [← HN0.out]; exact few_40 HK1.out
  obtain ⟨x1, x2, x3, x4⟩ := B2.out.facts
  have hl1 := B2.out.lt
  go_wp2_with fail
  (with_reducible refine (F2.out _ HB2.out (by omega)).mono ?_)
  rintro e w3 ⟨rfl, hb3⟩
  have HB3 := Lib.hid (below2 HB2.out hb3)
  have B3 := Lib.hid (B2.out.go hb3)
  clear hb3 x1 x2 x3 x4 hl1
  cases K2
  · go_wp2_with fail
    (with_reducible refine (awake_any _).mono ?_)
    rintro e w4 ⟨rfl, hb4⟩
    have HB4 := Lib.hid (below2 HB3.out hb4)
    clear hb4
    go_wp2
    go_ret
    exact ⟨rfl, HB4.out⟩
  go_wp2_with fail
  (with_reducible refine (F3.out _ HB3.out).mono ?_)
  rintro e w4 ⟨rfl, rfl⟩
  cases K3
  · go_wp2_with fail
    (with_reducible refine (awake_any _).mono ?_)
    rintro e w5 ⟨rfl, hb5⟩
    have HB5 := Lib.hid (below2 HB3.out hb5)
    clear hb5
    go_wp2
    go_ret
    exact ⟨rfl, HB5.out⟩
  have hn60 : nz ≤ 60 := by rw [← HNZ.out]; exact fewOps_60 HK3.out
  obtain ⟨x1, x2, x3, x4⟩ := B3.out.facts
  have hl1 := B3.out.lt
  have N0 := Lib.hid (show Pb ((w3.alloc (.cells #[.int .i64 v0, .slice A0 n0 c0] 24)).alloc (.cells #[.int .i64 v0, .slice A0 n0 c0] 24)) w3.heap.size w3.heap.size (w3.heap.size + 1) v0 A0 n0 c0 l0 from
    ⟨(Box.new w3 _ _).alloc _, ((HR.out.go HB3.out).up _).up _, fun h0 a ha => by
      obtain ⟨b, o, e1, hlt, _⟩ := RdR.at_ Bk.arr_size noBk HR.out h0
      rw [e1] at ha; injection ha with ha; subst ha
      have := HB3.out.size
      exact ⟨by simp; omega, by simp; omega⟩⟩)
  have M0 := Lib.hid (show Pb ((w3.alloc (.cells #[.int .i64 v0, .slice A0 n0 c0] 24)).alloc (.cells #[.int .i64 v0, .slice A0 n0 c0] 24)) (w3.heap.size + 1) w3.heap.size (w3.heap.size + 1) v0 A0 n0 c0 l0 from
    ⟨Box.new1 w3 _ _ _, N0.out.row, N0.out.off⟩)
  have D0 := Lib.hid (show Below w3.heap.size w3 ((w3.alloc (.cells #[.int .i64 v0, .slice A0 n0 c0] 24)).alloc (.cells #[.int .i64 v0, .slice A0 n0 c0] 24)) from ((Below.refl w3.heap.size w3).alloc (Nat.le_refl _) _).alloc (by simp) _)
  go_wp2
  go_loopw [7] (fun s7 wr => ∃ (i : Nat) (v : Int) (A : Option Addr) (n c : Nat) (A2 : Option Addr) (n2 c2 : Nat) (L : List Bk), i ≤ nz ∧ s7 = .int .i64 i ∧ Pb wr w3.heap.size w3.heap.size (w3.heap.size + 1) v A n c L ∧ Pb wr (w3.heap.size + 1) w3.heap.size (w3.heap.size + 1) v A2 n2 c2 L ∧ pRight v L = true ∧ (∀ x ∈ L, x.fine) ∧ Below w3.heap.size w3 wr) (fun s7 _ => nz - (intOf s7).toNat)
  case atStart => exact ⟨0, v0, A0, n0, c0, A0, n0, c0, l0, by omega, rfl, N0.out, M0.out, HK2.out, HF.out, D0.out⟩
  case round =>
    obtain ⟨i, v, A, n, c, A2, n2, c2, L, hi, rfl, hN, hM, hr, hf, hD⟩ := hrel
    have PN := Lib.hid hN
    have PM := Lib.hid hM
    have RR := Lib.hid hr
    have FF := Lib.hid hf
    have DD := Lib.hid hD
    have II := Lib.hid (pRight_iff.1 hr)
    have hv1 : 0 ≤ v := II.out.1
    have hv2 : v ≤ 1099511627776 := II.out.2.1
    have hln : n ≤ 1024 := by rw [← hN.row.1]; exact II.out.2.2.1
    have hln2 : n2 ≤ 1024 := by rw [← hM.row.1]; exact II.out.2.2.1
    have hqs : w3.heap.size + 1 < wr.heap.size := hM.box.lt
    clear hN hM hr hf hD x1 x2 x3 x4 hl1
    by_cases hlt : i < nz
    · have hlt2 : (i : Int) < nz := by omega
      obtain ⟨b0, o0, rfl, hbb, hcz⟩ := (HZ.out.go (below2 HB3.out DD.out)).cell hlt
      have hgo := HGZ.out (oAt lz i) (getD_mem noOp lz i (by have := HNZ.out; omega))
      obtain ⟨o, ho⟩ : ∃ o, oAt lz i = o := ⟨_, rfl⟩
      rw [ho] at hcz hgo
      have AT := Lib.hid (show OpAt wr b0 (o0 + i * 30) o from ⟨hbb, hcz⟩)
      obtain ⟨v', hv'⟩ : ∃ v', doV v L o = v' := ⟨_, rfl⟩
      obtain ⟨L', hL'⟩ : ∃ L', doL v L o = L' := ⟨_, rfl⟩
      obtain ⟨n', hn'⟩ : ∃ n', L'.length = n' := ⟨_, rfl⟩
      obtain ⟨er, her⟩ : ∃ er, whyNot v L o = er := ⟨_, rfl⟩
      have hnr := done_any_right (v := v) (l := L) (o := o) RR.out FF.out hgo.1.1 hgo.2.1
      rw [hv', hL'] at hnr
      have RN := Lib.hid hnr.1
      have FN := Lib.hid hnr.2
      have IN := Lib.hid (pRight_iff.1 hnr.1)
      have hln' : n' ≤ 1024 := by rw [← hn']; exact IN.out.2.2.1
      have HNL := Lib.hid hn'
      have DO := Lib.hid (fun W' (hR' : RdR Bk.arr 27 W' W'.heap.size A n L) => doD_any L II.out.2.2.2.2 v ⟨by omega, by omega⟩ o hgo.1.1 hgo.2.1 A n c W' hR' (by rw [hR'.1]; omega) v' L' n' er hv' hL' hn' her)
      clear ho hgo hcz hbb hv' hL' hn' her hnr
      go_upto_region 8 with fail
      go_cut [8, 9] from 47 to 55 (fun s8 s9 wx => ∃ bq Aq cq, s8 = .pointer (some ⟨bq, 0, none⟩) ∧ s9 = .int .i64 er ∧ Box wx bq #[.int .i64 v', .slice Aq n' cq] ∧ RdR Bk.arr 27 wx wx.heap.size Aq n' L' ∧ (∀ a, Aq = some a → wr.heap.size ≤ a.block) ∧ wr.heap.size ≤ bq ∧ Below wr.heap.size wr wx)
      case first =>
        have KS := Lib.hid (show ∀ W', Below wr.heap.size wr W' → W'.cell? ⟨w3.heap.size, 0, none⟩ = some (.int .i64 v) ∧ W'.cell? ⟨w3.heap.size, 1, none⟩ = some (.slice A n c) ∧ (loadOpr (.pointer (some ⟨b0, o0 + i * 30, none⟩))).run Tryz.prog W' = .ok (.agg o.arr) W' from fun W' h => by
          have hx := (PN.out.box.go h).facts.1
          obtain ⟨_, _, _, _, z5, z6, _, _⟩ := (AT.out.go h).facts
          exact ⟨by rw [hx]; rfl, by rw [hx]; rfl, by rw [load_opr _ _ _ z5, z6]⟩)
        obtain ⟨s1, s2, s3⟩ := KS.out _ (Below.refl _ _)
        go_wp2_with fail
        go_region_held3 (fun W' => W'.cell? ⟨w3.heap.size, 0, none⟩ = some (.int .i64 v) ∧ W'.cell? ⟨w3.heap.size, 1, none⟩ = some (.slice A n c) ∧ (loadOpr (.pointer (some ⟨b0, o0 + i * 30, none⟩))).run Tryz.prog W' = .ok (.agg o.arr) W')
          (first | exact KS.out _ (Below.refl _ _) | exact KS.out _ (Below.refl _ _).drew | exact KS.out _ ((Below.refl _ _).alloc (Nat.le_refl _) _) | exact KS.out _ ((Below.refl _ _).alloc (Nat.le_refl _) _).drew | exact KS.out _ HB4.out | exact KS.out _ (HB4.out.alloc HB4.out.size _) | exact KS.out _ ((HB4.out.setCell (Nat.le_refl _) _)) | exact KS.out _ ((HB4.out.setCell (Nat.le_refl _) _).setCell (Nat.le_refl _) _) | go_keep)
          (first
          | (go_at_call 27; (with_reducible refine (DO.out _ PN.out.row.drewz).mono ?_); rintro e w4 ⟨A4, c4, rfl, hR4, hA4, hb4⟩; have HB4 := Lib.hid (below1d hb4); have R4 := Lib.hid hR4; have HA4 := Lib.hid hA4; clear hb4 hR4 hA4)
          | (go_at_call 27; (with_reducible refine (DO.out _ (PN.out.row.upd _)).mono ?_); rintro e w4 ⟨A4, c4, rfl, hR4, hA4, hb4⟩; have hb5 := below1d hb4; obtain ⟨z1, z2, z3, z4⟩ := ((Box.new wr _ _).go hb5).facts; have lz := ((Box.new wr _ _).go hb5).lt; have BZ := Lib.hid ((Box.new wr _ _).go hb5); have HB4 := Lib.hid (((Below.refl wr.heap.size wr).alloc (Nat.le_refl _) _).trans (hb5.mono (by simp))); have R4 := Lib.hid hR4; have HA4 := Lib.hid (fun a ha => Nat.lt_of_lt_of_le (show wr.heap.size < _ by simp) (hA4 a ha)); clear hb4 hR4 hA4 hb5))
        all_goals
          go_wp2_with fail
          go_meet
          case rel =>
            first
              | exact ⟨_, A4, c4, rfl, rfl, Box.new _ _ _, RdR.up R4.out _, HA4.out, HB4.out.size, HB4.out.alloc HB4.out.size _⟩
              | exact ⟨wr.heap.size, A4, c4, rfl, rfl, (BZ.out.set_same 0 _).set_same 1 _, (R4.out.setOther _ (fun a ha => HA4.out a ha)).setOther _ (fun a ha => HA4.out a ha), (fun a ha => Nat.le_of_lt (HA4.out a ha)), Nat.le_refl _, (HB4.out.setCell (Nat.le_refl _) _).setCell (Nat.le_refl _) _⟩
      obtain ⟨bq, Aq, cq, rfl, rfl, hbq, hrq, habq, lbq, hbx⟩ := hcut
      have PN1 := Lib.hid (PN.out.go hbx)
      have PM1 := Lib.hid (PM.out.go hbx)
      have DD1 := Lib.hid (DD.out.trans (hbx.mono DD.out.size))
      have PQ1 := Lib.hid (show Pb wc bq w3.heap.size (w3.heap.size + 1) v' Aq n' cq L' from ⟨hbq, hrq, fun _ a ha => ⟨by have := habq a ha; omega, by have := habq a ha; omega⟩⟩)
      have hq1 : w3.heap.size + 1 < bq := by omega
      have hqc : bq < wc.heap.size := hbq.lt
      obtain ⟨y1, y2, y3, y4⟩ := PN1.out.box.facts
      have hly := PN1.out.box.lt
      obtain ⟨z1, z2, z3, z4⟩ := PQ1.out.box.facts
      have hlz := PQ1.out.box.lt
      have DV := Lib.hid (show deltaV v v' L L' = some (deltaB v v' L L') by unfold deltaV; rw [RR.out, RN.out]; rfl)
      have DE := Lib.hid (delta_any v v' L L' A Aq n n' c cq wc PN1.out.row PQ1.out.row FF.out FN.out (by omega) (by omega) _ DV.out)
      clear hbq hrq habq hbx PN PM DO
      go_wp2_with fail
      (with_reducible refine DE.out.mono ?_)
      rintro e w5 ⟨hb5, A5, n5, c5, rfl, hn5, ho5⟩
      have PN2 := Lib.hid (PN1.out.go hb5)
      have PM2 := Lib.hid (PM1.out.go hb5)
      have PQ2 := Lib.hid (PQ1.out.go hb5)
      have DD2 := Lib.hid (DD1.out.trans (hb5.mono DD1.out.size))
      obtain ⟨ds, hds⟩ : ∃ ds, deltaB v v' L L' = ds := ⟨_, rfl⟩
      have HDS := Lib.hid hds
      have R5 := Lib.hid (show RdB w5 w5.heap.size A5 n5 ds by rw [hds] at hn5 ho5; rw [hn5] at ho5 ⊢; exact RdB.of_own ho5)
      have hn5b : n5 ≤ 1000000000 := by
        rw [hn5]
        have h1 := textsB_len (goneL L L') (goneL_small (fun x hx => (right_lay RR.out x hx).1))
        have h2 := bksB_len (otherL L L') (fun y hy => layBk_told (right_lay RN.out y (otherL_mem hy)))
        have h3 := goneL_len L L'
        have h4 := otherL_len L L'
        have h5 := II.out.2.2.1
        have h6 := IN.out.2.2.1
        have h7 := numsB_len [v, v', ((goneL L L').length : Int)]
        have h8 := (varB_len (otherL L L').length).2
        unfold deltaB bksB
        simp only [List.length_append, List.length_cons, List.length_nil] at h7 ⊢
        omega
      have hq5 : bq < w5.heap.size := Nat.lt_of_lt_of_le hqc hb5.size
      clear hb5 hn5 ho5 hds y1 y2 y3 y4 hly z1 z2 z3 z4 hlz
      obtain ⟨y1, y2, y3, y4⟩ := PM2.out.box.facts
      have hly := PM2.out.box.lt
      have AP := Lib.hid (apply_yes v L ds A2 A5 n2 n5 c2 c5 w5 PM2.out.row FF.out (by omega) R5.out hn5b RR.out)
      rw [show applyV v L ds = some (v', L') by rw [← HDS.out]; exact applyV_delta RR.out RN.out] at AP
      go_wp2_with fail
      (with_reducible refine AP.out.mono ?_)
      rintro e w6 ⟨hb6, A6, c6, rfl, ho6⟩
      rw [HNL.out] at ho6 ⊢
      obtain ⟨W6, hW6⟩ : ∃ W6, W6 = w6.alloc (.cells #[.int .i64 v', .slice A6 n' c6] 24) := ⟨_, rfl⟩
      have B6 := Lib.hid (show Below w5.heap.size w5 W6 by rw [hW6]; exact hb6.alloc hb6.size _)
      have PN3 := Lib.hid (PN2.out.go B6.out)
      have PM3 := Lib.hid (PM2.out.go B6.out)
      have PQ3 := Lib.hid (PQ2.out.go B6.out)
      have DD3 := Lib.hid (DD2.out.trans (B6.out.mono DD2.out.size))
      have R6 := Lib.hid (R5.out.go B6.out)
      have hq6 : bq < w6.heap.size := Nat.lt_of_lt_of_le hq5 hb6.size
      have PX3 := Lib.hid (show Pb W6 w6.heap.size w3.heap.size (w3.heap.size + 1) v' A6 n' c6 L' from ⟨by rw [hW6]; exact Box.new w6 _ _, by rw [hW6]; exact (RdR.of_own HNL.out ho6).up _, fun _ a ha => by
        have h1 := (ho6.lt a.block (by rw [ha]; rfl)).1
        have h2 := DD2.out.size
        have h3 := PM2.out.box.lt
        exact ⟨by omega, by omega⟩⟩)
      have HW6 := Lib.hid hW6
      clear hb6 ho6 hW6 y1 y2 y3 y4 hly
      obtain ⟨y1, y2, y3, y4⟩ := PX3.out.box.facts
      have hly := PX3.out.box.lt
      obtain ⟨z1, z2, z3, z4⟩ := PQ3.out.box.facts
      have hlz := PQ3.out.box.lt
      have SM := Lib.hid (pSame_any L' L' v' v' A6 Aq n' n' c6 cq W6 PX3.out.row PQ3.out.row (by rw [HNL.out]; omega) (by rw [HNL.out]; omega))
      rw [same_self2 v' FN.out] at SM
      go_upto_region 11 with fail
      rw [← HW6.out]
      go_wp2_with fail
      (with_reducible refine SM.out.mono ?_)
      rintro e w7 ⟨rfl, hb7⟩
      have PN4 := Lib.hid (PN3.out.go hb7)
      have PM4 := Lib.hid (PM3.out.go hb7)
      have PQ4 := Lib.hid (PQ3.out.go hb7)
      have PX4 := Lib.hid (PX3.out.go hb7)
      have DD4 := Lib.hid (DD3.out.trans (hb7.mono DD3.out.size))
      have R7 := Lib.hid (R6.out.go hb7)
      have hs7 : w6.heap.size < w7.heap.size := Nat.lt_of_lt_of_le hly hb7.size
      clear hb7 y1 y2 y3 y4 hly z1 z2 z3 z4 hlz
      obtain ⟨y1, y2, y3, y4⟩ := PN4.out.box.facts
      have hly := PN4.out.box.lt
      have O8 := Lib.hid (Box.new w7 #[.int .i64 v, .slice A n c] 24)
      obtain ⟨k1, k2, k3, k4⟩ := O8.out.facts
      have hlk := O8.out.lt
      obtain ⟨j1, j2, j3, j4⟩ := (PN4.out.box.alloc (.cells #[.int .i64 v, .slice A n c] 24)).facts
      have hlj := (PN4.out.box.alloc (.cells #[.int .i64 v, .slice A n c] 24)).lt
      have PNs := Lib.hid (PN4.out.alloc (.cells #[.int .i64 v, .slice A n c] 24))
      have hne7 : w7.heap.size ≠ w3.heap.size := by omega
      have PN5 := Lib.hid (show Box ((w7.alloc (.cells #[.int .i64 v, .slice A n c] 24)).setCell ⟨w7.heap.size, 0, none⟩ (.int .i64 (v + 1))) w3.heap.size #[.int .i64 v, .slice A n c] from PNs.out.box.set_other ⟨w7.heap.size, 0, none⟩ _ hne7)
      obtain ⟨i1, i2, i3, i4⟩ := PN5.out.facts
      have hli := PN5.out.lt
      by_cases hv0 : 0 < v
      · have RO := Lib.hid (show pRight (v - 1) L = true from pRight_iff.2 ⟨by omega, by omega, II.out.2.2⟩)
        have PN8 := Lib.hid (PN4.out.alloc (.cells #[.int .i64 (v - 1), .slice A n c] 24))
        have PM8 := Lib.hid (PM4.out.alloc (.cells #[.int .i64 (v - 1), .slice A n c] 24))
        have PQ8 := Lib.hid (PQ4.out.alloc (.cells #[.int .i64 (v - 1), .slice A n c] 24))
        have PX8 := Lib.hid (PX4.out.alloc (.cells #[.int .i64 (v - 1), .slice A n c] 24))
        have DD8 := Lib.hid (DD4.out.alloc DD4.out.size (.cells #[.int .i64 (v - 1), .slice A n c] 24))
        have R8 := Lib.hid (R7.out.go ((Below.refl w7.heap.size w7).alloc (Nat.le_refl _) (.cells #[.int .i64 (v - 1), .slice A n c] 24)))
        have AO := Lib.hid (apply_yes (v - 1) L ds A A5 n n5 c c5 _ PN8.out.row FF.out (by omega) R8.out hn5b RO.out)
        rw [show applyV (v - 1) L ds = none by rw [← HDS.out]; exact applyV_other RR.out RN.out RO.out (by omega)] at AO
        go_wp2_with fail
        (with_reducible refine AO.out.mono ?_)
        rintro e w9 ⟨hb9, rfl⟩
        obtain ⟨W9, hW9⟩ : ∃ W9, W9 = w9.alloc (.cells #[.int .i64 0, .slice none 0 0] 24) := ⟨_, rfl⟩
        have B9 := Lib.hid (show Below _ _ W9 by rw [hW9]; exact hb9.alloc hb9.size _)
        have PN9 := Lib.hid (PN8.out.go B9.out)
        have PM9 := Lib.hid (PM8.out.go B9.out)
        have PQ9 := Lib.hid (PQ8.out.go B9.out)
        have PX9 := Lib.hid (PX8.out.go B9.out)
        have DD9 := Lib.hid (DD8.out.trans (B9.out.mono DD8.out.size))
        have HW9 := Lib.hid hW9
        clear hb9 hW9 y1 y2 y3 y4 hly k1 k2 k3 k4 hlk j1 j2 j3 j4 hlj i1 i2 i3 i4 hli
        go_upto_region 20 with fail
        rw [← HW9.out]
        obtain ⟨y1, y2, y3, y4⟩ := PQ9.out.box.facts
        have hly := PQ9.out.box.lt
        obtain ⟨z1, z2, z3, z4⟩ := PN9.out.box.facts
        have hlz := PN9.out.box.lt
        go_upto_region 21 with fail
        obtain ⟨V1, hV1⟩ : ∃ V, V = (W9.setCell ⟨w3.heap.size, 0, none⟩ (.int .i64 v')).setCell ⟨w3.heap.size, 1, none⟩ (.slice Aq n' cq) := ⟨_, rfl⟩
        have PNA := Lib.hid (show Pb V1 w3.heap.size w3.heap.size (w3.heap.size + 1) v' Aq n' cq L' by rw [hV1]; exact PQ9.out.copy PN9.out.box (.inl rfl))
        have PMA := Lib.hid (show Box V1 (w3.heap.size + 1) #[.int .i64 v, .slice A2 n2 c2] by rw [hV1]; exact (PM9.out.box.set_other ⟨w3.heap.size, 0, none⟩ _ (by simp)).set_other ⟨w3.heap.size, 1, none⟩ _ (by simp))
        have PXA := Lib.hid (show Pb V1 w6.heap.size w3.heap.size (w3.heap.size + 1) v' A6 n' c6 L' by rw [hV1]; exact (PX9.out.set ⟨w3.heap.size, 0, none⟩ _ (.inl rfl) (by simp; omega)).set ⟨w3.heap.size, 1, none⟩ _ (.inl rfl) (by simp; omega))
        have DDA := Lib.hid (show Below w3.heap.size w3 V1 by rw [hV1]; exact (DD9.out.setCell (Nat.le_refl _) _).setCell (Nat.le_refl _) _)
        rw [← hV1]
        clear hV1 y1 y2 y3 y4 hly z1 z2 z3 z4 hlz
        obtain ⟨y1, y2, y3, y4⟩ := PXA.out.box.facts
        have hly := PXA.out.box.lt
        obtain ⟨z1, z2, z3, z4⟩ := PMA.out.facts
        have hlz := PMA.out.lt
        go_wp2
        obtain ⟨V2, hV2⟩ : ∃ V, V = (V1.setCell ⟨w3.heap.size + 1, 0, none⟩ (.int .i64 v')).setCell ⟨w3.heap.size + 1, 1, none⟩ (.slice A6 n' c6) := ⟨_, rfl⟩
        have PNB := Lib.hid (show Pb V2 w3.heap.size w3.heap.size (w3.heap.size + 1) v' Aq n' cq L' by rw [hV2]; exact (PNA.out.set ⟨w3.heap.size + 1, 0, none⟩ _ (.inr rfl) (by simp)).set ⟨w3.heap.size + 1, 1, none⟩ _ (.inr rfl) (by simp))
        have PMB := Lib.hid (show Pb V2 (w3.heap.size + 1) w3.heap.size (w3.heap.size + 1) v' A6 n' c6 L' by rw [hV2]; exact PXA.out.copy PMA.out (.inr rfl))
        have DDB := Lib.hid (show Below w3.heap.size w3 V2 by rw [hV2]; exact (DDA.out.setCell (Nat.le_succ _) _).setCell (Nat.le_succ _) _)
        rw [← hV2]
        clear hV2
        go_roundw
        case rel => exact ⟨i + 1, v', Aq, n', cq, A6, n', c6, L', by omega, by go_num, PNB.out, PMB.out, RN.out, FN.out, DDB.out⟩
        case measure => simp [intOf] <;> omega
      · have RO := Lib.hid (show pRight (v + 1) L = true from pRight_iff.2 ⟨by omega, by omega, II.out.2.2⟩)
        have PN8 := Lib.hid (PN4.out.alloc (.cells #[.int .i64 (v + 1), .slice A n c] 24))
        have PM8 := Lib.hid (PM4.out.alloc (.cells #[.int .i64 (v + 1), .slice A n c] 24))
        have PQ8 := Lib.hid (PQ4.out.alloc (.cells #[.int .i64 (v + 1), .slice A n c] 24))
        have PX8 := Lib.hid (PX4.out.alloc (.cells #[.int .i64 (v + 1), .slice A n c] 24))
        have DD8 := Lib.hid (DD4.out.alloc DD4.out.size (.cells #[.int .i64 (v + 1), .slice A n c] 24))
        have R8 := Lib.hid (R7.out.go ((Below.refl w7.heap.size w7).alloc (Nat.le_refl _) (.cells #[.int .i64 (v + 1), .slice A n c] 24)))
        have AO := Lib.hid (apply_yes (v + 1) L ds A A5 n n5 c c5 _ PN8.out.row FF.out (by omega) R8.out hn5b RO.out)
        rw [show applyV (v + 1) L ds = none by rw [← HDS.out]; exact applyV_other RR.out RN.out RO.out (by omega)] at AO
        go_wp2_with fail
        (with_reducible refine AO.out.mono ?_)
        rintro e w9 ⟨hb9, rfl⟩
        obtain ⟨W9, hW9⟩ : ∃ W9, W9 = w9.alloc (.cells #[.int .i64 0, .slice none 0 0] 24) := ⟨_, rfl⟩
        have B9 := Lib.hid (show Below _ _ W9 by rw [hW9]; exact hb9.alloc hb9.size _)
        have PN9 := Lib.hid (PN8.out.go B9.out)
        have PM9 := Lib.hid (PM8.out.go B9.out)
        have PQ9 := Lib.hid (PQ8.out.go B9.out)
        have PX9 := Lib.hid (PX8.out.go B9.out)
        have DD9 := Lib.hid (DD8.out.trans (B9.out.mono DD8.out.size))
        have HW9 := Lib.hid hW9
        clear hb9 hW9 y1 y2 y3 y4 hly k1 k2 k3 k4 hlk j1 j2 j3 j4 hlj i1 i2 i3 i4 hli
        go_upto_region 20 with fail
        rw [← HW9.out]
        obtain ⟨y1, y2, y3, y4⟩ := PQ9.out.box.facts
        have hly := PQ9.out.box.lt
        obtain ⟨z1, z2, z3, z4⟩ := PN9.out.box.facts
        have hlz := PN9.out.box.lt
        go_upto_region 21 with fail
        obtain ⟨V1, hV1⟩ : ∃ V, V = (W9.setCell ⟨w3.heap.size, 0, none⟩ (.int .i64 v')).setCell ⟨w3.heap.size, 1, none⟩ (.slice Aq n' cq) := ⟨_, rfl⟩
        have PNA := Lib.hid (show Pb V1 w3.heap.size w3.heap.size (w3.heap.size + 1) v' Aq n' cq L' by rw [hV1]; exact PQ9.out.copy PN9.out.box (.inl rfl))
        have PMA := Lib.hid (show Box V1 (w3.heap.size + 1) #[.int .i64 v, .slice A2 n2 c2] by rw [hV1]; exact (PM9.out.box.set_other ⟨w3.heap.size, 0, none⟩ _ (by simp)).set_other ⟨w3.heap.size, 1, none⟩ _ (by simp))
        have PXA := Lib.hid (show Pb V1 w6.heap.size w3.heap.size (w3.heap.size + 1) v' A6 n' c6 L' by rw [hV1]; exact (PX9.out.set ⟨w3.heap.size, 0, none⟩ _ (.inl rfl) (by simp; omega)).set ⟨w3.heap.size, 1, none⟩ _ (.inl rfl) (by simp; omega))
        have DDA := Lib.hid (show Below w3.heap.size w3 V1 by rw [hV1]; exact (DD9.out.setCell (Nat.le_refl _) _).setCell (Nat.le_refl _) _)
        rw [← hV1]
        clear hV1 y1 y2 y3 y4 hly z1 z2 z3 z4 hlz
        obtain ⟨y1, y2, y3, y4⟩ := PXA.out.box.facts
        have hly := PXA.out.box.lt
        obtain ⟨z1, z2, z3, z4⟩ := PMA.out.facts
        have hlz := PMA.out.lt
        go_wp2
        obtain ⟨V2, hV2⟩ : ∃ V, V = (V1.setCell ⟨w3.heap.size + 1, 0, none⟩ (.int .i64 v')).setCell ⟨w3.heap.size + 1, 1, none⟩ (.slice A6 n' c6) := ⟨_, rfl⟩
        have PNB := Lib.hid (show Pb V2 w3.heap.size w3.heap.size (w3.heap.size + 1) v' Aq n' cq L' by rw [hV2]; exact (PNA.out.set ⟨w3.heap.size + 1, 0, none⟩ _ (.inr rfl) (by simp)).set ⟨w3.heap.size + 1, 1, none⟩ _ (.inr rfl) (by simp))
        have PMB := Lib.hid (show Pb V2 (w3.heap.size + 1) w3.heap.size (w3.heap.size + 1) v' A6 n' c6 L' by rw [hV2]; exact PXA.out.copy PMA.out (.inr rfl))
        have DDB := Lib.hid (show Below w3.heap.size w3 V2 by rw [hV2]; exact (DDA.out.setCell (Nat.le_succ _) _).setCell (Nat.le_succ _) _)
        rw [← hV2]
        clear hV2
        go_roundw
        case rel => exact ⟨i + 1, v', Aq, n', cq, A6, n', c6, L', by omega, by go_num, PNB.out, PMB.out, RN.out, FN.out, DDB.out⟩
        case measure => simp [intOf] <;> omega
    · have hge : ¬ (i : Int) < nz := by omega
      have HBr := Lib.hid (below2 HB3.out DD.out)
      have BP := Lib.hid (B3.out.go DD.out)
      have IP := Lib.hid (pRight_iff.1 HK2.out)
      obtain ⟨y1, y2, y3, y4⟩ := PN.out.box.facts
      have hly := PN.out.box.lt
      obtain ⟨z1, z2, z3, z4⟩ := BP.out.facts
      have hlz := BP.out.lt
      have DV := Lib.hid (show deltaV v0 v l0 L = some (deltaB v0 v l0 L) by unfold deltaV; rw [HK2.out, RR.out]; rfl)
      have DE := Lib.hid (delta_any v0 v l0 L A0 A n0 n c0 c wr (HR.out.go HBr.out) PN.out.row HF.out FF.out (by omega) (by omega) _ DV.out)
      go_wp2_with fail
      (with_reducible refine DE.out.mono ?_)
      rintro e w5 ⟨hb5, A5, n5, c5, rfl, hn5, ho5⟩
      have BP5 := Lib.hid (BP.out.go hb5)
      have PM5 := Lib.hid (PM.out.go hb5)
      have HB5 := Lib.hid (below2 HBr.out hb5)
      obtain ⟨ds, hds⟩ : ∃ ds, deltaB v0 v l0 L = ds := ⟨_, rfl⟩
      have HDS := Lib.hid hds
      have R5 := Lib.hid (show RdB w5 w5.heap.size A5 n5 ds by rw [hds] at hn5 ho5; rw [hn5] at ho5 ⊢; exact RdB.of_own ho5)
      have hn5b : n5 ≤ 1000000000 := by
        rw [hn5]
        have h1 := textsB_len (goneL l0 L) (goneL_small (fun x hx => (right_lay HK2.out x hx).1))
        have h2 := bksB_len (otherL l0 L) (fun y hy => layBk_told (right_lay RR.out y (otherL_mem hy)))
        have h3 := goneL_len l0 L
        have h4 := otherL_len l0 L
        have h5 := IP.out.2.2.1
        have h6 := II.out.2.2.1
        have h7 := numsB_len [v0, v, ((goneL l0 L).length : Int)]
        have h8 := (varB_len (otherL l0 L).length).2
        unfold deltaB bksB
        simp only [List.length_append, List.length_cons, List.length_nil] at h7 ⊢
        omega
      clear hb5 hn5 ho5 hds y1 y2 y3 y4 hly z1 z2 z3 z4 hlz
      obtain ⟨z1, z2, z3, z4⟩ := BP5.out.facts
      have hlz := BP5.out.lt
      have AP := Lib.hid (apply_yes v0 l0 ds A0 A5 n0 n5 c0 c5 w5 (HR.out.go HB5.out) HF.out (by omega) R5.out hn5b HK2.out)
      rw [show applyV v0 l0 ds = some (v, L) by rw [← HDS.out]; exact applyV_delta HK2.out RR.out] at AP
      go_wp2_with fail
      (with_reducible refine AP.out.mono ?_)
      rintro e w6 ⟨hb6, A6, c6, rfl, ho6⟩
      have HNL : Hid (L.length = n) := Lib.hid PN.out.row.1
      rw [HNL.out] at ho6 ⊢
      obtain ⟨W6, hW6⟩ : ∃ W6, W6 = w6.alloc (.cells #[.int .i64 v, .slice A6 n c6] 24) := ⟨_, rfl⟩
      have B6 := Lib.hid (show Below w5.heap.size w5 W6 by rw [hW6]; exact hb6.alloc hb6.size _)
      have PM6 := Lib.hid (PM5.out.go B6.out)
      have HB6 := Lib.hid (below2 HB5.out B6.out)
      have X6 := Lib.hid (show Box W6 w6.heap.size #[.int .i64 v, .slice A6 n c6] by rw [hW6]; exact Box.new w6 _ _)
      have RX6 := Lib.hid (show RdR Bk.arr 27 W6 W6.heap.size A6 n L by rw [hW6]; exact (RdR.of_own HNL.out ho6).up _)
      have HW6 := Lib.hid hW6
      clear hb6 ho6 hW6 z1 z2 z3 z4 hlz
      obtain ⟨y1, y2, y3, y4⟩ := X6.out.facts
      have hly := X6.out.lt
      obtain ⟨z1, z2, z3, z4⟩ := PM6.out.box.facts
      have hlz := PM6.out.box.lt
      have SM := Lib.hid (pSame_any L L v v A6 A2 n n2 c6 c2 W6 RX6.out PM6.out.row (by rw [HNL.out]; omega) (by rw [HNL.out]; omega))
      rw [same_self2 v FF.out] at SM
      go_upto_region 24 with fail
      rw [← HW6.out]
      go_wp2_with fail
      (with_reducible refine SM.out.mono ?_)
      rintro e w7 ⟨rfl, hb7⟩
      have HB7 := Lib.hid (below2 HB6.out hb7)
      clear hb7
      go_wp2
      go_ret
      exact ⟨rfl, HB7.out⟩

set_option maxRecDepth 100000 in
theorem snapSteps_lifted (os : Os) (started : os.Started) (H : Type) (enc : TypeId × Value → H) :
    ReturnsInHanded {} Tryz.checked os 9 .any (Rows.snapStepsSpec.pre6 enc Tryz.prog Tryz.f9 Rows.snapStepsRow.domain false) (Rows.snapStepsSpec.post enc Tryz.prog Tryz.f9 false true false false) := by
  refine returnsInHanded_of_change (C := Tryz.checked) own started (by kernel_rfl) Tryz.func9
    (ChangeSpec.witness6 (enc := enc) (C := Tryz.checked) false ⟨#[], #[.agg #[.int .i64 0, .slice none 0 0], .slice none 0 0], []⟩ 8 (by kernel_rfl) (by kernel_rfl) (by kernel_rfl) (by kernel_rfl)) ?_
  intro W base args ds gs before hval0 hW hcnd _
  have hval : ∀ (j : Nat) t v, Tryz.f9.params[j]? = some t → args[j]? = some v → Value.okWide Tryz.prog W .any base t v := hval0
  have hW' := hW
  obtain ⟨p, q, hA0, hV, rfl, hfz, hnd⟩ := hW
  have hA : DataW.TrodAll enc Tryz.prog W 0 (fun _ => true) true Tryz.f9.params.toList args.toList ds p := hA0
  rw [Tryz.params9] at hA hval
  obtain ⟨v0, vs0, d0, ds0, p0, q0, hargs, rfl, rfl, h0, r0⟩ := trodAll_cons hA
  obtain ⟨v1, vs1, d1, ds1, p1, q1, rfl, rfl, rfl, h1, r1⟩ := trodAll_cons r0
  obtain ⟨rfl, rfl, rfl⟩ := trodAll_nil r1
  obtain rfl : args = #[v0, v1] := by cases args; simp_all
  obtain ⟨zp, Ap, np, cp, lp, rfl, hzp, hRp, hgp, hmp⟩ := open_pool (hval 0 24 v0 rfl rfl) h0
  obtain ⟨Az, nz, cz, lz, rfl, hRz, hgz, hmz⟩ := open_oprs (hval 1 62 v1 rfl rfl) h1
  clear hA0 hval0
  refine (snapSteps_walk zp Ap np cp lp Az nz cz lz W hRp hgp hmp hRz hgz hmz).mono fun e W' ⟨he, hb⟩ => ?_
  subst he
  exact ⟨_, rfl, law_post laidOut rfl (by kernel_rfl) 4 Tryz.underlying4 rfl hW' rfl hb⟩
theorem snapSteps_holds : Rows.SnapStepsSaid :=
  OpenClaim.holds_of_wide 9 Tryz.f9 rfl rfl rfl rfl rfl rfl rfl ⟨rfl, rfl, rfl, rfl, rfl⟩ rfl rfl rfl rfl rfl (by kernel_rfl) Tryz.func9 (by kernel_rfl)
    (of_decide_eq_true (by kernel_rfl)) (by unfold Func.isWrapper; first | (rw [if_pos (by decide +kernel)]; kernel_rfl) | (rw [if_neg (by decide +kernel)]; exact ⟨rfl, rfl⟩))
    (fun os started H enc _ => snapSteps_lifted os started H enc)
#print axioms snapSteps_holds
end Go.Proofs.YtmpemeemlhmaaaaGreat
