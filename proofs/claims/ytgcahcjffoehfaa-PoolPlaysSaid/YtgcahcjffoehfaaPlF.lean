/- PoolPlays: whatever is done, one behind the other, from an empty pool on: the pool is right, its version is how often something was done, a backend is there just if the last that was done of its name isn't that it was removed, and has what it was given last. No condition. -/
import Derived.Test.YtgcahcjffoehfaaPlE
set_option linter.unusedSimpArgs false
set_option linter.unusedVariables false
namespace Go.Proofs.Ytgcahcjffoehfaa
open Go.ChangeShapes Go.WideShapes Go.ChangeAt Go.RowKit

theorem toW_self (x : Bk) : x.toW x.w = x := rfl
theorem fewOpsL_any (L : List Opr) (A : Option Addr) (n c : Nat) (w : World) (hR : RdO w w.heap.size A n L) (hn : n ≤ 9223372036854775807) (K : Bool) (hK : fewOps L = K) :
    Calls Try.prog 18 #[.slice A n c] w fun e w' => e = .returned (.bool K) ∧ w = w' := by
  subst hK
  obtain rfl := hR.1
  exact fewOps_any L A c w hR hn
theorem fewOps_le {L : List Opr} (h : fewOps L = true) : L.length ≤ 60 := by
  unfold fewOps at h; simp at h; exact h.2

set_option maxHeartbeats 4000000 in
set_option maxRecDepth 100000 in
theorem poolPlays_few (L : List Opr) (A0 : Option Addr) (N c0 : Nat) (w : World) (hg : ∀ o ∈ L, o.good) (hR : RdO w w.heap.size A0 N L) (hn : N ≤ 9223372036854775807) (hK : fewOps L = false) :
    Calls Try.prog 5 #[.slice A0 N c0] w fun e w' => e = .returned (.bool true) ∧ Below w.heap.size w w' := by
  have R0 := Lib.hid hR
  have HGD := Lib.hid hg
  have HNL := Lib.hid hR.1
  have HB0 := Lib.hid (Below.refl w.heap.size w)
  have HK := Lib.hid hK
  clear hR hg hK
  go_enter Try.func5, Try.ntmps5
  go_wp2_with fail
  refine (awake_any _).mono ?_
  rintro e w1 ⟨rfl, hb1⟩
  have R0 := Lib.hid (R0.out.go hb1)
  have HB0 := Lib.hid (call0 HB0.out hb1)
  clear hb1
  go_wp2_with fail
  refine (fewOpsL_any L A0 N c0 _ R0.out hn _ HK.out).mono ?_
  rintro e wz ⟨rfl, rfl⟩
  go_wp2_with fail
  refine (awake_any _).mono ?_
  rintro e w2 ⟨rfl, hb1⟩
  have HB0 := Lib.hid (call0 HB0.out hb1)
  clear hb1
  go_wp2
  go_ret
  exact ⟨rfl, HB0.out⟩

set_option maxHeartbeats 4000000 in
set_option maxRecDepth 100000 in
theorem poolPlays_main (L : List Opr) (A0 : Option Addr) (N c0 : Nat) (w : World) (hg : ∀ o ∈ L, o.good) (hR : RdO w w.heap.size A0 N L) (hn : N ≤ 9223372036854775807) (hK : fewOps L = true) :
    Calls Try.prog 5 #[.slice A0 N c0] w fun e w' => e = .returned (.bool true) ∧ Below w.heap.size w w' := by
  have R0 := Lib.hid hR
  have HGD := Lib.hid hg
  have HNL := Lib.hid hR.1
  have HB0 := Lib.hid (Below.refl w.heap.size w)
  have HK := Lib.hid hK
  have hN60 : N ≤ 60 := by rw [← HNL.out]; exact fewOps_le hK
  clear hR hg hK
  go_enter Try.func5, Try.ntmps5
  go_wp2_with fail
  refine (awake_any _).mono ?_
  rintro e w1 ⟨rfl, hb1⟩
  have R0 := Lib.hid (R0.out.go hb1)
  have HB0 := Lib.hid (call0 HB0.out hb1)
  clear hb1
  go_wp2_with fail
  refine (fewOpsL_any L A0 N c0 _ R0.out hn _ HK.out).mono ?_
  rintro e wz ⟨rfl, rfl⟩
  go_wp2_with fail
  go_loopw [4, 5] (fun s4 s5 wr => ∃ (i : Nat) (v : Int) (A : Option Addr) (n c : Nat) (l : List Bk), i ≤ N ∧ s5 = .int .i64 i ∧ s4 = .int .i64 v ∧ 0 ≤ v ∧ v ≤ i ∧ Box wr w1.heap.size #[.int .i64 v, .slice A n c] ∧ RdK wr wr.heap.size A n l ∧ (∀ a, A = some a → w1.heap.size < a.block) ∧ pRight v l = true ∧ (∀ x ∈ l, x.fine) ∧ Below w1.heap.size w1 wr) (fun _ s5 _ => N - (intOf s5).toNat)
  case atStart => exact ⟨0, 0, none, 0, 0, [], by omega, rfl, rfl, by omega, by omega, Box.new w1 _ _, RdK.nil _ _, (fun a h => by cases h), by decide +kernel, by simp, (Below.refl _ _).alloc (Nat.le_refl _) _⟩
  case round =>
    obtain ⟨i, v, A, n, c, l, hin, rfl, rfl, hv0, hvi, hbp, hrp, hab, hpr, hfl, hb⟩ := hrel
    have Bp := Lib.hid hbp
    have Rp := Lib.hid hrp
    have HAB := Lib.hid hab
    have HPR := Lib.hid hpr
    have HFL := Lib.hid hfl
    have HB1 := Lib.hid hb
    have HB0 := Lib.hid (call0 HB0.out hb)
    have ro := R0.out.go hb
    have lbp : w1.heap.size < wr.heap.size := hbp.lt
    clear hbp hrp hab hb
    by_cases hlt : i < N
    · have hi : (i : Int) < N := by omega
      obtain ⟨b0, o0, rfl, hb0, hcell⟩ := ro.cell hlt
      have hmem : oAt L i ∈ L := by
        have := HNL.out
        unfold oAt
        rw [List.getD_eq_getElem?_getD, List.getElem?_eq_getElem (by omega)]; simp
      have hgo := HGD.out _ hmem
      obtain ⟨o, ho⟩ : ∃ o, o = oAt L i := ⟨_, rfl⟩
      rw [← ho] at hcell hgo
      have AT := Lib.hid (show OpAt wr b0 (o0 + i * 30) o from ⟨hb0, hcell⟩)
      have hof := hgo.1.1
      have how := hgo.2.1
      obtain ⟨_, hv40, hl1024, _, hsr⟩ := pRight_iff.1 hpr
      have HS := Lib.hid hsr
      have DO := Lib.hid (fun A n c W (h : RdK W W.heap.size A n l) => doD_any l HS.out v (by omega) o hof how A n c W h (by omega) _ _ _ _ rfl rfl rfl rfl)
      have HDR := Lib.hid (fun h => done_right (o := o) hpr hfl hof how h)
      have HDT := Lib.hid (fun h => done_there (o := o) hpr hfl hof how h)
      have HSQ := Lib.hid (done_srt (v := v) hsr o)
      have HOK := Lib.hid (fun h => why_ok (v := v) (l := l) (o := o) h)
      have HNE := Lib.hid (show whyNot v l o ≠ 0 → doV v l o = v ∧ doL v l o = l from fun h => ⟨by simp [doV, h], by simp [doL, h]⟩)
      have HEQ := Lib.hid (show whyNot v l o = 0 → doV v l o = v + 1 from fun h => by simp [doV, h])
      have hdl := done_len (v := v) (l := l) o
      have hlq : (doL v l o).length ≤ 100000 := by
        rw [hdl]
        split
        · omega
        · split <;> omega
      have HLQ := Lib.hid hlq
      obtain ⟨who, hwho⟩ : ∃ who, o.who = who := ⟨_, rfl⟩
      have hwk : who = if o.kind = 1 then o.bk.name else o.name := by rw [← hwho]; rfl
      have HWK := Lib.hid hwk
      rw [hwho] at HDT
      obtain ⟨er, her⟩ : ∃ er, whyNot v l o = er := ⟨_, rfl⟩
      obtain ⟨v', hv'⟩ : ∃ v', doV v l o = v' := ⟨_, rfl⟩
      obtain ⟨l', hl'⟩ : ∃ l', doL v l o = l' := ⟨_, rfl⟩
      rw [hl'] at HSQ HLQ
      rw [her, hv', hl'] at DO HNE
      rw [her, hl'] at HDR HDT
      rw [her] at HOK
      rw [her, hv'] at HEQ
      obtain ⟨n', hn'⟩ : ∃ n', l'.length = n' := ⟨_, rfl⟩
      rw [hn'] at DO
      obtain ⟨K0, hK0⟩ : ∃ K, hasN l who = K := ⟨_, rfl⟩
      obtain ⟨g0, hg0⟩ : ∃ g, gotN l who = g := ⟨_, rfl⟩
      obtain ⟨K1, hK1⟩ : ∃ K, hasN l' who = K := ⟨_, rfl⟩
      obtain ⟨g1, hg1⟩ : ∃ g, gotN l' who = g := ⟨_, rfl⟩
      have F0 := Lib.hid (fun A n c W (h : RdK W W.heap.size A n l) => findP_any l HS.out who v A n c W h (by omega) K0 g0 hK0 hg0)
      have F1 := Lib.hid (fun A n c W (h : RdK W W.heap.size A n l') => findP_any l' HSQ.out who v' A n c W h HLQ.out K1 g1 hK1 hg1)
      have HBASE := Lib.hid (show baseOf l o = if o.kind = 1 then o.bk else if o.kind = 3 then g0.toW o.w else if o.kind = 4 then g0.toD true else if o.kind = 5 then g0.toD false else g0 by unfold baseOf; rw [hwho, hg0])
      rw [hK0, hK1, hg1] at HDT
      clear hmem hgo ho hpr hfl hsr hdl hlq hwho hwk her hv' hl' hn' hK0 hg0 hK1 hg1 ro hcell
      obtain ⟨xp1, xp2, xp3, xp4⟩ := Bp.out.facts
      have lp := Bp.out.lt
      obtain ⟨y1, y2, y3, y4, y5, y6, y7, y8⟩ := AT.out.facts
      have lat := AT.out.1
      go_upto_if 39 with fail
      go_cut [6] from 23 to 160 (fun s6 wx => s6 = .string (textOf who) ∧ wr = wx)
      case first =>
        by_cases hk1 : o.kind = 1
        · have HWN := Lib.hid (show who = o.bk.name by rw [HWK.out]; simp [hk1])
          go_wp2_with fail
          go_meet
          case rel => exact ⟨by rw [HWN.out], rfl⟩
        · have HWN := Lib.hid (show who = o.name by rw [HWK.out]; simp [hk1])
          have hk1' : (o.kind == 1) = false := by simpa using hk1
          go_wp2_with fail
          go_meet
          case rel => exact ⟨by rw [HWN.out], rfl⟩
      obtain ⟨rfl, rfl⟩ := hcut
      go_wp2_with fail
      refine (F0.out A n c _ Rp.out).mono ?_
      rintro e w2 ⟨rfl, hb1⟩
      have HBQ := Lib.hid hb1
      have Bp := Lib.hid ((Bp.out).go hb1)
      have Rp := Lib.hid ((Rp.out).go hb1)
      have HB0 := Lib.hid (call0 HB0.out hb1)
      clear y1 y2 y3 y4 y5 y6 y7 y8 lat
      have AT := Lib.hid (AT.out.go hb1)
      have HB1 := Lib.hid (below_more HB1.out hb1)
      clear hb1
      clear xp1 xp2 xp3 xp4 lp
      obtain ⟨xp1, xp2, xp3, xp4⟩ := Bp.out.facts
      have lp := Bp.out.lt
      obtain ⟨y1, y2, y3, y4, y5, y6, y7, y8⟩ := AT.out.facts
      have lat := AT.out.1
      go_wp2_with fail
      have Bw := Lib.hid (Box.new w2 g0.arr 36)
      have Bp := Lib.hid (Bp.out.alloc (.cells g0.arr 36))
      have Rp := Lib.hid (Rp.out.up (.cells g0.arr 36))
      have HB0 := Lib.hid (HB0.out.alloc HB0.out.size (.cells g0.arr 36))
      have HB1 := Lib.hid (HB1.out.alloc HB1.out.size (.cells g0.arr 36))
      have AT := Lib.hid (AT.out.go ((Below.refl _ _).alloc (Nat.le_refl _) (.cells g0.arr 36)))
      clear xp1 xp2 xp3 xp4 lp
      clear y1 y2 y3 y4 y5 y6 y7 y8 lat
      obtain ⟨wD, hwD⟩ : ∃ wD : World, wD = w2.alloc (.cells g0.arr 36) := ⟨_, rfl⟩
      rw [← hwD] at Bw Bp Rp HB0 HB1 AT ⊢
      clear hwD
      have lbD : w1.heap.size < wD.heap.size := Bp.out.lt
      go_cut [9, 10] from 23 to 160 (fun s9 s10 wx => ∃ bq Aq cq, s9 = .pointer (some ⟨bq, 0, none⟩) ∧ s10 = .int .i64 er ∧ Box wx bq #[.int .i64 v', .slice Aq n' cq] ∧ RdK wx wx.heap.size Aq n' l' ∧ (∀ a, Aq = some a → w1.heap.size < a.block) ∧ w1.heap.size < bq ∧ Below wD.heap.size wD wx)
      case first =>
        have KS := Lib.hid (show ∀ W', Below wD.heap.size wD W' → W'.cell? ⟨w1.heap.size, 0, none⟩ = some (.int .i64 v) ∧ W'.cell? ⟨w1.heap.size, 1, none⟩ = some (.slice A n c) ∧ (loadOpr (.pointer (some ⟨b0, o0 + i * 30, none⟩))).run Try.prog W' = .ok (.agg o.arr) W' from fun W' h => by
          have hx := (Bp.out.below h Bp.out.lt).facts.1
          obtain ⟨_, _, _, _, z5, z6, _, _⟩ := (AT.out.go h).facts
          exact ⟨by rw [hx]; rfl, by rw [hx]; rfl, by rw [load_opr _ _ _ z5, z6]⟩)
        obtain ⟨s1, s2, s3⟩ := KS.out _ (Below.refl _ _)
        go_region_held3 (fun W' => W'.cell? ⟨w1.heap.size, 0, none⟩ = some (.int .i64 v) ∧ W'.cell? ⟨w1.heap.size, 1, none⟩ = some (.slice A n c) ∧ (loadOpr (.pointer (some ⟨b0, o0 + i * 30, none⟩))).run Try.prog W' = .ok (.agg o.arr) W')
          (first | exact KS.out _ (Below.refl _ _) | exact KS.out _ (Below.refl _ _).drew | exact KS.out _ ((Below.refl _ _).alloc (Nat.le_refl _) _) | exact KS.out _ ((Below.refl _ _).alloc (Nat.le_refl _) _).drew | exact KS.out _ HB4.out | exact KS.out _ (HB4.out.alloc HB4.out.size _) | exact KS.out _ ((HB4.out.setCell (Nat.le_refl _) _)) | exact KS.out _ ((HB4.out.setCell (Nat.le_refl _) _).setCell (Nat.le_refl _) _) | go_keep)
          (first
          | (go_at_call 19; (with_reducible refine (DO.out A n c _ Rp.out.drewz).mono ?_); rintro e w4 ⟨A4, c4, rfl, hR4, hA4, hb4⟩; have HB4 := Lib.hid (below1d hb4); have R4 := Lib.hid hR4; have HA4 := Lib.hid (fun a ha => Nat.lt_of_lt_of_le lbD (hA4 a ha)); clear hb4 hR4 hA4)
          | (go_at_call 19; (with_reducible refine (DO.out A n c _ (Rp.out.upd _)).mono ?_); rintro e w4 ⟨A4, c4, rfl, hR4, hA4, hb4⟩; have hb5 := below1d hb4; obtain ⟨z1, z2, z3, z4⟩ := ((Box.new wD _ _).go hb5).facts; have lz := ((Box.new wD _ _).go hb5).lt; have BZ := Lib.hid ((Box.new wD _ _).go hb5); have HB4 := Lib.hid (((Below.refl wD.heap.size wD).alloc (Nat.le_refl _) _).trans (hb5.mono (by simp))); have R4 := Lib.hid hR4; have HA4 := Lib.hid (fun a ha => Nat.lt_of_lt_of_le (show wD.heap.size < _ by simp) (hA4 a ha)); clear hb4 hR4 hA4 hb5))
        all_goals
          go_wp2_with fail
          go_meet
          case rel =>
            first
              | exact ⟨_, A4, c4, rfl, rfl, Box.new _ _ _, R4.out.up _, HA4.out, Nat.lt_of_lt_of_le lbD HB4.out.size, HB4.out.alloc HB4.out.size _⟩
              | exact ⟨wD.heap.size, A4, c4, rfl, rfl, (BZ.out.set_same 0 _).set_same 1 _, (R4.out.setOther _ (fun a ha => HA4.out a ha)).setOther _ (fun a ha => HA4.out a ha), (fun a ha => Nat.lt_trans lbD (HA4.out a ha)), lbD, (HB4.out.setCell (Nat.le_refl _) _).setCell (Nat.le_refl _) _⟩
      obtain ⟨bq, Aq, cq, rfl, rfl, hbq, hrq, habq, lbq, hb1⟩ := hcut
      have Bp := Lib.hid ((Bp.out).go hb1)
      have Bw := Lib.hid ((Bw.out).go hb1)
      have Rp := Lib.hid ((Rp.out).go hb1)
      have HB0 := Lib.hid (call0 HB0.out hb1)
      have AT := Lib.hid (AT.out.go hb1)
      have HB1 := Lib.hid (below_more HB1.out hb1)
      have Bq := Lib.hid hbq
      have Rq := Lib.hid hrq
      have HABQ := Lib.hid habq
      clear hb1 hbq hrq habq
      obtain ⟨xp1, xp2, xp3, xp4⟩ := Bp.out.facts
      have lp := Bp.out.lt
      obtain ⟨xq1, xq2, xq3, xq4⟩ := Bq.out.facts
      have lq := Bq.out.lt
      obtain ⟨xw1, xw2, xw3, xw4⟩ := Bw.out.facts
      have lw := Bw.out.lt
      obtain ⟨y1, y2, y3, y4, y5, y6, y7, y8⟩ := AT.out.facts
      have lat := AT.out.1
      by_cases he : er = 0
      rotate_left
      · skip
        have hne : (er != 0) = true := by simpa using he
        obtain ⟨e1, e2⟩ := HNE.out he
        subst e1
        subst e2
        clear he
        go_wp2_with fail
        refine (same_self v' HFL.out ▸ sameP_any l' l' v' v' A Aq n n' c cq _ Rp.out Rq.out (by omega) (by omega)).mono ?_
        rintro e w3 ⟨rfl, hb1⟩
        have HBQ := Lib.hid hb1
        have Bp := Lib.hid ((Bp.out).go hb1)
        have Bw := Lib.hid ((Bw.out).go hb1)
        have Bq := Lib.hid ((Bq.out).go hb1)
        have Rp := Lib.hid ((Rp.out).go hb1)
        have Rq := Lib.hid ((Rq.out).go hb1)
        have HB0 := Lib.hid (call0 HB0.out hb1)
        clear y1 y2 y3 y4 y5 y6 y7 y8 lat
        have AT := Lib.hid (AT.out.go hb1)
        have HB1 := Lib.hid (below_more HB1.out hb1)
        clear hb1
        clear xp1 xp2 xp3 xp4 lp
        clear xq1 xq2 xq3 xq4 lq
        clear xw1 xw2 xw3 xw4 lw
        obtain ⟨xp1, xp2, xp3, xp4⟩ := Bp.out.facts
        have lp := Bp.out.lt
        obtain ⟨xq1, xq2, xq3, xq4⟩ := Bq.out.facts
        have lq := Bq.out.lt
        obtain ⟨y1, y2, y3, y4, y5, y6, y7, y8⟩ := AT.out.facts
        have lat := AT.out.1
        go_wp2
        go_roundw
        case rel => exact ⟨i + 1, v', A, n, c, l', by omega, by go_num, rfl, by omega, by omega, Bp.out, Rp.out, HAB.out, HPR.out, HFL.out, HB1.out⟩
        case measure => simp [intOf] <;> omega
      · skip
        obtain ⟨k1, k5, kv, ka, kw, kn⟩ := HOK.out he
        have hv' := HEQ.out he
        obtain ⟨hpr', hfl'⟩ := HDR.out he
        obtain ⟨t1, t2, t3, t4, t5⟩ := HDT.out he
        have HPR := Lib.hid hpr'
        have HFQ := Lib.hid hfl'
        have T3 := Lib.hid t3
        have T1 := Lib.hid t1
        have T2 := Lib.hid t2
        have T5 := Lib.hid t5
        subst hv'
        subst he
        clear hpr' hfl' t1 t2 t3 t5 ka kw kn
        have hvv : (v + 1 != v + 1) = false := by simp
        rcases (show o.kind = 1 ∨ o.kind = 2 ∨ o.kind = 3 ∨ o.kind = 4 ∨ o.kind = 5 by omega) with hk | hk | hk | hk | hk
        · skip
          have HK := Lib.hid hk
          have hk0 : K0 = false := by have := T1.out; rw [hk] at this; cases K0 <;> simp_all
          have hk9 : K1 = true := by have := T2.out; rw [hk] at this; cases K1 <;> simp_all
          subst hk0
          subst hk9
          have hba : baseOf l o = o.bk := by rw [HBASE.out]; simp [hk]
          have t5 := T5.out
          rw [hba] at t5
          have t3 := T3.out (by omega)
          rw [hba] at t3
          have T4 := Lib.hid t3
          clear t3
          have T6 := Lib.hid t5
          clear hba t5
          go_wp2_with fail
          refine (F1.out Aq n' cq _ Rq.out).mono ?_
          rintro e w3 ⟨rfl, hb1⟩
          have HBQ := Lib.hid hb1
          have Bp := Lib.hid ((Bp.out).go hb1)
          have Bw := Lib.hid ((Bw.out).go hb1)
          have Bq := Lib.hid ((Bq.out).go hb1)
          have Rp := Lib.hid ((Rp.out).go hb1)
          have Rq := Lib.hid ((Rq.out).go hb1)
          have HB0 := Lib.hid (call0 HB0.out hb1)
          clear y1 y2 y3 y4 y5 y6 y7 y8 lat
          have AT := Lib.hid (AT.out.go hb1)
          have HB1 := Lib.hid (below_more HB1.out hb1)
          clear hb1
          clear xp1 xp2 xp3 xp4 lp
          clear xq1 xq2 xq3 xq4 lq
          clear xw1 xw2 xw3 xw4 lw
          obtain ⟨xp1, xp2, xp3, xp4⟩ := Bp.out.facts
          have lp := Bp.out.lt
          obtain ⟨xq1, xq2, xq3, xq4⟩ := Bq.out.facts
          have lq := Bq.out.lt
          obtain ⟨xw1, xw2, xw3, xw4⟩ := Bw.out.facts
          have lw := Bw.out.lt
          obtain ⟨y1, y2, y3, y4, y5, y6, y7, y8⟩ := AT.out.facts
          have lat := AT.out.1
          go_wp2_with fail
          refine (rightP_any l' HFQ.out (v + 1) Aq n' cq _ ((Rq.out).up _) HLQ.out true HPR.out).mono ?_
          rintro e w4 ⟨rfl, hb1⟩
          have HBQ := Lib.hid hb1
          have Bp := Lib.hid (((Bp.out).alloc _).go hb1)
          have Bw := Lib.hid (((Bw.out).alloc _).go hb1)
          have Bq := Lib.hid (((Bq.out).alloc _).go hb1)
          have Bn := Lib.hid (((Box.new w3 _ _)).go hb1)
          have Rp := Lib.hid (((Rp.out).up _).go hb1)
          have Rq := Lib.hid (((Rq.out).up _).go hb1)
          have HB0 := Lib.hid (call1 HB0.out hb1)
          clear y1 y2 y3 y4 y5 y6 y7 y8 lat
          have AT := Lib.hid ((AT.out.go ((Below.refl _ _).alloc (Nat.le_refl _) _)).go hb1)
          have HB1 := Lib.hid (below_more (HB1.out.alloc HB1.out.size _) hb1)
          clear hb1
          clear xp1 xp2 xp3 xp4 lp
          clear xq1 xq2 xq3 xq4 lq
          clear xw1 xw2 xw3 xw4 lw
          obtain ⟨xp1, xp2, xp3, xp4⟩ := Bp.out.facts
          have lp := Bp.out.lt
          obtain ⟨xq1, xq2, xq3, xq4⟩ := Bq.out.facts
          have lq := Bq.out.lt
          obtain ⟨xw1, xw2, xw3, xw4⟩ := Bw.out.facts
          have lw := Bw.out.lt
          obtain ⟨xn1, xn2, xn3, xn4⟩ := Bn.out.facts
          have ln := Bn.out.lt
          obtain ⟨y1, y2, y3, y4, y5, y6, y7, y8⟩ := AT.out.facts
          have lat := AT.out.1
          obtain ⟨u0, hu0⟩ : ∃ u, u = o.bk.w := ⟨_, rfl⟩
          have HU := Lib.hid hu0
          clear hu0
          rcases (show (FloatKind.f64.format.order o.bk.w 0 == some .eq) = true ∨ (FloatKind.f64.format.order o.bk.w 0 == some .eq) = false by cases (FloatKind.f64.format.order o.bk.w 0 == some .eq) <;> simp) with h0 | h0
          · have HZ := Lib.hid h0
            have hsame : sameOne g1 (o.bk.toW 0) = true := by
              have := T4.out
              rwa [show wPlain o.bk.w = 0 by unfold wPlain ord; show (if (FloatKind.f64.format.order o.bk.w 0 == some .eq) = true then 0 else o.bk.w) = _; rw [HZ.out]; rfl] at this
            have HSM := Lib.hid hsame
            clear hsame
            go_wp2_with fail
            refine (HSM.out ▸ sameOne_any g1 (o.bk.toW 0) t4 (show (0 : Nat) < 18446744073709551616 by decide) _).mono ?_
            rintro e w5 ⟨rfl, hb1⟩
            have HBQ := Lib.hid hb1
            have Bp := Lib.hid (((Bp.out).alloc _).go hb1)
            have Bw := Lib.hid (((Bw.out).alloc _).go hb1)
            have Bq := Lib.hid (((Bq.out).alloc _).go hb1)
            have Bn := Lib.hid (((Bn.out).alloc _).go hb1)
            have Bm := Lib.hid (((Box.new w4 _ _)).go hb1)
            have Rp := Lib.hid (((Rp.out).up _).go hb1)
            have Rq := Lib.hid (((Rq.out).up _).go hb1)
            have HB0 := Lib.hid (call1 HB0.out hb1)
            clear y1 y2 y3 y4 y5 y6 y7 y8 lat
            have AT := Lib.hid ((AT.out.go ((Below.refl _ _).alloc (Nat.le_refl _) _)).go hb1)
            have HB1 := Lib.hid (below_more (HB1.out.alloc HB1.out.size _) hb1)
            clear hb1
            clear xp1 xp2 xp3 xp4 lp
            clear xq1 xq2 xq3 xq4 lq
            clear xw1 xw2 xw3 xw4 lw
            clear xn1 xn2 xn3 xn4 ln
            obtain ⟨xp1, xp2, xp3, xp4⟩ := Bp.out.facts
            have lp := Bp.out.lt
            obtain ⟨xq1, xq2, xq3, xq4⟩ := Bq.out.facts
            have lq := Bq.out.lt
            obtain ⟨y1, y2, y3, y4, y5, y6, y7, y8⟩ := AT.out.facts
            have lat := AT.out.1
            go_wp2
            go_roundw
            case rel => exact ⟨i + 1, v + 1, Aq, n', cq, l', by omega, by go_num, by go_num, by omega, by omega, (Bp.out.set_same 0 _).set_same 1 _, (Rq.out.setOther _ (fun a ha => HABQ.out a ha)).setOther _ (fun a ha => HABQ.out a ha), HABQ.out, HPR.out, HFQ.out, (HB1.out.setCell (Nat.le_refl _) _).setCell (Nat.le_refl _) _⟩
            case measure => simp [intOf] <;> omega
          · have HZ := Lib.hid h0
            have hsame : sameOne g1 o.bk = true := by
              have := T4.out
              rwa [show wPlain o.bk.w = o.bk.w by unfold wPlain ord; show (if (FloatKind.f64.format.order o.bk.w 0 == some .eq) = true then 0 else o.bk.w) = _; rw [HZ.out]; rfl] at this
            have HSM := Lib.hid hsame
            clear hsame
            go_wp2_with fail
            refine (HSM.out ▸ sameOne_any g1 o.bk t4 (T6.out) _).mono ?_
            rintro e w5 ⟨rfl, hb1⟩
            have HBQ := Lib.hid hb1
            have Bp := Lib.hid (((Bp.out).alloc _).go hb1)
            have Bw := Lib.hid (((Bw.out).alloc _).go hb1)
            have Bq := Lib.hid (((Bq.out).alloc _).go hb1)
            have Bn := Lib.hid (((Bn.out).alloc _).go hb1)
            have Bm := Lib.hid (((Box.new w4 _ _)).go hb1)
            have Rp := Lib.hid (((Rp.out).up _).go hb1)
            have Rq := Lib.hid (((Rq.out).up _).go hb1)
            have HB0 := Lib.hid (call1 HB0.out hb1)
            clear y1 y2 y3 y4 y5 y6 y7 y8 lat
            have AT := Lib.hid ((AT.out.go ((Below.refl _ _).alloc (Nat.le_refl _) _)).go hb1)
            have HB1 := Lib.hid (below_more (HB1.out.alloc HB1.out.size _) hb1)
            clear hb1
            clear xp1 xp2 xp3 xp4 lp
            clear xq1 xq2 xq3 xq4 lq
            clear xw1 xw2 xw3 xw4 lw
            clear xn1 xn2 xn3 xn4 ln
            obtain ⟨xp1, xp2, xp3, xp4⟩ := Bp.out.facts
            have lp := Bp.out.lt
            obtain ⟨xq1, xq2, xq3, xq4⟩ := Bq.out.facts
            have lq := Bq.out.lt
            obtain ⟨y1, y2, y3, y4, y5, y6, y7, y8⟩ := AT.out.facts
            have lat := AT.out.1
            go_wp2
            go_roundw
            case rel => exact ⟨i + 1, v + 1, Aq, n', cq, l', by omega, by go_num, by go_num, by omega, by omega, (Bp.out.set_same 0 _).set_same 1 _, (Rq.out.setOther _ (fun a ha => HABQ.out a ha)).setOther _ (fun a ha => HABQ.out a ha), HABQ.out, HPR.out, HFQ.out, (HB1.out.setCell (Nat.le_refl _) _).setCell (Nat.le_refl _) _⟩
            case measure => simp [intOf] <;> omega
        · skip
          have HK := Lib.hid hk
          have hk0 : K0 = true := by have := T1.out; rw [hk] at this; cases K0 <;> simp_all
          have hk9 : K1 = false := by have := T2.out; rw [hk] at this; cases K1 <;> simp_all
          subst hk0
          subst hk9
          have hba : baseOf l o = g0 := by rw [HBASE.out]; simp [hk]
          have t5 := T5.out
          rw [hba] at t5
          have T6 := Lib.hid t5
          clear hba t5
          go_wp2_with fail
          refine (F1.out Aq n' cq _ Rq.out).mono ?_
          rintro e w3 ⟨rfl, hb1⟩
          have HBQ := Lib.hid hb1
          have Bp := Lib.hid ((Bp.out).go hb1)
          have Bw := Lib.hid ((Bw.out).go hb1)
          have Bq := Lib.hid ((Bq.out).go hb1)
          have Rp := Lib.hid ((Rp.out).go hb1)
          have Rq := Lib.hid ((Rq.out).go hb1)
          have HB0 := Lib.hid (call0 HB0.out hb1)
          clear y1 y2 y3 y4 y5 y6 y7 y8 lat
          have AT := Lib.hid (AT.out.go hb1)
          have HB1 := Lib.hid (below_more HB1.out hb1)
          clear hb1
          clear xp1 xp2 xp3 xp4 lp
          clear xq1 xq2 xq3 xq4 lq
          clear xw1 xw2 xw3 xw4 lw
          obtain ⟨xp1, xp2, xp3, xp4⟩ := Bp.out.facts
          have lp := Bp.out.lt
          obtain ⟨xq1, xq2, xq3, xq4⟩ := Bq.out.facts
          have lq := Bq.out.lt
          obtain ⟨xw1, xw2, xw3, xw4⟩ := Bw.out.facts
          have lw := Bw.out.lt
          obtain ⟨y1, y2, y3, y4, y5, y6, y7, y8⟩ := AT.out.facts
          have lat := AT.out.1
          go_wp2_with fail
          refine (rightP_any l' HFQ.out (v + 1) Aq n' cq _ ((Rq.out).up _) HLQ.out true HPR.out).mono ?_
          rintro e w4 ⟨rfl, hb1⟩
          have HBQ := Lib.hid hb1
          have Bp := Lib.hid (((Bp.out).alloc _).go hb1)
          have Bw := Lib.hid (((Bw.out).alloc _).go hb1)
          have Bq := Lib.hid (((Bq.out).alloc _).go hb1)
          have Bn := Lib.hid (((Box.new w3 _ _)).go hb1)
          have Rp := Lib.hid (((Rp.out).up _).go hb1)
          have Rq := Lib.hid (((Rq.out).up _).go hb1)
          have HB0 := Lib.hid (call1 HB0.out hb1)
          clear y1 y2 y3 y4 y5 y6 y7 y8 lat
          have AT := Lib.hid ((AT.out.go ((Below.refl _ _).alloc (Nat.le_refl _) _)).go hb1)
          have HB1 := Lib.hid (below_more (HB1.out.alloc HB1.out.size _) hb1)
          clear hb1
          clear xp1 xp2 xp3 xp4 lp
          clear xq1 xq2 xq3 xq4 lq
          clear xw1 xw2 xw3 xw4 lw
          obtain ⟨xp1, xp2, xp3, xp4⟩ := Bp.out.facts
          have lp := Bp.out.lt
          obtain ⟨xq1, xq2, xq3, xq4⟩ := Bq.out.facts
          have lq := Bq.out.lt
          obtain ⟨xw1, xw2, xw3, xw4⟩ := Bw.out.facts
          have lw := Bw.out.lt
          obtain ⟨xn1, xn2, xn3, xn4⟩ := Bn.out.facts
          have ln := Bn.out.lt
          obtain ⟨y1, y2, y3, y4, y5, y6, y7, y8⟩ := AT.out.facts
          have lat := AT.out.1
          obtain ⟨u0, hu0⟩ : ∃ u, u = g0.w := ⟨_, rfl⟩
          have HU := Lib.hid hu0
          clear hu0
          rcases (show (FloatKind.f64.format.order g0.w 0 == some .eq) = true ∨ (FloatKind.f64.format.order g0.w 0 == some .eq) = false by cases (FloatKind.f64.format.order g0.w 0 == some .eq) <;> simp) with h0 | h0
          · have HZ := Lib.hid h0
            go_wp2
            go_roundw
            case rel => exact ⟨i + 1, v + 1, Aq, n', cq, l', by omega, by go_num, by go_num, by omega, by omega, ((Bp.out.set_same 0 _).set_same 1 _).alloc _, ((Rq.out.setOther _ (fun a ha => HABQ.out a ha)).setOther _ (fun a ha => HABQ.out a ha)).up _, HABQ.out, HPR.out, HFQ.out, ((HB1.out.setCell (Nat.le_refl _) _).setCell (Nat.le_refl _) _).alloc ((HB1.out.setCell (Nat.le_refl _) _).setCell (Nat.le_refl _) _).size _⟩
            case measure => simp [intOf] <;> omega
          · have HZ := Lib.hid h0
            go_wp2
            go_roundw
            case rel => exact ⟨i + 1, v + 1, Aq, n', cq, l', by omega, by go_num, by go_num, by omega, by omega, ((Bp.out.set_same 0 _).set_same 1 _).alloc _, ((Rq.out.setOther _ (fun a ha => HABQ.out a ha)).setOther _ (fun a ha => HABQ.out a ha)).up _, HABQ.out, HPR.out, HFQ.out, ((HB1.out.setCell (Nat.le_refl _) _).setCell (Nat.le_refl _) _).alloc ((HB1.out.setCell (Nat.le_refl _) _).setCell (Nat.le_refl _) _).size _⟩
            case measure => simp [intOf] <;> omega
        · skip
          have HK := Lib.hid hk
          have hk0 : K0 = true := by have := T1.out; rw [hk] at this; cases K0 <;> simp_all
          have hk9 : K1 = true := by have := T2.out; rw [hk] at this; cases K1 <;> simp_all
          subst hk0
          subst hk9
          have hba : baseOf l o = (g0.toW o.w) := by rw [HBASE.out]; simp [hk]
          have t5 := T5.out
          rw [hba] at t5
          have t3 := T3.out (by omega)
          rw [hba] at t3
          have T4 := Lib.hid t3
          clear t3
          have T6 := Lib.hid t5
          clear hba t5
          go_wp2_with fail
          refine (F1.out Aq n' cq _ Rq.out).mono ?_
          rintro e w3 ⟨rfl, hb1⟩
          have HBQ := Lib.hid hb1
          have Bp := Lib.hid ((Bp.out).go hb1)
          have Bw := Lib.hid ((Bw.out).go hb1)
          have Bq := Lib.hid ((Bq.out).go hb1)
          have Rp := Lib.hid ((Rp.out).go hb1)
          have Rq := Lib.hid ((Rq.out).go hb1)
          have HB0 := Lib.hid (call0 HB0.out hb1)
          clear y1 y2 y3 y4 y5 y6 y7 y8 lat
          have AT := Lib.hid (AT.out.go hb1)
          have HB1 := Lib.hid (below_more HB1.out hb1)
          clear hb1
          clear xp1 xp2 xp3 xp4 lp
          clear xq1 xq2 xq3 xq4 lq
          clear xw1 xw2 xw3 xw4 lw
          obtain ⟨xp1, xp2, xp3, xp4⟩ := Bp.out.facts
          have lp := Bp.out.lt
          obtain ⟨xq1, xq2, xq3, xq4⟩ := Bq.out.facts
          have lq := Bq.out.lt
          obtain ⟨xw1, xw2, xw3, xw4⟩ := Bw.out.facts
          have lw := Bw.out.lt
          obtain ⟨y1, y2, y3, y4, y5, y6, y7, y8⟩ := AT.out.facts
          have lat := AT.out.1
          go_wp2_with fail
          refine (rightP_any l' HFQ.out (v + 1) Aq n' cq _ ((Rq.out).up _) HLQ.out true HPR.out).mono ?_
          rintro e w4 ⟨rfl, hb1⟩
          have HBQ := Lib.hid hb1
          have Bp := Lib.hid (((Bp.out).alloc _).go hb1)
          have Bw := Lib.hid (((Bw.out).alloc _).go hb1)
          have Bq := Lib.hid (((Bq.out).alloc _).go hb1)
          have Bn := Lib.hid (((Box.new w3 _ _)).go hb1)
          have Rp := Lib.hid (((Rp.out).up _).go hb1)
          have Rq := Lib.hid (((Rq.out).up _).go hb1)
          have HB0 := Lib.hid (call1 HB0.out hb1)
          clear y1 y2 y3 y4 y5 y6 y7 y8 lat
          have AT := Lib.hid ((AT.out.go ((Below.refl _ _).alloc (Nat.le_refl _) _)).go hb1)
          have HB1 := Lib.hid (below_more (HB1.out.alloc HB1.out.size _) hb1)
          clear hb1
          clear xp1 xp2 xp3 xp4 lp
          clear xq1 xq2 xq3 xq4 lq
          clear xw1 xw2 xw3 xw4 lw
          obtain ⟨xp1, xp2, xp3, xp4⟩ := Bp.out.facts
          have lp := Bp.out.lt
          obtain ⟨xq1, xq2, xq3, xq4⟩ := Bq.out.facts
          have lq := Bq.out.lt
          obtain ⟨xw1, xw2, xw3, xw4⟩ := Bw.out.facts
          have lw := Bw.out.lt
          obtain ⟨xn1, xn2, xn3, xn4⟩ := Bn.out.facts
          have ln := Bn.out.lt
          obtain ⟨y1, y2, y3, y4, y5, y6, y7, y8⟩ := AT.out.facts
          have lat := AT.out.1
          obtain ⟨u0, hu0⟩ : ∃ u, u = (g0.toW o.w).w := ⟨_, rfl⟩
          have HU := Lib.hid hu0
          clear hu0
          rcases (show (FloatKind.f64.format.order o.w 0 == some .eq) = true ∨ (FloatKind.f64.format.order o.w 0 == some .eq) = false by cases (FloatKind.f64.format.order o.w 0 == some .eq) <;> simp) with h0 | h0
          · have HZ := Lib.hid h0
            have h0x := h0
            rw [show o.w = (g0.toW o.w).w from rfl] at h0x
            have hsame : sameOne g1 ((g0.toW o.w).toW 0) = true := by
              have := T4.out
              rwa [show wPlain (g0.toW o.w).w = 0 by unfold wPlain ord; show (if (FloatKind.f64.format.order o.w 0 == some .eq) = true then 0 else o.w) = _; rw [HZ.out]; rfl] at this
            have HSM := Lib.hid hsame
            clear hsame
            go_wp2_with fail
            refine (HSM.out ▸ sameOne_any g1 ((g0.toW o.w).toW 0) t4 (show (0 : Nat) < 18446744073709551616 by decide) _).mono ?_
            rintro e w5 ⟨rfl, hb1⟩
            have HBQ := Lib.hid hb1
            have Bp := Lib.hid (((Bp.out).alloc _).go hb1)
            have Bw := Lib.hid (((Bw.out).alloc _).go hb1)
            have Bq := Lib.hid (((Bq.out).alloc _).go hb1)
            have Bn := Lib.hid (((Bn.out).alloc _).go hb1)
            have Bm := Lib.hid (((Box.new w4 _ _)).go hb1)
            have Rp := Lib.hid (((Rp.out).up _).go hb1)
            have Rq := Lib.hid (((Rq.out).up _).go hb1)
            have HB0 := Lib.hid (call1 HB0.out hb1)
            clear y1 y2 y3 y4 y5 y6 y7 y8 lat
            have AT := Lib.hid ((AT.out.go ((Below.refl _ _).alloc (Nat.le_refl _) _)).go hb1)
            have HB1 := Lib.hid (below_more (HB1.out.alloc HB1.out.size _) hb1)
            clear hb1
            clear xp1 xp2 xp3 xp4 lp
            clear xq1 xq2 xq3 xq4 lq
            clear xw1 xw2 xw3 xw4 lw
            clear xn1 xn2 xn3 xn4 ln
            obtain ⟨xp1, xp2, xp3, xp4⟩ := Bp.out.facts
            have lp := Bp.out.lt
            obtain ⟨xq1, xq2, xq3, xq4⟩ := Bq.out.facts
            have lq := Bq.out.lt
            obtain ⟨y1, y2, y3, y4, y5, y6, y7, y8⟩ := AT.out.facts
            have lat := AT.out.1
            go_wp2
            go_roundw
            case rel => exact ⟨i + 1, v + 1, Aq, n', cq, l', by omega, by go_num, by go_num, by omega, by omega, (Bp.out.set_same 0 _).set_same 1 _, (Rq.out.setOther _ (fun a ha => HABQ.out a ha)).setOther _ (fun a ha => HABQ.out a ha), HABQ.out, HPR.out, HFQ.out, (HB1.out.setCell (Nat.le_refl _) _).setCell (Nat.le_refl _) _⟩
            case measure => simp [intOf] <;> omega
          · have HZ := Lib.hid h0
            have h0x := h0
            rw [show o.w = (g0.toW o.w).w from rfl] at h0x
            have hsame : sameOne g1 (g0.toW o.w) = true := by
              have := T4.out
              rwa [show wPlain (g0.toW o.w).w = (g0.toW o.w).w by unfold wPlain ord; show (if (FloatKind.f64.format.order o.w 0 == some .eq) = true then 0 else o.w) = _; rw [HZ.out]; rfl] at this
            have HSM := Lib.hid hsame
            clear hsame
            go_wp2_with fail
            refine (HSM.out ▸ sameOne_any g1 (g0.toW o.w) t4 (T6.out) _).mono ?_
            rintro e w5 ⟨rfl, hb1⟩
            have HBQ := Lib.hid hb1
            have Bp := Lib.hid (((Bp.out).alloc _).go hb1)
            have Bw := Lib.hid (((Bw.out).alloc _).go hb1)
            have Bq := Lib.hid (((Bq.out).alloc _).go hb1)
            have Bn := Lib.hid (((Bn.out).alloc _).go hb1)
            have Bm := Lib.hid (((Box.new w4 _ _)).go hb1)
            have Rp := Lib.hid (((Rp.out).up _).go hb1)
            have Rq := Lib.hid (((Rq.out).up _).go hb1)
            have HB0 := Lib.hid (call1 HB0.out hb1)
            clear y1 y2 y3 y4 y5 y6 y7 y8 lat
            have AT := Lib.hid ((AT.out.go ((Below.refl _ _).alloc (Nat.le_refl _) _)).go hb1)
            have HB1 := Lib.hid (below_more (HB1.out.alloc HB1.out.size _) hb1)
            clear hb1
            clear xp1 xp2 xp3 xp4 lp
            clear xq1 xq2 xq3 xq4 lq
            clear xw1 xw2 xw3 xw4 lw
            clear xn1 xn2 xn3 xn4 ln
            obtain ⟨xp1, xp2, xp3, xp4⟩ := Bp.out.facts
            have lp := Bp.out.lt
            obtain ⟨xq1, xq2, xq3, xq4⟩ := Bq.out.facts
            have lq := Bq.out.lt
            obtain ⟨y1, y2, y3, y4, y5, y6, y7, y8⟩ := AT.out.facts
            have lat := AT.out.1
            go_wp2
            go_roundw
            case rel => exact ⟨i + 1, v + 1, Aq, n', cq, l', by omega, by go_num, by go_num, by omega, by omega, (Bp.out.set_same 0 _).set_same 1 _, (Rq.out.setOther _ (fun a ha => HABQ.out a ha)).setOther _ (fun a ha => HABQ.out a ha), HABQ.out, HPR.out, HFQ.out, (HB1.out.setCell (Nat.le_refl _) _).setCell (Nat.le_refl _) _⟩
            case measure => simp [intOf] <;> omega
        · skip
          have HK := Lib.hid hk
          have hk0 : K0 = true := by have := T1.out; rw [hk] at this; cases K0 <;> simp_all
          have hk9 : K1 = true := by have := T2.out; rw [hk] at this; cases K1 <;> simp_all
          subst hk0
          subst hk9
          have hba : baseOf l o = (g0.toD true) := by rw [HBASE.out]; simp [hk]
          have t5 := T5.out
          rw [hba] at t5
          have t3 := T3.out (by omega)
          rw [hba] at t3
          have T4 := Lib.hid t3
          clear t3
          have T6 := Lib.hid t5
          clear hba t5
          go_wp2_with fail
          refine (F1.out Aq n' cq _ Rq.out).mono ?_
          rintro e w3 ⟨rfl, hb1⟩
          have HBQ := Lib.hid hb1
          have Bp := Lib.hid ((Bp.out).go hb1)
          have Bw := Lib.hid ((Bw.out).go hb1)
          have Bq := Lib.hid ((Bq.out).go hb1)
          have Rp := Lib.hid ((Rp.out).go hb1)
          have Rq := Lib.hid ((Rq.out).go hb1)
          have HB0 := Lib.hid (call0 HB0.out hb1)
          clear y1 y2 y3 y4 y5 y6 y7 y8 lat
          have AT := Lib.hid (AT.out.go hb1)
          have HB1 := Lib.hid (below_more HB1.out hb1)
          clear hb1
          clear xp1 xp2 xp3 xp4 lp
          clear xq1 xq2 xq3 xq4 lq
          clear xw1 xw2 xw3 xw4 lw
          obtain ⟨xp1, xp2, xp3, xp4⟩ := Bp.out.facts
          have lp := Bp.out.lt
          obtain ⟨xq1, xq2, xq3, xq4⟩ := Bq.out.facts
          have lq := Bq.out.lt
          obtain ⟨xw1, xw2, xw3, xw4⟩ := Bw.out.facts
          have lw := Bw.out.lt
          obtain ⟨y1, y2, y3, y4, y5, y6, y7, y8⟩ := AT.out.facts
          have lat := AT.out.1
          go_wp2_with fail
          refine (rightP_any l' HFQ.out (v + 1) Aq n' cq _ ((Rq.out).up _) HLQ.out true HPR.out).mono ?_
          rintro e w4 ⟨rfl, hb1⟩
          have HBQ := Lib.hid hb1
          have Bp := Lib.hid (((Bp.out).alloc _).go hb1)
          have Bw := Lib.hid (((Bw.out).alloc _).go hb1)
          have Bq := Lib.hid (((Bq.out).alloc _).go hb1)
          have Bn := Lib.hid (((Box.new w3 _ _)).go hb1)
          have Rp := Lib.hid (((Rp.out).up _).go hb1)
          have Rq := Lib.hid (((Rq.out).up _).go hb1)
          have HB0 := Lib.hid (call1 HB0.out hb1)
          clear y1 y2 y3 y4 y5 y6 y7 y8 lat
          have AT := Lib.hid ((AT.out.go ((Below.refl _ _).alloc (Nat.le_refl _) _)).go hb1)
          have HB1 := Lib.hid (below_more (HB1.out.alloc HB1.out.size _) hb1)
          clear hb1
          clear xp1 xp2 xp3 xp4 lp
          clear xq1 xq2 xq3 xq4 lq
          clear xw1 xw2 xw3 xw4 lw
          obtain ⟨xp1, xp2, xp3, xp4⟩ := Bp.out.facts
          have lp := Bp.out.lt
          obtain ⟨xq1, xq2, xq3, xq4⟩ := Bq.out.facts
          have lq := Bq.out.lt
          obtain ⟨xw1, xw2, xw3, xw4⟩ := Bw.out.facts
          have lw := Bw.out.lt
          obtain ⟨xn1, xn2, xn3, xn4⟩ := Bn.out.facts
          have ln := Bn.out.lt
          obtain ⟨y1, y2, y3, y4, y5, y6, y7, y8⟩ := AT.out.facts
          have lat := AT.out.1
          obtain ⟨u0, hu0⟩ : ∃ u, u = (g0.toD true).w := ⟨_, rfl⟩
          have HU := Lib.hid hu0
          clear hu0
          rcases (show (FloatKind.f64.format.order g0.w 0 == some .eq) = true ∨ (FloatKind.f64.format.order g0.w 0 == some .eq) = false by cases (FloatKind.f64.format.order g0.w 0 == some .eq) <;> simp) with h0 | h0
          · have HZ := Lib.hid h0
            have h0x := h0
            rw [show g0.w = (g0.toD true).w from rfl] at h0x
            have hsame : sameOne g1 ((g0.toD true).toW 0) = true := by
              have := T4.out
              rwa [show wPlain (g0.toD true).w = 0 by unfold wPlain ord; show (if (FloatKind.f64.format.order g0.w 0 == some .eq) = true then 0 else g0.w) = _; rw [HZ.out]; rfl] at this
            have HSM := Lib.hid hsame
            clear hsame
            go_wp2_with fail
            refine (HSM.out ▸ sameOne_any g1 ((g0.toD true).toW 0) t4 (show (0 : Nat) < 18446744073709551616 by decide) _).mono ?_
            rintro e w5 ⟨rfl, hb1⟩
            have HBQ := Lib.hid hb1
            have Bp := Lib.hid (((Bp.out).alloc _).go hb1)
            have Bw := Lib.hid (((Bw.out).alloc _).go hb1)
            have Bq := Lib.hid (((Bq.out).alloc _).go hb1)
            have Bn := Lib.hid (((Bn.out).alloc _).go hb1)
            have Bm := Lib.hid (((Box.new w4 _ _)).go hb1)
            have Rp := Lib.hid (((Rp.out).up _).go hb1)
            have Rq := Lib.hid (((Rq.out).up _).go hb1)
            have HB0 := Lib.hid (call1 HB0.out hb1)
            clear y1 y2 y3 y4 y5 y6 y7 y8 lat
            have AT := Lib.hid ((AT.out.go ((Below.refl _ _).alloc (Nat.le_refl _) _)).go hb1)
            have HB1 := Lib.hid (below_more (HB1.out.alloc HB1.out.size _) hb1)
            clear hb1
            clear xp1 xp2 xp3 xp4 lp
            clear xq1 xq2 xq3 xq4 lq
            clear xw1 xw2 xw3 xw4 lw
            clear xn1 xn2 xn3 xn4 ln
            obtain ⟨xp1, xp2, xp3, xp4⟩ := Bp.out.facts
            have lp := Bp.out.lt
            obtain ⟨xq1, xq2, xq3, xq4⟩ := Bq.out.facts
            have lq := Bq.out.lt
            obtain ⟨y1, y2, y3, y4, y5, y6, y7, y8⟩ := AT.out.facts
            have lat := AT.out.1
            go_wp2
            go_roundw
            case rel => exact ⟨i + 1, v + 1, Aq, n', cq, l', by omega, by go_num, by go_num, by omega, by omega, (Bp.out.set_same 0 _).set_same 1 _, (Rq.out.setOther _ (fun a ha => HABQ.out a ha)).setOther _ (fun a ha => HABQ.out a ha), HABQ.out, HPR.out, HFQ.out, (HB1.out.setCell (Nat.le_refl _) _).setCell (Nat.le_refl _) _⟩
            case measure => simp [intOf] <;> omega
          · have HZ := Lib.hid h0
            have h0x := h0
            rw [show g0.w = (g0.toD true).w from rfl] at h0x
            have hsame : sameOne g1 (g0.toD true) = true := by
              have := T4.out
              rwa [show wPlain (g0.toD true).w = (g0.toD true).w by unfold wPlain ord; show (if (FloatKind.f64.format.order g0.w 0 == some .eq) = true then 0 else g0.w) = _; rw [HZ.out]; rfl] at this
            have HSM := Lib.hid hsame
            clear hsame
            go_wp2_with fail
            refine (HSM.out ▸ sameOne_any g1 (g0.toD true) t4 (T6.out) _).mono ?_
            rintro e w5 ⟨rfl, hb1⟩
            have HBQ := Lib.hid hb1
            have Bp := Lib.hid (((Bp.out).alloc _).go hb1)
            have Bw := Lib.hid (((Bw.out).alloc _).go hb1)
            have Bq := Lib.hid (((Bq.out).alloc _).go hb1)
            have Bn := Lib.hid (((Bn.out).alloc _).go hb1)
            have Bm := Lib.hid (((Box.new w4 _ _)).go hb1)
            have Rp := Lib.hid (((Rp.out).up _).go hb1)
            have Rq := Lib.hid (((Rq.out).up _).go hb1)
            have HB0 := Lib.hid (call1 HB0.out hb1)
            clear y1 y2 y3 y4 y5 y6 y7 y8 lat
            have AT := Lib.hid ((AT.out.go ((Below.refl _ _).alloc (Nat.le_refl _) _)).go hb1)
            have HB1 := Lib.hid (below_more (HB1.out.alloc HB1.out.size _) hb1)
            clear hb1
            clear xp1 xp2 xp3 xp4 lp
            clear xq1 xq2 xq3 xq4 lq
            clear xw1 xw2 xw3 xw4 lw
            clear xn1 xn2 xn3 xn4 ln
            obtain ⟨xp1, xp2, xp3, xp4⟩ := Bp.out.facts
            have lp := Bp.out.lt
            obtain ⟨xq1, xq2, xq3, xq4⟩ := Bq.out.facts
            have lq := Bq.out.lt
            obtain ⟨y1, y2, y3, y4, y5, y6, y7, y8⟩ := AT.out.facts
            have lat := AT.out.1
            go_wp2
            go_roundw
            case rel => exact ⟨i + 1, v + 1, Aq, n', cq, l', by omega, by go_num, by go_num, by omega, by omega, (Bp.out.set_same 0 _).set_same 1 _, (Rq.out.setOther _ (fun a ha => HABQ.out a ha)).setOther _ (fun a ha => HABQ.out a ha), HABQ.out, HPR.out, HFQ.out, (HB1.out.setCell (Nat.le_refl _) _).setCell (Nat.le_refl _) _⟩
            case measure => simp [intOf] <;> omega
        · skip
          have HK := Lib.hid hk
          have hk0 : K0 = true := by have := T1.out; rw [hk] at this; cases K0 <;> simp_all
          have hk9 : K1 = true := by have := T2.out; rw [hk] at this; cases K1 <;> simp_all
          subst hk0
          subst hk9
          have hba : baseOf l o = (g0.toD false) := by rw [HBASE.out]; simp [hk]
          have t5 := T5.out
          rw [hba] at t5
          have t3 := T3.out (by omega)
          rw [hba] at t3
          have T4 := Lib.hid t3
          clear t3
          have T6 := Lib.hid t5
          clear hba t5
          go_wp2_with fail
          refine (F1.out Aq n' cq _ Rq.out).mono ?_
          rintro e w3 ⟨rfl, hb1⟩
          have HBQ := Lib.hid hb1
          have Bp := Lib.hid ((Bp.out).go hb1)
          have Bw := Lib.hid ((Bw.out).go hb1)
          have Bq := Lib.hid ((Bq.out).go hb1)
          have Rp := Lib.hid ((Rp.out).go hb1)
          have Rq := Lib.hid ((Rq.out).go hb1)
          have HB0 := Lib.hid (call0 HB0.out hb1)
          clear y1 y2 y3 y4 y5 y6 y7 y8 lat
          have AT := Lib.hid (AT.out.go hb1)
          have HB1 := Lib.hid (below_more HB1.out hb1)
          clear hb1
          clear xp1 xp2 xp3 xp4 lp
          clear xq1 xq2 xq3 xq4 lq
          clear xw1 xw2 xw3 xw4 lw
          obtain ⟨xp1, xp2, xp3, xp4⟩ := Bp.out.facts
          have lp := Bp.out.lt
          obtain ⟨xq1, xq2, xq3, xq4⟩ := Bq.out.facts
          have lq := Bq.out.lt
          obtain ⟨xw1, xw2, xw3, xw4⟩ := Bw.out.facts
          have lw := Bw.out.lt
          obtain ⟨y1, y2, y3, y4, y5, y6, y7, y8⟩ := AT.out.facts
          have lat := AT.out.1
          go_wp2_with fail
          refine (rightP_any l' HFQ.out (v + 1) Aq n' cq _ ((Rq.out).up _) HLQ.out true HPR.out).mono ?_
          rintro e w4 ⟨rfl, hb1⟩
          have HBQ := Lib.hid hb1
          have Bp := Lib.hid (((Bp.out).alloc _).go hb1)
          have Bw := Lib.hid (((Bw.out).alloc _).go hb1)
          have Bq := Lib.hid (((Bq.out).alloc _).go hb1)
          have Bn := Lib.hid (((Box.new w3 _ _)).go hb1)
          have Rp := Lib.hid (((Rp.out).up _).go hb1)
          have Rq := Lib.hid (((Rq.out).up _).go hb1)
          have HB0 := Lib.hid (call1 HB0.out hb1)
          clear y1 y2 y3 y4 y5 y6 y7 y8 lat
          have AT := Lib.hid ((AT.out.go ((Below.refl _ _).alloc (Nat.le_refl _) _)).go hb1)
          have HB1 := Lib.hid (below_more (HB1.out.alloc HB1.out.size _) hb1)
          clear hb1
          clear xp1 xp2 xp3 xp4 lp
          clear xq1 xq2 xq3 xq4 lq
          clear xw1 xw2 xw3 xw4 lw
          obtain ⟨xp1, xp2, xp3, xp4⟩ := Bp.out.facts
          have lp := Bp.out.lt
          obtain ⟨xq1, xq2, xq3, xq4⟩ := Bq.out.facts
          have lq := Bq.out.lt
          obtain ⟨xw1, xw2, xw3, xw4⟩ := Bw.out.facts
          have lw := Bw.out.lt
          obtain ⟨xn1, xn2, xn3, xn4⟩ := Bn.out.facts
          have ln := Bn.out.lt
          obtain ⟨y1, y2, y3, y4, y5, y6, y7, y8⟩ := AT.out.facts
          have lat := AT.out.1
          obtain ⟨u0, hu0⟩ : ∃ u, u = (g0.toD false).w := ⟨_, rfl⟩
          have HU := Lib.hid hu0
          clear hu0
          rcases (show (FloatKind.f64.format.order g0.w 0 == some .eq) = true ∨ (FloatKind.f64.format.order g0.w 0 == some .eq) = false by cases (FloatKind.f64.format.order g0.w 0 == some .eq) <;> simp) with h0 | h0
          · have HZ := Lib.hid h0
            have h0x := h0
            rw [show g0.w = (g0.toD false).w from rfl] at h0x
            have hsame : sameOne g1 ((g0.toD false).toW 0) = true := by
              have := T4.out
              rwa [show wPlain (g0.toD false).w = 0 by unfold wPlain ord; show (if (FloatKind.f64.format.order g0.w 0 == some .eq) = true then 0 else g0.w) = _; rw [HZ.out]; rfl] at this
            have HSM := Lib.hid hsame
            clear hsame
            go_wp2_with fail
            refine (HSM.out ▸ sameOne_any g1 ((g0.toD false).toW 0) t4 (show (0 : Nat) < 18446744073709551616 by decide) _).mono ?_
            rintro e w5 ⟨rfl, hb1⟩
            have HBQ := Lib.hid hb1
            have Bp := Lib.hid (((Bp.out).alloc _).go hb1)
            have Bw := Lib.hid (((Bw.out).alloc _).go hb1)
            have Bq := Lib.hid (((Bq.out).alloc _).go hb1)
            have Bn := Lib.hid (((Bn.out).alloc _).go hb1)
            have Bm := Lib.hid (((Box.new w4 _ _)).go hb1)
            have Rp := Lib.hid (((Rp.out).up _).go hb1)
            have Rq := Lib.hid (((Rq.out).up _).go hb1)
            have HB0 := Lib.hid (call1 HB0.out hb1)
            clear y1 y2 y3 y4 y5 y6 y7 y8 lat
            have AT := Lib.hid ((AT.out.go ((Below.refl _ _).alloc (Nat.le_refl _) _)).go hb1)
            have HB1 := Lib.hid (below_more (HB1.out.alloc HB1.out.size _) hb1)
            clear hb1
            clear xp1 xp2 xp3 xp4 lp
            clear xq1 xq2 xq3 xq4 lq
            clear xw1 xw2 xw3 xw4 lw
            clear xn1 xn2 xn3 xn4 ln
            obtain ⟨xp1, xp2, xp3, xp4⟩ := Bp.out.facts
            have lp := Bp.out.lt
            obtain ⟨xq1, xq2, xq3, xq4⟩ := Bq.out.facts
            have lq := Bq.out.lt
            obtain ⟨y1, y2, y3, y4, y5, y6, y7, y8⟩ := AT.out.facts
            have lat := AT.out.1
            go_wp2
            go_roundw
            case rel => exact ⟨i + 1, v + 1, Aq, n', cq, l', by omega, by go_num, by go_num, by omega, by omega, (Bp.out.set_same 0 _).set_same 1 _, (Rq.out.setOther _ (fun a ha => HABQ.out a ha)).setOther _ (fun a ha => HABQ.out a ha), HABQ.out, HPR.out, HFQ.out, (HB1.out.setCell (Nat.le_refl _) _).setCell (Nat.le_refl _) _⟩
            case measure => simp [intOf] <;> omega
          · have HZ := Lib.hid h0
            have h0x := h0
            rw [show g0.w = (g0.toD false).w from rfl] at h0x
            have hsame : sameOne g1 (g0.toD false) = true := by
              have := T4.out
              rwa [show wPlain (g0.toD false).w = (g0.toD false).w by unfold wPlain ord; show (if (FloatKind.f64.format.order g0.w 0 == some .eq) = true then 0 else g0.w) = _; rw [HZ.out]; rfl] at this
            have HSM := Lib.hid hsame
            clear hsame
            go_wp2_with fail
            refine (HSM.out ▸ sameOne_any g1 (g0.toD false) t4 (T6.out) _).mono ?_
            rintro e w5 ⟨rfl, hb1⟩
            have HBQ := Lib.hid hb1
            have Bp := Lib.hid (((Bp.out).alloc _).go hb1)
            have Bw := Lib.hid (((Bw.out).alloc _).go hb1)
            have Bq := Lib.hid (((Bq.out).alloc _).go hb1)
            have Bn := Lib.hid (((Bn.out).alloc _).go hb1)
            have Bm := Lib.hid (((Box.new w4 _ _)).go hb1)
            have Rp := Lib.hid (((Rp.out).up _).go hb1)
            have Rq := Lib.hid (((Rq.out).up _).go hb1)
            have HB0 := Lib.hid (call1 HB0.out hb1)
            clear y1 y2 y3 y4 y5 y6 y7 y8 lat
            have AT := Lib.hid ((AT.out.go ((Below.refl _ _).alloc (Nat.le_refl _) _)).go hb1)
            have HB1 := Lib.hid (below_more (HB1.out.alloc HB1.out.size _) hb1)
            clear hb1
            clear xp1 xp2 xp3 xp4 lp
            clear xq1 xq2 xq3 xq4 lq
            clear xw1 xw2 xw3 xw4 lw
            clear xn1 xn2 xn3 xn4 ln
            obtain ⟨xp1, xp2, xp3, xp4⟩ := Bp.out.facts
            have lp := Bp.out.lt
            obtain ⟨xq1, xq2, xq3, xq4⟩ := Bq.out.facts
            have lq := Bq.out.lt
            obtain ⟨y1, y2, y3, y4, y5, y6, y7, y8⟩ := AT.out.facts
            have lat := AT.out.1
            go_wp2
            go_roundw
            case rel => exact ⟨i + 1, v + 1, Aq, n', cq, l', by omega, by go_num, by go_num, by omega, by omega, (Bp.out.set_same 0 _).set_same 1 _, (Rq.out.setOther _ (fun a ha => HABQ.out a ha)).setOther _ (fun a ha => HABQ.out a ha), HABQ.out, HPR.out, HFQ.out, (HB1.out.setCell (Nat.le_refl _) _).setCell (Nat.le_refl _) _⟩
            case measure => simp [intOf] <;> omega
    · obtain rfl : i = N := by omega
      have hd : decide ((i : Int) < i) = false := by simp
      go_wp2
      go_ret
      exact ⟨rfl, HB0.out⟩
theorem poolPlays_walk (A : Option Addr) (n c : Nat) (L : List Opr) (w : World) (hR : RdO w w.heap.size A n L) (hg : ∀ o ∈ L, o.good) (hn : n ≤ 9223372036854775807) :
    Calls Try.prog 5 #[.slice A n c] w fun e w' => e = .returned (.bool true) ∧ Below w.heap.size w w' := by
  cases hK : fewOps L
  · exact poolPlays_few L A n c w hg hR hn hK
  · exact poolPlays_main L A n c w hg hR hn hK
set_option maxRecDepth 100000 in
theorem poolPlays_lifted (os : Os) (started : os.Started) (H : Type) (enc : TypeId × Value → H) :
    ReturnsInHanded {} Try.checked os 5 .any (Rows.poolPlaysSpec.pre6 enc Try.prog Try.f5 Rows.poolPlaysRow.domain false) (Rows.poolPlaysSpec.post enc Try.prog Try.f5 false true false false) := by
  refine returnsInHanded_of_change (C := Try.checked) own started (by kernel_rfl) Try.func5
    (ChangeSpec.witness6 (enc := enc) (C := Try.checked) false ⟨#[], #[.slice none 0 0], []⟩ 8 (by kernel_rfl) (by kernel_rfl) (by kernel_rfl) (by kernel_rfl)) ?_
  intro W base args ds gs before hval0 hW hcnd _
  have hval : ∀ (j : Nat) t v, Try.f5.params[j]? = some t → args[j]? = some v → Value.okWide Try.prog W .any base t v := hval0
  have hW' := hW
  obtain ⟨p, q, hA0, hV, rfl, hfz, hnd⟩ := hW
  have hA : DataW.TrodAll enc Try.prog W 0 (fun _ => true) true Try.f5.params.toList args.toList ds p := hA0
  rw [Try.params5] at hA hval
  obtain ⟨v0, vs0, d0, ds0, p0, q0, hargs, rfl, rfl, h0, r0⟩ := trodAll_cons hA
  obtain ⟨rfl, rfl, rfl⟩ := trodAll_nil r0
  obtain rfl : args = #[v0] := by cases args; simp_all
  obtain ⟨Al, nl, cl, ll, rfl, hRl, hgl, hml⟩ := open_oprs (hval 0 40 v0 rfl rfl) h0
  clear hA0 hval0
  refine (poolPlays_walk Al nl cl ll W hRl hgl hml).mono fun e W' ⟨he, hb⟩ => ?_
  subst he
  exact ⟨_, rfl, law_post laidOut rfl (by kernel_rfl) 4 Try.underlying4 rfl hW' rfl hb⟩
theorem poolPlays_holds : Rows.PoolPlaysSaid :=
  OpenClaim.holds_of_wide 5 Try.f5 rfl rfl rfl rfl rfl rfl rfl ⟨rfl, rfl, rfl, rfl, rfl⟩ rfl rfl rfl rfl rfl (by kernel_rfl) Try.func5 (by kernel_rfl)
    (of_decide_eq_true (by kernel_rfl)) (by unfold Func.isWrapper; first | (rw [if_pos (by decide +kernel)]; kernel_rfl) | (rw [if_neg (by decide +kernel)]; exact ⟨rfl, rfl⟩))
    (fun os started H enc _ => poolPlays_lifted os started H enc)
#print axioms poolPlays_holds
end Go.Proofs.Ytgcahcjffoehfaa
