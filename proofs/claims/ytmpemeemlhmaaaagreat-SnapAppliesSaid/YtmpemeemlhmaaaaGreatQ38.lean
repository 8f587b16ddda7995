/- The document's Right of a state. -/
import Derived.Test.YtmpemeemlhmaaaaGreatQ37
import Derived.Test.YtmpemeemlhmaaaaGreatQ35
set_option linter.unusedSimpArgs false
set_option linter.unusedVariables false
set_option maxRecDepth 100000
namespace Go.Proofs.YtmpemeemlhmaaaaGreat
open Go.RowKit

theorem rRightP_any (l : List Bk) (hf : ∀ x ∈ l, x.fine) (v : Int) (A : Option Addr) (n c : Nat) (w : World) (hR : RdR Bk.arr 27 w w.heap.size A n l) (hn : n ≤ 4611686018427387903) (K : Bool) (hK : pRight v l = K) :
    Calls Tryz.prog 21 #[.agg #[.int .i64 v, .slice A n c]] w fun e w' => e = .returned (.bool K) ∧ Below w.heap.size w w' := by
  subst hK
  obtain rfl := hR.1
  exact refRight_any l hf v A c w hR (by omega)
theorem rIn_any (n m : Int) (w : World) : Calls Tryz.prog 35 #[.int .i64 n, .int .i64 m] w fun e w' => e = .returned (.bool (inN n m)) ∧ w = w' := by
  by_cases h1 : 0 ≤ n
  · by_cases h2 : n ≤ m
    all_goals
      go_enter Tryz.func35, Tryz.ntmps35
      go_wp2
      go_ret
      exact ⟨by simp [inN, h1, h2], rfl⟩
  · go_enter Tryz.func35, Tryz.ntmps35
    go_wp2
    go_ret
    exact ⟨by simp [inN, h1] <;> omega, rfl⟩
set_option maxRecDepth 100000 in
set_option maxHeartbeats 8000000 in
theorem rState_any (x : Sh) (s : Sta) (w : World) (h : StR w w.heap.size x s) :
    Calls Tryz.prog 13 #[.agg x.arr] w fun e w' => e = .returned (.bool (okSta s)) ∧ Below w.heap.size w w' := by
  obtain ⟨vv, ⟨bA, bn, bc⟩, ⟨gA, gn, gc⟩, ⟨fA, fn, fc⟩, tk, nn, ct⟩ := x
  have hver : vv = s.ver := h.ver
  have htick : tk = s.tick := h.tick
  have hno : nn = s.no := h.no
  have B0 := Lib.hid (Box.new w (Sh.mk vv ⟨bA, bn, bc⟩ ⟨gA, gn, gc⟩ ⟨fA, fn, fc⟩ tk nn ct).arr 29)
  have HB0 := Lib.hid ((Below.refl w.heap.size w).alloc (Nat.le_refl _) (.cells (Sh.mk vv ⟨bA, bn, bc⟩ ⟨gA, gn, gc⟩ ⟨fA, fn, fc⟩ tk nn ct).arr 29))
  have HR := Lib.hid h
  obtain ⟨x1, x2, x3, x4⟩ := B0.out.facts
  have hl0 := B0.out.lt
  obtain ⟨K1, hK1⟩ : ∃ K, pRight s.ver s.bks = K := ⟨_, rfl⟩
  have HK1 := Lib.hid hK1
  have PR := Lib.hid (rRightP_any s.bks h.fine vv bA bn bc _ ((h.go HB0.out).b) h.nb K1 (by rw [hver]; exact hK1))
  obtain ⟨K4, hK4⟩ : ∃ K, inN s.tick 1099511627776 = K := ⟨_, rfl⟩
  obtain ⟨K5, hK5⟩ : ∃ K, inN s.no 1152921504606846976 = K := ⟨_, rfl⟩
  have HK4 := Lib.hid hK4
  have HK5 := Lib.hid hK5
  have W4 := Lib.hid (fun w' => rIn_any tk 1099511627776 w')
  have W5 := Lib.hid (fun w' => rIn_any nn 1152921504606846976 w')
  rw [show inN tk 1099511627776 = K4 by rw [htick]; exact hK4] at W4
  rw [show inN nn 1152921504606846976 = K5 by rw [hno]; exact hK5] at W5
  have HLH := Lib.hid (show s.hls.length = gn from h.h.1)
  have HLF := Lib.hid (show s.fws.length = fn from h.f.1)
  have hnh : gn ≤ 4611686018427387903 := h.nh
  have hnf : fn ≤ 4611686018427387903 := h.nf
  have HC := Lib.hid (show ct = s.cnt from h.cnt)
  clear hK1 hK4 hK5 h hver htick hno
  cases K1
  · skip
    go_enter Tryz.func13, Tryz.ntmps13
    go_wp2_with fail
    refine PR.out.mono ?_
    rintro e w1 ⟨rfl, hb1⟩
    have B1 := Lib.hid (B0.out.go hb1)
    have HB1 := Lib.hid (below2 HB0.out hb1)
    obtain ⟨y1, y2, y3, y4⟩ := B1.out.facts
    have hl1 := B1.out.lt
    clear hb1
    go_wp2
    go_ret
    exact ⟨by rw [okSta_is]; simp [HK1.out] <;> omega, HB1.out⟩
  by_cases p2 : gn ≤ 1024
  rotate_left
  · have p2' : ¬ s.hls.length ≤ 1024 := by rw [HLH.out]; exact p2
    go_enter Tryz.func13, Tryz.ntmps13
    go_wp2_with fail
    refine PR.out.mono ?_
    rintro e w1 ⟨rfl, hb1⟩
    have B1 := Lib.hid (B0.out.go hb1)
    have HB1 := Lib.hid (below2 HB0.out hb1)
    obtain ⟨y1, y2, y3, y4⟩ := B1.out.facts
    have hl1 := B1.out.lt
    clear hb1
    go_wp2
    go_ret
    exact ⟨by rw [okSta_is]; simp [HK1.out, p2'] <;> omega, HB1.out⟩
  by_cases p3 : fn ≤ 4096
  rotate_left
  · have p3' : ¬ s.fws.length ≤ 4096 := by rw [HLF.out]; exact p3
    go_enter Tryz.func13, Tryz.ntmps13
    go_wp2_with fail
    refine PR.out.mono ?_
    rintro e w1 ⟨rfl, hb1⟩
    have B1 := Lib.hid (B0.out.go hb1)
    have HB1 := Lib.hid (below2 HB0.out hb1)
    obtain ⟨y1, y2, y3, y4⟩ := B1.out.facts
    have hl1 := B1.out.lt
    clear hb1
    go_wp2
    go_ret
    exact ⟨by rw [okSta_is]; simp [HK1.out, p3'] <;> omega, HB1.out⟩
  cases K4
  · skip
    go_enter Tryz.func13, Tryz.ntmps13
    go_wp2_with fail
    refine PR.out.mono ?_
    rintro e w1 ⟨rfl, hb1⟩
    have B1 := Lib.hid (B0.out.go hb1)
    have HB1 := Lib.hid (below2 HB0.out hb1)
    obtain ⟨y1, y2, y3, y4⟩ := B1.out.facts
    have hl1 := B1.out.lt
    clear hb1
    go_wp2_with fail
    refine (W4.out _).mono ?_
    rintro e w2 ⟨rfl, rfl⟩
    go_wp2
    go_ret
    exact ⟨by rw [okSta_is]; simp [HK1.out, HK4.out] <;> omega, HB1.out⟩
  cases K5
  · skip
    go_enter Tryz.func13, Tryz.ntmps13
    go_wp2_with fail
    refine PR.out.mono ?_
    rintro e w1 ⟨rfl, hb1⟩
    have B1 := Lib.hid (B0.out.go hb1)
    have HB1 := Lib.hid (below2 HB0.out hb1)
    obtain ⟨y1, y2, y3, y4⟩ := B1.out.facts
    have hl1 := B1.out.lt
    clear hb1
    go_wp2_with fail
    refine (W4.out _).mono ?_
    rintro e w2 ⟨rfl, rfl⟩
    go_wp2_with fail
    refine (W5.out _).mono ?_
    rintro e w2 ⟨rfl, rfl⟩
    go_wp2
    go_ret
    exact ⟨by rw [okSta_is]; simp [HK1.out, HK4.out, HK5.out] <;> omega, HB1.out⟩
  have HP2 := Lib.hid (show s.hls.length ≤ 1024 by rw [HLH.out]; exact p2)
  have HP3 := Lib.hid (show s.fws.length ≤ 4096 by rw [HLF.out]; exact p3)
  go_enter Tryz.func13, Tryz.ntmps13
  go_wp2_with fail
  refine PR.out.mono ?_
  rintro e w1 ⟨rfl, hb1⟩
  have B1 := Lib.hid (B0.out.go hb1)
  have HB1 := Lib.hid (below2 HB0.out hb1)
  obtain ⟨y1, y2, y3, y4⟩ := B1.out.facts
  have hl1 := B1.out.lt
  clear hb1
  go_wp2_with fail
  refine (W4.out _).mono ?_
  rintro e w2 ⟨rfl, rfl⟩
  go_wp2_with fail
  refine (W5.out _).mono ?_
  rintro e w2 ⟨rfl, rfl⟩
  go_wp2
  go_loopw [3] (fun s3 wr => ∃ i : Nat, i ≤ 11 ∧ s3 = .int .i64 i ∧ wr = w1 ∧ (ct.toList.take i).all (inN · 1152921504606846976) = true) (fun s3 _ => 11 - (intOf s3).toNat)
  case atStart => exact ⟨0, by omega, rfl, rfl, rfl⟩
  case round =>
    obtain ⟨i, hi, rfl, rfl, hall⟩ := hrel
    have HA := Lib.hid hall
    clear hall
    by_cases hlt : i < 11
    · have hlt2 : (i : Int) < 11 := by omega
      have hc := Sh.arr_c (Sh.mk vv ⟨bA, bn, bc⟩ ⟨gA, gn, gc⟩ ⟨fA, fn, fc⟩ tk nn ct) i hlt
      have HT1 := Lib.hid (all_take (inN · 1152921504606846976) 0 ct.toList i (by simpa using hlt))
      have HT2 := Lib.hid (all_no (inN · 1152921504606846976) 0 ct.toList i (by simpa using hlt))
      obtain ⟨z, hz⟩ : ∃ z, ct.toList.getD i 0 = z := ⟨_, rfl⟩
      simp only [hz] at hc
      rw [hz] at HT1 HT2
      clear hz
      have WI := Lib.hid (rIn_any z 1152921504606846976 wr)
      cases hk : inN z 1152921504606846976
      · rw [hk] at WI
        have HF := Lib.hid (show okCnt s = false by unfold okCnt; rw [← HC.out]; exact HT2.out hk)
        clear hk
        go_wp2_with fail
        refine WI.out.mono ?_
        rintro e w2 ⟨rfl, rfl⟩
        go_wp2
        go_ret
        exact ⟨by rw [okSta_is, HF.out]; simp, HB1.out⟩
      · rw [hk] at WI
        have HK := Lib.hid (show (ct.toList.take (i + 1)).all (inN · 1152921504606846976) = true by rw [HT1.out, HA.out, hk]; rfl)
        clear hk
        go_wp2_with fail
        refine WI.out.mono ?_
        rintro e w2 ⟨rfl, rfl⟩
        go_wp2
        go_roundw
        case rel => exact ⟨i + 1, by omega, by go_num, trivial, HK.out⟩
        case measure => simp [intOf] <;> omega
    · obtain rfl : i = 11 := by omega
      have HCN := Lib.hid (show okCnt s = true by unfold okCnt; rw [← HC.out]; have := HA.out; rwa [List.take_of_length_le (by simp)] at this)
      have HH0 := Lib.hid (show RdR Hl.arr 3 wr wr.heap.size gA gn s.hls from (HR.out.go HB1.out).h)
      have HF0 := Lib.hid (fun W (h : Below w.heap.size w W) => show RdR Fw.arr 41 W W.heap.size fA fn s.fws from (HR.out.go h).f)
      go_wp2
      go_loopw [4] (fun s4 wr2 => ∃ i : Nat, i ≤ gn ∧ s4 = .int .i64 i ∧ wr2 = wr ∧ (s.hls.take i).all okHl = true) (fun s4 _ => gn - (intOf s4).toNat)
      case atStart => exact ⟨0, by omega, rfl, rfl, rfl⟩
      case round =>
        obtain ⟨i, hin, rfl, rfl, hall⟩ := hrel
        have HA2 := Lib.hid hall
        clear hall
        by_cases hlt : i < gn
        · have hlt2 : (i : Int) < gn := by omega
          obtain ⟨b, o, rfl, hbb, hcc⟩ := RdR.cell Hl.arr_size noHl HH0.out hlt
          have HT1 := Lib.hid (all_take okHl noHl s.hls i (by rw [HLH.out]; exact hlt))
          have HT2 := Lib.hid (all_no okHl noHl s.hls i (by rw [HLH.out]; exact hlt))
          have HY := Lib.hid (HR.out.fineh _ (getD_mem noHl s.hls i (by rw [HLH.out]; exact hlt)))
          obtain ⟨y, hy⟩ : ∃ y, s.hls.getD i noHl = y := ⟨_, rfl⟩
          rw [hy] at hcc HT1 HT2 HY
          clear hy
          have hq0 : wr.cell? ⟨b, o + i * 3, none⟩ = some (.string (textOf y.name)) := by have := hcc 0 (by omega); rw [Nat.add_zero] at this; exact this
          have hq2 : wr.cell? ⟨b, o + i * 3 + 2, none⟩ = some (.int .i64 y.run) := hcc 2 (by omega)
          clear hcc
          have hyn := HY.out
          have WI := Lib.hid (fun W => rIn_any y.run 99 W)
          by_cases p1 : y.name.length ≤ 255
          rotate_left
          · have HF := Lib.hid (show s.hls.all okHl = false from HT2.out (by simp [okHl]; omega))
            have p1' : (255 : Int) < y.name.length := by omega
            clear p1
            go_wp2
            go_ret
            exact ⟨by rw [okSta_is, HF.out]; simp, HB1.out⟩
          · cases hk : inN y.run 99
            · rw [hk] at WI
              have HF := Lib.hid (show s.hls.all okHl = false from HT2.out (by simp [okHl, hk]))
              clear hk
              go_wp2_with fail
              refine (WI.out _).mono ?_
              rintro e w2 ⟨rfl, rfl⟩
              go_wp2
              go_ret
              exact ⟨by rw [okSta_is, HF.out]; simp, HB1.out⟩
            · rw [hk] at WI
              have HK := Lib.hid (show (s.hls.take (i + 1)).all okHl = true by rw [HT1.out, HA2.out]; simp [okHl, hk, p1])
              clear hk
              go_wp2_with fail
              refine (WI.out _).mono ?_
              rintro e w2 ⟨rfl, rfl⟩
              go_wp2
              go_roundw
              case rel =>
                refine ⟨_, _, _, _, _, _, _, _, _, _, _, _, _, _, _, _, _, _, _, _, _, _, _, _, _, _, _, ⟨i + 1, by omega, ?_, trivial, HK.out⟩, rfl⟩
                go_num
              case measure => simp [intOf] <;> omega
        · have hnl : ¬ (i : Int) < gn := by omega
          have HHL := Lib.hid (show s.hls.all okHl = true by have := HA2.out; rwa [List.take_of_length_le (by rw [HLH.out]; omega)] at this)
          go_wp2
          go_loopw [5] (fun s5 wr3 => ∃ i : Nat, i ≤ fn ∧ s5 = .int .i64 i ∧ Below wr.heap.size wr wr3 ∧ (s.fws.take i).all okFw = true) (fun s5 _ => fn - (intOf s5).toNat)
          case atStart => exact ⟨0, by omega, rfl, Below.refl _ _, rfl⟩
          case round =>
            obtain ⟨i, hin, rfl, hbr, hall⟩ := hrel
            have HA3 := Lib.hid hall
            have HB3 := Lib.hid (below2 HB1.out hbr)
            have B2 := Lib.hid (B1.out.go hbr)
            have HBR := Lib.hid hbr
            clear hall hbr y1 y2 y3 y4 hl1
            obtain ⟨y1, y2, y3, y4⟩ := B2.out.facts
            have hl1 := B2.out.lt
            by_cases hlt : i < fn
            · have hlt2 : (i : Int) < fn := by omega
              obtain ⟨b, o, rfl, hbb, hh, hcl⟩ := (HF0.out _ HB3.out).fw hlt
              have HT1 := Lib.hid (all_take okFw noFw s.fws i (by rw [HLF.out]; exact hlt))
              have HT2 := Lib.hid (all_no okFw noFw s.fws i (by rw [HLF.out]; exact hlt))
              have HY := Lib.hid (HR.out.finef _ (getD_mem noFw s.fws i (by rw [HLF.out]; exact hlt)))
              obtain ⟨y, hy⟩ : ∃ y, s.fws.getD i noFw = y := ⟨_, rfl⟩
              rw [hy] at hcl HT1 HT2 HY
              clear hy
              have FR := Lib.hid (fun W => rFlow_any y W HY.out)
              cases hk : okFw y
              all_goals rw [hk] at FR
              · have HF := Lib.hid (show s.fws.all okFw = false from HT2.out hk)
                clear hk
                go_wp2_with fail
                refine (FR.out _).mono ?_
                rintro e w2 ⟨rfl, hb2⟩
                have FIN := Lib.hid (below2 HB3.out hb2)
                clear hb2
                go_wp2
                go_ret
                exact ⟨by rw [okSta_is, HF.out]; simp, FIN.out⟩
              · have HK := Lib.hid (show (s.fws.take (i + 1)).all okFw = true by rw [HT1.out, HA3.out, hk]; rfl)
                clear hk
                go_wp2_with fail
                refine (FR.out _).mono ?_
                rintro e w2 ⟨rfl, hb2⟩
                have FIN := Lib.hid (below2 HBR.out hb2)
                clear hb2
                go_wp2
                go_roundw
                case rel => exact ⟨i + 1, by omega, by go_num, FIN.out, HK.out⟩
                case measure => simp [intOf] <;> omega
            · have hnl : ¬ (i : Int) < fn := by omega
              have HFL := Lib.hid (show s.fws.all okFw = true by have := HA3.out; rwa [List.take_of_length_le (by rw [HLF.out]; omega)] at this)
              go_wp2
              go_ret
              exact ⟨by rw [okSta_is, HK1.out, HK4.out, HK5.out, HCN.out, HHL.out, HFL.out]; simp [HP2.out, HP3.out], HB3.out⟩
end Go.Proofs.YtmpemeemlhmaaaaGreat
