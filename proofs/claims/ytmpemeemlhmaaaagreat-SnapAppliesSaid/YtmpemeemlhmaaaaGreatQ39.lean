/- The document's bytes of a state. -/
import Derived.Test.YtmpemeemlhmaaaaGreatQ38
set_option linter.unusedSimpArgs false
set_option linter.unusedVariables false
set_option maxRecDepth 100000
namespace Go.Proofs.YtmpemeemlhmaaaaGreat
open Go.RowKit

theorem fm_snoc {α : Type} (f : α → List UInt8) (d : α) (l : List α) (i : Nat) (hi : i < l.length) : (l.take (i + 1)).flatMap f = (l.take i).flatMap f ++ f (l.getD i d) := by
  rw [← take_snocR d l i hi, List.flatMap_append]; simp
theorem fm_le {α : Type} (f : α → List UInt8) (l : List α) (i : Nat) : ((l.take i).flatMap f).length ≤ (l.flatMap f).length := by
  have := congrArg List.length (congrArg (List.flatMap f) (List.take_append_drop i l))
  rw [List.flatMap_append, List.length_append] at this
  omega
theorem numsB_le (l : List Int) (i : Nat) : (numsB (l.take i)).length ≤ (numsB l).length := fm_le (fun z : Int => varB z.toNat) l i
theorem lay_nums {y : Fw} (h : layFw y) : okNums y.key := by
  have := h.1
  unfold layTu at this
  unfold okNums
  obtain ⟨_, _, h3⟩ := this
  refine ⟨?_, ?_, ?_⟩ <;> omega
theorem varB_flag (b : Bool) : varB (if b then 1 else 0) = flagB b := by cases b <;> decide
set_option maxRecDepth 100000 in
set_option maxHeartbeats 16000000 in
theorem rPut_any (x : Sh) (s : Sta) (w : World) (h : StR w w.heap.size x s) (hok : okSta s = true) :
    Calls Tryz.prog 15 #[.agg x.arr] w (NewP w (staB s)) := by
  obtain ⟨vv, ⟨bA, bn, bc⟩, ⟨gA, gn, gc⟩, ⟨fA, fn, fc⟩, tk, nn, ct⟩ := x
  obtain rfl : vv = s.ver := h.ver
  obtain rfl : tk = s.tick := h.tick
  obtain rfl : nn = s.no := h.no
  obtain rfl : ct = s.cnt := h.cnt
  have B0 := Lib.hid (Box.new w (Sh.mk s.ver ⟨bA, bn, bc⟩ ⟨gA, gn, gc⟩ ⟨fA, fn, fc⟩ s.tick s.no s.cnt).arr 29)
  have HB0 := Lib.hid ((Below.refl w.heap.size w).alloc (Nat.le_refl _) (.cells (Sh.mk s.ver ⟨bA, bn, bc⟩ ⟨gA, gn, gc⟩ ⟨fA, fn, fc⟩ s.tick s.no s.cnt).arr 29))
  have L := Lib.hid (okSta_lay hok)
  have HR := Lib.hid h
  have HLB := Lib.hid (show s.bks.length = bn from h.b.1)
  have HLH := Lib.hid (show s.hls.length = gn from h.h.1)
  have HLF := Lib.hid (show s.fws.length = fn from h.f.1)
  have hbn : bn ≤ 1024 := by rw [← HLB.out]; exact L.out.nb
  have hgn : gn ≤ 1024 := by rw [← HLH.out]; exact L.out.nh
  have hfn : fn ≤ 4096 := by rw [← HLF.out]; exact L.out.nf
  have hs := staB_small hok
  have N1 := Lib.hid (show 0 ≤ s.tick ∧ s.tick ≤ 9223372036854775807 from ⟨L.out.tick.1, by have := L.out.tick.2; omega⟩)
  have N2 := Lib.hid (show 0 ≤ s.no ∧ s.no ≤ 9223372036854775807 from ⟨L.out.no.1, by have := L.out.no.2; omega⟩)
  have N3 := Lib.hid (show 0 ≤ s.ver ∧ s.ver ≤ 9223372036854775807 from ⟨L.out.ver.1, by have := L.out.ver.2; omega⟩)
  obtain ⟨q0, hq0⟩ : ∃ q, q = varB s.tick.toNat ++ varB s.no.toNat := ⟨_, rfl⟩
  obtain ⟨q1, hq1⟩ : ∃ q, q = q0 ++ numsB s.cnt.toList := ⟨_, rfl⟩
  obtain ⟨q2, hq2⟩ : ∃ q, q = q1 ++ varB s.ver.toNat ++ varB bn := ⟨_, rfl⟩
  obtain ⟨q3, hq3⟩ : ∃ q, q = q2 ++ s.bks.flatMap bkB := ⟨_, rfl⟩
  obtain ⟨q4, hq4⟩ : ∃ q, q = q3 ++ varB gn := ⟨_, rfl⟩
  obtain ⟨q5, hq5⟩ : ∃ q, q = q4 ++ s.hls.flatMap hlB := ⟨_, rfl⟩
  obtain ⟨q6, hq6⟩ : ∃ q, q = q5 ++ varB fn := ⟨_, rfl⟩
  have HQ := Lib.hid (show staB s = q6 ++ s.fws.flatMap fwB by rw [hq6, hq5, hq4, hq3, hq2, hq1, hq0, staB, bksB, HLB.out, HLH.out, HLF.out, cnt_flat2]; simp only [List.append_assoc])
  have l6 : q6.length + (s.fws.flatMap fwB).length ≤ 3000000 := by rw [HQ.out, List.length_append] at hs; exact hs
  have l5 : q5.length + (varB fn).length ≤ 3000000 := by rw [hq6, List.length_append] at l6; omega
  have l4 : q4.length + (s.hls.flatMap hlB).length ≤ 3000000 := by rw [hq5, List.length_append] at l5; omega
  have l3 : q3.length + (varB gn).length ≤ 3000000 := by rw [hq4, List.length_append] at l4; omega
  have l2 : q2.length + (s.bks.flatMap bkB).length ≤ 3000000 := by rw [hq3, List.length_append] at l3; omega
  have l1 : q1.length + (varB s.ver.toNat).length + (varB bn).length ≤ 3000000 := by rw [hq2, List.length_append, List.length_append] at l2; omega
  have l0 : q0.length + (numsB s.cnt.toList).length ≤ 3000000 := by rw [hq1, List.length_append] at l1; omega
  have K0 := Lib.hid l0
  have K1 := Lib.hid l1
  have K2 := Lib.hid l2
  have K3 := Lib.hid l3
  have K4 := Lib.hid l4
  have K5 := Lib.hid l5
  have K6 := Lib.hid l6
  have H0 := Lib.hid hq0
  have H1 := Lib.hid hq1
  have H2 := Lib.hid hq2
  have H3 := Lib.hid hq3
  have H4 := Lib.hid hq4
  have H5 := Lib.hid hq5
  have H6 := Lib.hid hq6
  have LY0 := Lib.hid ((Ly.nil (w := w)).new (Sh.mk s.ver ⟨bA, bn, bc⟩ ⟨gA, gn, gc⟩ ⟨fA, fn, fc⟩ s.tick s.no s.cnt).arr 29)
  clear hs l0 l1 l2 l3 l4 l5 l6 hq0 hq1 hq2 hq3 hq4 hq5 hq6 h hok
  have KS := Lib.hid (show ∀ W', Box W' w.heap.size (Sh.mk s.ver ⟨bA, bn, bc⟩ ⟨gA, gn, gc⟩ ⟨fA, fn, fc⟩ s.tick s.no s.cnt).arr → W'.cell? ⟨w.heap.size, 4, none⟩ = some (.int .i64 s.tick) ∧ W'.cell? ⟨w.heap.size, 5, none⟩ = some (.int .i64 s.no) from fun W' h => ⟨by rw [h.facts.1]; exact Sh.arr_4 _, by rw [h.facts.1]; exact Sh.arr_5 _⟩)
  have KV := Lib.hid (show ∀ W', Box W' w.heap.size (Sh.mk s.ver ⟨bA, bn, bc⟩ ⟨gA, gn, gc⟩ ⟨fA, fn, fc⟩ s.tick s.no s.cnt).arr → W'.cell? ⟨w.heap.size, 0, none⟩ = some (.int .i64 s.ver) ∧ W'.cell? ⟨w.heap.size, 1, none⟩ = some (.slice bA bn bc) from fun W' h => ⟨by rw [h.facts.1]; exact Sh.arr_0 _, by rw [h.facts.1]; exact Sh.arr_1 _⟩)
  go_enter Tryz.func15, Tryz.ntmps15
  go_wp2_with fail
  go_region_held_law (fun W' => W'.cell? ⟨w.heap.size, 4, none⟩ = some (.int .i64 s.tick) ∧ W'.cell? ⟨w.heap.size, 5, none⟩ = some (.int .i64 s.no))
    (first | exact KS.out _ LY0.out.b0.drew | exact KS.out _ T1.out.b0 | exact KS.out _ T2.out.b0 | go_keep)
    (first | (go_at_call 40; (with_reducible refine (rnum_ly s.tick LY0.out.drew N1.out (by simp)).mono ?_); rintro e w1 ⟨A1, n1, c1, rfl, h1⟩; have T1 := Lib.hid h1; clear h1) | (go_at_call 40; (with_reducible refine (rnum_ly s.no T1.out N2.out (by have := (varB_len s.tick.toNat).2; simp only [List.nil_append]; omega)).mono ?_); rintro e w2 ⟨A2, n2, c2, rfl, h2⟩; have T2 := Lib.hid h2; clear h2))
  rw [List.nil_append, ← H0.out] at T2
  go_wp2
  go_loopw [3, 4] (fun s3 s4 wr => ∃ (i : Nat) (A' : Option Addr) (m' c' : Nat), i ≤ 11 ∧ s4 = .int .i64 i ∧ s3 = .slice A' m' c' ∧ Ly w.heap.size [(w.heap.size, (Sh.mk s.ver ⟨bA, bn, bc⟩ ⟨gA, gn, gc⟩ ⟨fA, fn, fc⟩ s.tick s.no s.cnt).arr)] w wr (.slice A' m' c') (q0 ++ numsB (s.cnt.toList.take i))) (fun _ s4 _ => 11 - (intOf s4).toNat)
  case atStart => exact ⟨0, A2, n2, c2, by omega, rfl, rfl, by simpa [numsB] using T2.out⟩
  case round =>
    obtain ⟨i, A', m', c', hi, rfl, rfl, h⟩ := hrel
    have HO := Lib.hid h
    clear h
    obtain ⟨y1, y2, y3, y4⟩ := HO.out.b0.facts
    have hly := HO.out.b0.lt
    by_cases hlt : i < 11
    · have hlt2 : (i : Int) < 11 := by omega
      have hc := Sh.arr_c (Sh.mk s.ver ⟨bA, bn, bc⟩ ⟨gA, gn, gc⟩ ⟨fA, fn, fc⟩ s.tick s.no s.cnt) i hlt
      have HZ := Lib.hid (L.out.cnt _ (getD_mem 0 s.cnt.toList i (by simpa using hlt)))
      have HSN := Lib.hid (numsB_snoc s.cnt.toList i (by simpa using hlt))
      have HLE := Lib.hid (numsB_le s.cnt.toList i)
      obtain ⟨z, hz⟩ : ∃ z, s.cnt.toList.getD i 0 = z := ⟨_, rfl⟩
      simp only [hz] at hc
      rw [hz] at HZ HSN
      clear hz
      have NU := Lib.hid (rnum_ly z HO.out ⟨HZ.out.1, by have := HZ.out.2; omega⟩ (by have := K0.out; have := HLE.out; rw [List.length_append]; omega))
      go_wp2_with fail
      (with_reducible refine NU.out.mono ?_)
      rintro e w3 ⟨A3, n3, c3, rfl, h3⟩
      have L3 := Lib.hid h3
      clear h3
      go_wp2
      go_roundw
      case rel => exact ⟨i + 1, A3, n3, c3, by omega, by go_num, rfl, by rw [HSN.out, ← List.append_assoc]; exact L3.out⟩
      case measure => simp [intOf] <;> omega
    · have hge : ¬ (i : Int) < 11 := by omega
      have HF := Lib.hid (show s.cnt.toList.take i = s.cnt.toList from List.take_of_length_le (by simp; omega))
      rw [HF.out, ← H1.out] at HO
      clear HF hge hi T2 KS
      go_wp2_with fail
      go_region_held_law (fun W' => W'.cell? ⟨w.heap.size, 0, none⟩ = some (.int .i64 s.ver) ∧ W'.cell? ⟨w.heap.size, 1, none⟩ = some (.slice bA bn bc))
        (first | exact KV.out _ HO.out.b0.drew | exact KV.out _ T3.out.b0 | exact KV.out _ T4.out.b0 | go_keep)
        (first | (go_at_call 40; (with_reducible refine (rnum_ly s.ver HO.out.drew N3.out (by have := K1.out; omega)).mono ?_); rintro e w3 ⟨A3, n3, c3, rfl, h3⟩; have T3 := Lib.hid h3; clear h3) | (go_at_call 40; (with_reducible refine (rnum_ly bn T3.out (by omega) (by have := K1.out; rw [List.length_append]; omega)).mono ?_); rintro e w4 ⟨A4, n4, c4, rfl, h4⟩; have T4 := Lib.hid h4; clear h4))
      rw [Int.toNat_natCast, ← H2.out] at T4
      clear y1 y2 y3 y4 hly T3
      obtain ⟨y1, y2, y3, y4⟩ := T4.out.b0.facts
      have hly := T4.out.b0.lt
      go_wp2
      go_loopw [3, 5] (fun s3 s5 wr => ∃ (i : Nat) (A' : Option Addr) (m' c' : Nat), i ≤ bn ∧ s5 = .int .i64 i ∧ s3 = .slice A' m' c' ∧ Ly w.heap.size [(w.heap.size, (Sh.mk s.ver ⟨bA, bn, bc⟩ ⟨gA, gn, gc⟩ ⟨fA, fn, fc⟩ s.tick s.no s.cnt).arr)] w wr (.slice A' m' c') (q2 ++ (s.bks.take i).flatMap bkB)) (fun _ s5 _ => bn - (intOf s5).toNat)
      case atStart => exact ⟨0, A4, n4, c4, by omega, rfl, rfl, by simpa using T4.out⟩
      case round =>
        clear T4 HO y1 y2 y3 y4 hly hlt
        obtain ⟨i, A', m', c', hi, rfl, rfl, h⟩ := hrel
        have HO := Lib.hid h
        clear h
        obtain ⟨y1, y2, y3, y4⟩ := HO.out.b0.facts
        have hly := HO.out.b0.lt
        by_cases hlt : i < bn
        · have hlt2 : (i : Int) < bn := by omega
          obtain ⟨b, o, rfl, hbb, hh1, hh2⟩ := RdR.at_ Bk.arr_size noBk (HR.out.go HO.out.o.bel).b hlt
          have HM := getD_mem noBk s.bks i (by rw [HLB.out]; exact hlt)
          have HX := Lib.hid (L.out.bk _ HM)
          have HXF := Lib.hid (HR.out.fine _ HM)
          have HSN := Lib.hid (fm_snoc bkB noBk s.bks i (by rw [HLB.out]; exact hlt))
          have HLE := Lib.hid (fm_le bkB s.bks i)
          clear HM
          obtain ⟨y, hy⟩ : ∃ y, s.bks.getD i noBk = y := ⟨_, rfl⟩
          rw [hy] at hh2 HX HSN HXF
          clear hy
          have NU := Lib.hid (rbk_ly y HO.out HXF.out (layBk_told HX.out) (by have := K2.out; have := HLE.out; rw [List.length_append]; omega))
          go_wp2_with fail
          (with_reducible refine NU.out.mono ?_)
          rintro e w3 ⟨A3, n3, c3, rfl, h3⟩
          have L3 := Lib.hid h3
          clear h3
          go_wp2
          go_roundw
          case rel => exact ⟨i + 1, A3, n3, c3, by omega, by go_num, rfl, by rw [HSN.out, ← List.append_assoc]; exact L3.out⟩
          case measure => simp [intOf] <;> omega
        · have hge : ¬ (i : Int) < bn := by omega
          have HF := Lib.hid (show s.bks.take i = s.bks from List.take_of_length_le (by rw [HLB.out]; omega))
          rw [HF.out, ← H3.out] at HO
          clear HF hi
          have NU := Lib.hid (rnum_ly gn HO.out (by omega) (by have := K3.out; omega))
          rw [Int.toNat_natCast, ← H4.out] at NU
          go_wp2_with fail
          (with_reducible refine NU.out.mono ?_)
          rintro e w5 ⟨A5, n5, c5, rfl, h5⟩
          have T5 := Lib.hid h5
          clear h5 NU y1 y2 y3 y4 hly
          obtain ⟨y1, y2, y3, y4⟩ := T5.out.b0.facts
          have hly := T5.out.b0.lt
          go_wp2
          go_loopw [3, 6] (fun s3 s6 wr => ∃ (i : Nat) (A' : Option Addr) (m' c' : Nat), i ≤ gn ∧ s6 = .int .i64 i ∧ s3 = .slice A' m' c' ∧ Ly w.heap.size [(w.heap.size, (Sh.mk s.ver ⟨bA, bn, bc⟩ ⟨gA, gn, gc⟩ ⟨fA, fn, fc⟩ s.tick s.no s.cnt).arr)] w wr (.slice A' m' c') (q4 ++ (s.hls.take i).flatMap hlB)) (fun _ s6 _ => gn - (intOf s6).toNat)
          case atStart => exact ⟨0, A5, n5, c5, by omega, rfl, rfl, by simpa using T5.out⟩
          case round =>
            clear T5 HO y1 y2 y3 y4 hly hlt
            obtain ⟨i, A', m', c', hi, rfl, rfl, h⟩ := hrel
            have HO := Lib.hid h
            clear h
            obtain ⟨y1, y2, y3, y4⟩ := HO.out.b0.facts
            have hly := HO.out.b0.lt
            by_cases hlt : i < gn
            · have hlt2 : (i : Int) < gn := by omega
              obtain ⟨b, o, rfl, hbb, hh1, hh2⟩ := RdR.at_ Hl.arr_size noHl (HR.out.go HO.out.o.bel).h hlt
              have HX := Lib.hid (L.out.hl _ (getD_mem noHl s.hls i (by rw [HLH.out]; exact hlt)))
              have HSN := Lib.hid (fm_snoc hlB noHl s.hls i (by rw [HLH.out]; exact hlt))
              have HLE := Lib.hid (fm_le hlB s.hls i)
              obtain ⟨y, hy⟩ : ∃ y, s.hls.getD i noHl = y := ⟨_, rfl⟩
              rw [hy] at hh2 HX HSN
              clear hy
              obtain ⟨bs, hbs⟩ : ∃ bs, bs = q4 ++ (s.hls.take i).flatMap hlB := ⟨_, rfl⟩
              have HBL := Lib.hid (show bs.length ≤ 3000000 by have := K4.out; have := HLE.out; rw [hbs, List.length_append]; omega)
              have HSN2 := Lib.hid (show q4 ++ (s.hls.take (i + 1)).flatMap hlB = bs ++ textB y.name ++ flagB y.down ++ varB y.run.toNat by rw [HSN.out, hbs, hlB, varB_flag]; simp only [List.append_assoc])
              rw [← hbs] at HO
              clear hbs HSN HLE
              have RUN := Lib.hid (show 0 ≤ y.run ∧ y.run ≤ 9223372036854775807 by obtain ⟨_, a, b⟩ := HX.out; exact ⟨a, by omega⟩)
              have T := Lib.hid (HO.out.new y.arr 74)
              have TX := Lib.hid (rtext_ly y.name T.out (by have := HX.out.1; omega) (by have := HBL.out; omega))
              have HBT := Lib.hid (show (bs ++ textB y.name).length ≤ 3001000 by have := (varB_len y.name.length).2; have := HX.out.1; have := HBL.out; rw [List.length_append, textB, List.length_append]; omega)
              obtain ⟨z1, z2, z3, z4⟩ := T.out.b0.facts
              have hlz := T.out.b0.lt
              obtain ⟨v1, v2, v3, v4⟩ := T.out.b1.facts
              have hlv := T.out.b1.lt
              obtain ⟨dn, hdn⟩ : ∃ d, y.down = d := ⟨_, rfl⟩
              have HD := Lib.hid hdn
              go_wp2_with fail
              (with_reducible refine TX.out.mono ?_)
              rintro e w6 ⟨A6, n6, c6, rfl, h6⟩
              have T6 := Lib.hid h6
              clear h6 TX y1 y2 y3 y4 hly z1 z2 z3 z4 hlz v1 v2 v3 v4 hlv
              obtain ⟨z1, z2, z3, z4⟩ := T6.out.b0.facts
              have hlz := T6.out.b0.lt
              have z5 : y.arr[1]? = some (.bool dn) := by rw [← hdn]; rfl
              have HBT2 := Lib.hid (show (bs ++ textB y.name).length + 1 ≤ 1000000000 by have := HBT.out; omega)
              have HBT3 := Lib.hid (show (bs ++ textB y.name ++ flagB y.down).length ≤ 3001001 by have := HBT.out; have h1 : (flagB y.down).length = 1 := rfl; rw [List.length_append]; omega)
              rw [hdn] at HBT3 HSN2
              have R6 := Lib.hid (fun b a ha => rd_u8 w6 b a ha)
              have L6 := Lib.hid (fun a : Int => T6.out.alloc (.cells #[.int .u8 a] 5))
              clear hdn
              cases dn
              · go_wp2_with (at_builtin; refine wpList_ow rfl (.tmp 78) (.tmp 79) rfl rfl (L6.out 0).o rfl (R6.out 0 0 rfl) HBT2.out ?_; intro A7 n7 c7 w7 h2 h3; have T7 := Lib.hid ((L6.out 0).step h3); obtain ⟨v1, v2, v3, v4⟩ := ((L6.out 0).step h3).b0.facts; have hlv := ((L6.out 0).step h3).b0.lt; clear h2 h3)
                (with_reducible refine (rnum_ly y.run T7.out RUN.out (by have := HBT3.out; exact Nat.le_trans this (by omega))).mono ?_)
                rintro e w8 ⟨A8, n8, c8, rfl, h8⟩
                have T8 := Lib.hid h8.pop
                clear h8
                go_wp2
                go_roundw
                case rel => exact ⟨i + 1, A8, n8, c8, by omega, by go_num, rfl, by rw [HSN2.out]; exact T8.out⟩
                case measure => simp [intOf] <;> omega
              · go_wp2_with (at_builtin; refine wpList_ow rfl (.tmp 75) (.tmp 76) rfl rfl (L6.out 1).o rfl (R6.out 1 1 rfl) HBT2.out ?_; intro A7 n7 c7 w7 h2 h3; have T7 := Lib.hid ((L6.out 1).step h3); obtain ⟨v1, v2, v3, v4⟩ := ((L6.out 1).step h3).b0.facts; have hlv := ((L6.out 1).step h3).b0.lt; clear h2 h3)
                (with_reducible refine (rnum_ly y.run T7.out RUN.out (by have := HBT3.out; exact Nat.le_trans this (by omega))).mono ?_)
                rintro e w8 ⟨A8, n8, c8, rfl, h8⟩
                have T8 := Lib.hid h8.pop
                clear h8
                go_wp2
                go_roundw
                case rel => exact ⟨i + 1, A8, n8, c8, by omega, by go_num, rfl, by rw [HSN2.out]; exact T8.out⟩
                case measure => simp [intOf] <;> omega
            · have hge : ¬ (i : Int) < gn := by omega
              have HF := Lib.hid (show s.hls.take i = s.hls from List.take_of_length_le (by rw [HLH.out]; omega))
              rw [HF.out, ← H5.out] at HO
              clear HF hi
              have NU := Lib.hid (rnum_ly fn HO.out (by omega) (by have := K5.out; omega))
              rw [Int.toNat_natCast, ← H6.out] at NU
              go_wp2_with fail
              (with_reducible refine NU.out.mono ?_)
              rintro e w5 ⟨A5, n5, c5, rfl, h5⟩
              have T5 := Lib.hid h5
              clear h5 NU y1 y2 y3 y4 hly
              obtain ⟨y1, y2, y3, y4⟩ := T5.out.b0.facts
              have hly := T5.out.b0.lt
              go_wp2
              go_loopw [3, 8] (fun s3 s8 wr => ∃ (i : Nat) (A' : Option Addr) (m' c' : Nat), i ≤ fn ∧ s8 = .int .i64 i ∧ s3 = .slice A' m' c' ∧ Ly w.heap.size [(w.heap.size, (Sh.mk s.ver ⟨bA, bn, bc⟩ ⟨gA, gn, gc⟩ ⟨fA, fn, fc⟩ s.tick s.no s.cnt).arr)] w wr (.slice A' m' c') (q6 ++ (s.fws.take i).flatMap fwB)) (fun _ s8 _ => fn - (intOf s8).toNat)
              case atStart => exact ⟨0, A5, n5, c5, by omega, rfl, rfl, by simpa using T5.out⟩
              case round =>
                clear T5 HO y1 y2 y3 y4 hly hlt
                obtain ⟨i, A', m', c', hi, rfl, rfl, h⟩ := hrel
                have HO := Lib.hid h
                clear h
                obtain ⟨y1, y2, y3, y4⟩ := HO.out.b0.facts
                have hly := HO.out.b0.lt
                by_cases hlt : i < fn
                · have hlt2 : (i : Int) < fn := by omega
                  obtain ⟨b, o, rfl, hbb, hh1, hh2⟩ := RdR.at_ Fw.arr_size noFw (HR.out.go HO.out.o.bel).f hlt
                  have HX := Lib.hid (L.out.fw _ (getD_mem noFw s.fws i (by rw [HLF.out]; exact hlt)))
                  have HSN := Lib.hid (fm_snoc fwB noFw s.fws i (by rw [HLF.out]; exact hlt))
                  have HLE := Lib.hid (fm_le fwB s.fws i)
                  obtain ⟨y, hy⟩ : ∃ y, s.fws.getD i noFw = y := ⟨_, rfl⟩
                  rw [hy] at hh2 HX HSN
                  clear hy
                  obtain ⟨bs, hbs⟩ : ∃ bs, bs = q6 ++ (s.fws.take i).flatMap fwB := ⟨_, rfl⟩
                  have HBL := Lib.hid (show bs.length ≤ 3000000 by have := K6.out; have := HLE.out; rw [hbs, List.length_append]; omega)
                  have HSN2 := Lib.hid (show q6 ++ (s.fws.take (i + 1)).flatMap fwB = bs ++ tuB y.key ++ textB y.name ++ varB y.state.toNat ++ varB y.seen.toNat ++ varB y.no.toNat by rw [HSN.out, hbs, fwB]; simp only [List.append_assoc])
                  rw [← hbs] at HO
                  clear hbs HSN HLE
                  have HOK := Lib.hid (lay_nums HX.out)
                  have HNL := Lib.hid (show y.name.length ≤ 255 from HX.out.2.1)
                  have HN1 := Lib.hid (show 0 ≤ y.state ∧ y.state ≤ 9223372036854775807 by obtain ⟨_, _, ⟨a, b⟩, _⟩ := HX.out; exact ⟨a, by omega⟩)
                  have HN2 := Lib.hid (show 0 ≤ y.seen ∧ y.seen ≤ 9223372036854775807 by obtain ⟨_, _, _, ⟨a, b⟩, _⟩ := HX.out; exact ⟨a, by omega⟩)
                  have HN3 := Lib.hid (show 0 ≤ y.no ∧ y.no ≤ 9223372036854775807 by obtain ⟨_, _, _, _, a, b⟩ := HX.out; exact ⟨a, by omega⟩)
                  have T := Lib.hid (HO.out.new y.arr 79)
                  have TU := Lib.hid (rBytes_any y.key HOK.out (wr.alloc (.cells y.arr 79)))
                  have HB1 := Lib.hid (show bs.length + 38 ≤ 1000000000 by have := HBL.out; omega)
                  have HB2 := Lib.hid (show (bs ++ tuB y.key).length ≤ 3000038 by have := HBL.out; rw [List.length_append, tuB_len]; omega)
                  have HB3 := Lib.hid (show (bs ++ tuB y.key ++ textB y.name).length ≤ 3001038 by have := (varB_len y.name.length).2; have := HNL.out; have h2 := HB2.out; simp only [textB, List.length_append] at h2 ⊢; omega)
                  have KF := Lib.hid (show ∀ W', Box W' wr.heap.size y.arr → W'.cell? ⟨wr.heap.size, 38, none⟩ = some (.int .i64 y.state) ∧ W'.cell? ⟨wr.heap.size, 39, none⟩ = some (.int .i64 y.seen) ∧ W'.cell? ⟨wr.heap.size, 40, none⟩ = some (.int .i64 y.no) from fun W' h => ⟨by rw [h.facts.1]; exact Fw.arr_38 y, by rw [h.facts.1]; exact Fw.arr_39 y, by rw [h.facts.1]; exact Fw.arr_40 y⟩)
                  obtain ⟨z1, z2, z3, z4⟩ := T.out.b0.facts
                  have hlz := T.out.b0.lt
                  obtain ⟨v1, v2, v3, v4⟩ := T.out.b1.facts
                  have hlv := T.out.b1.lt
                  clear HX
                  go_wp2_with fail
                  (with_reducible refine TU.out.mono ?_)
                  rintro e w6 ⟨A6, n6, c6, rfl, hn6, ho6, hb6⟩
                  have T6 := Lib.hid (T.out.go hb6)
                  have R6 := Lib.hid (RdB.of_own ho6)
                  rw [tuB_len] at hn6
                  subst hn6
                  clear TU ho6 hb6 y1 y2 y3 y4 hly z1 z2 z3 z4 hlz v1 v2 v3 v4 hlv
                  obtain ⟨z1, z2, z3, z4⟩ := T6.out.b0.facts
                  have hlz := T6.out.b0.lt
                  go_wp2_with (at_builtin; refine wpList_ow rfl (.tmp 102) (.tmp 105) rfl rfl T6.out.o rfl R6.out HB1.out ?_; intro A7 n7 c7 w7 h2 h3; have T7 := Lib.hid (T6.out.step h3); obtain ⟨v1, v2, v3, v4⟩ := (T6.out.step h3).b0.facts; have hlv := (T6.out.step h3).b0.lt; clear h2 h3)
                  (with_reducible refine (rtext_ly y.name T7.out (by have := HNL.out; omega) (by have := HB2.out; omega)).mono ?_)
                  rintro e w8 ⟨A8, n8, c8, rfl, h8⟩
                  have T8 := Lib.hid h8
                  clear h8 z1 z2 z3 z4 hlz v1 v2 v3 v4 hlv
                  go_wp2_with fail
                  go_region_held_law (fun W' => W'.cell? ⟨wr.heap.size, 38, none⟩ = some (.int .i64 y.state) ∧ W'.cell? ⟨wr.heap.size, 39, none⟩ = some (.int .i64 y.seen) ∧ W'.cell? ⟨wr.heap.size, 40, none⟩ = some (.int .i64 y.no))
                    (first | exact KF.out _ T8.out.b0.drew | exact KF.out _ T9.out.b0 | exact KF.out _ T10.out.b0 | exact KF.out _ T11.out.b0 | go_keep)
                    (first | (go_at_call 40; (with_reducible refine (rnum_ly y.state T8.out.drew HN1.out (by have := HB3.out; omega)).mono ?_); rintro e w9 ⟨A9, n9, c9, rfl, h9⟩; have T9 := Lib.hid h9; clear h9) | (go_at_call 40; (with_reducible refine (rnum_ly y.seen T9.out HN2.out (by have := HB3.out; have := (varB_len y.state.toNat).2; rw [List.length_append]; omega)).mono ?_); rintro e w10 ⟨A10, n10, c10, rfl, h10⟩; have T10 := Lib.hid h10; clear h10) | (go_at_call 40; (with_reducible refine (rnum_ly y.no T10.out HN3.out (by have := HB3.out; have := (varB_len y.state.toNat).2; have := (varB_len y.seen.toNat).2; rw [List.length_append, List.length_append]; omega)).mono ?_); rintro e w11 ⟨A11, n11, c11, rfl, h11⟩; have T11 := Lib.hid h11; clear h11))
                  have T12 := Lib.hid T11.out.pop
                  go_wp2
                  go_roundw
                  case rel => exact ⟨i + 1, A11, n11, c11, by omega, by go_num, rfl, by rw [HSN2.out]; exact T12.out⟩
                  case measure => simp [intOf] <;> omega
                · have hge : ¬ (i : Int) < fn := by omega
                  have HF := Lib.hid (show s.fws.take i = s.fws from List.take_of_length_le (by rw [HLF.out]; omega))
                  rw [HF.out, ← HQ.out] at HO
                  go_wp2
                  go_ret
                  have ho := HO.out.o
                  obtain ⟨A9, c9, e9⟩ := ho.form
                  injection e9 with e9 e10 e11
                  subst e10
                  exact ⟨A', _, c', rfl, rfl, ho.own, ho.bel⟩
end Go.Proofs.YtmpemeemlhmaaaaGreat
