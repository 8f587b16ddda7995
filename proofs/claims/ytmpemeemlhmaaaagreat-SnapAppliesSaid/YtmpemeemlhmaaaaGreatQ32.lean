/- snap.Put: a state's bytes. -/
import Derived.Test.YtmpemeemlhmaaaaGreatQ22
import Derived.Deep.Cut
set_option linter.unusedSimpArgs false
set_option linter.unusedVariables false
set_option maxRecDepth 100000
namespace Go.Proofs.YtmpemeemlhmaaaaGreat
open Go.RowKit

def StPutP (w : World) (s : Sta) (e : Ending) (w' : World) : Prop := Below w.heap.size w w' ∧ match okSta s with
  | true => ∃ A n c, e = .returned (.tuple #[.slice A n c, .int .i64 0]) ∧ n = (staB s).length ∧ w'.ownsRow w.heap.size 5 1 (.slice A n c) n ((staB s).map bv)
  | false => e = .returned (.tuple #[.slice none 0 0, .int .i64 1])
theorem StPutP.no {w w' : World} {s : Sta} (h : okSta s = false) (hb : Below w.heap.size w w') : StPutP w s (.returned (.tuple #[.slice none 0 0, .int .i64 1])) w' := ⟨hb, by rw [h]⟩
theorem StPutP.yes {w w1 w' : World} {s : Sta} (h : okSta s = true) (hb : Below w.heap.size w w1) {L : List (Nat × Array Value)} {A : Option Addr} {n c : Nat} {bs : List UInt8} (k : Ly w1.heap.size L w1 w' (.slice A n c) bs) (e : bs = staB s) : StPutP w s (.returned (.tuple #[.slice A n c, .int .i64 0])) w' := by
  subst e
  obtain ⟨A2, c2, e2⟩ := k.o.form
  injection e2 with e3 e4 e5
  subst e3 e4 e5
  exact ⟨below2 hb k.o.bel, by rw [h]; exact ⟨_, _, _, rfl, rfl, own_less k.o.own hb.size⟩⟩
theorem cnts_ly {B q : Nat} {L : List (Nat × Array Value)} {w0 W : World} {v : Value} {bs : List UInt8} (x : Sh) (h : Ly B ((q, x.arr) :: L) w0 W v bs) (hl : ∀ z ∈ x.cnt.toList, 0 ≤ z ∧ z ≤ 9223372036854775807) (hb : bs.length ≤ 900000000) :
    Calls Tryz.prog 31 #[v, .slice (some ⟨q, 6, none⟩) 11 11] W (LyP B ((q, x.arr) :: L) w0 (bs ++ numsB x.cnt.toList)) := by
  have e11 : x.cnt.toList.length = 11 := by simp
  have hr := RdI.box (l := x.cnt.toList) (o := 6) h.b0 (fun j hj => Sh.arr_c x j (by omega))
  rw [e11] at hr
  refine (numbers_any B v bs x.cnt.toList _ 11 11 W h.o.base hr (fun a ha e => ?_) hl (by omega) hb).mono fun e w1 hk => LyP.of h hk
  injection ha with ha
  subst ha
  exact (h.bx (q, x.arr) (by simp)).2 e.symm
theorem snapPut_no (x : Sh) (s : Sta) (w : World) (h : StR w w.heap.size x s) (hok : okSta s = false) :
    Calls Tryz.prog 12 #[.agg x.arr] w (StPutP w s) := by
  have HB0 := Lib.hid ((Below.refl w.heap.size w).alloc (Nat.le_refl _) (.cells x.arr 29))
  have B0 := Lib.hid (Box.new w x.arr 29)
  obtain ⟨x1, x2, x3, x4⟩ := B0.out.facts
  have hl0 := B0.out.lt
  have PR := Lib.hid (snapRight_any x s _ (h.go HB0.out))
  rw [hok] at PR
  have HOK := Lib.hid hok
  clear hok h
  go_enter Tryz.func12, Tryz.ntmps12
  go_wp2_with fail
  refine PR.out.mono ?_
  rintro e w1 ⟨rfl, hb1⟩
  have HB1 := Lib.hid (below2 HB0.out hb1)
  clear hb1
  go_wp2
  go_ret2
  exact .no HOK.out HB1.out
theorem cnt_flat2 (s : Sta) : s.cnt.toList.flatMap (fun n => varB n.toNat) = numsB s.cnt.toList := rfl
set_option maxRecDepth 100000 in
set_option maxHeartbeats 8000000 in
theorem snapPut_yes (x : Sh) (s : Sta) (w : World) (h : StR w w.heap.size x s) (hok : okSta s = true) :
    Calls Tryz.prog 12 #[.agg x.arr] w (StPutP w s) := by
  obtain ⟨vv, ⟨bA, bn, bc⟩, ⟨gA, gn, gc⟩, ⟨fA, fn, fc⟩, tk, nn, ct⟩ := x
  obtain rfl : vv = s.ver := h.ver
  obtain rfl : tk = s.tick := h.tick
  obtain rfl : nn = s.no := h.no
  obtain rfl : ct = s.cnt := h.cnt
  have B0 := Lib.hid (Box.new w (Sh.mk s.ver ⟨bA, bn, bc⟩ ⟨gA, gn, gc⟩ ⟨fA, fn, fc⟩ s.tick s.no s.cnt).arr 29)
  have HB0 := Lib.hid ((Below.refl w.heap.size w).alloc (Nat.le_refl _) (.cells (Sh.mk s.ver ⟨bA, bn, bc⟩ ⟨gA, gn, gc⟩ ⟨fA, fn, fc⟩ s.tick s.no s.cnt).arr 29))
  obtain ⟨x1, x2, x3, x4⟩ := B0.out.facts
  have hl0 := B0.out.lt
  have PR := Lib.hid (snapRight_any _ s _ (h.go HB0.out))
  rw [hok] at PR
  have LS := Lib.hid (okSta_lay hok)
  have HOK := Lib.hid hok
  have HS := Lib.hid h
  have HLH := Lib.hid (show s.hls.length = gn from h.h.1)
  have HLF := Lib.hid (show s.fws.length = fn from h.f.1)
  have HLB := Lib.hid (show s.bks.length = bn from h.b.1)
  clear hok h
  have gnb : gn ≤ 1024 := by rw [← HLH.out]; exact LS.out.nh
  have fnb : fn ≤ 4096 := by rw [← HLF.out]; exact LS.out.nf
  have bnb : bn ≤ 1024 := by rw [← HLB.out]; exact LS.out.nb
  go_enter Tryz.func12, Tryz.ntmps12
  go_wp2_with fail
  refine PR.out.mono ?_
  rintro e w1 ⟨rfl, hb1⟩
  have HB1 := Lib.hid (below2 HB0.out hb1)
  have B1 := Lib.hid (B0.out.go hb1)
  have HS1 := Lib.hid ((HS.out.go HB0.out).go hb1)
  have L0 := Lib.hid (Ly.nil.add B1.out (by intro e; cases e))
  obtain ⟨y1, y2, y3, y4⟩ := B1.out.facts
  have hl1 := B1.out.lt
  clear hb1
  have N0 := Lib.hid (nums_ly [s.tick, s.no] 2 (L0.out.new (intsC [s.tick, s.no]) 3) (by have := LS.out.tick; have := LS.out.no; intro z hz; simp at hz; omega) rfl (by omega) (by simp))
  go_wp2_with fail
  refine N0.out.mono ?_
  rintro e w2 ⟨A2, n2, c2, rfl, h2⟩
  have L2 := Lib.hid h2
  clear h2
  obtain ⟨z1, z2, z3, z4⟩ := L2.out.b0.facts
  have hl2 := L2.out.b0.lt
  have N1 := Lib.hid (cnts_ly _ L2.out (by have := LS.out.cnt; intro z hz; have := this z hz; omega) (by simp [numsB]; have := (varB_len s.tick.toNat).2; have := (varB_len s.no.toNat).2; omega))
  go_wp2_with fail
  refine N1.out.mono ?_
  rintro e w3 ⟨A3, n3, c3, rfl, h3⟩
  have L3 := Lib.hid h3
  clear h3 z1 z2 z3 z4 hl2 y1 y2 y3 y4 hl1 x1 x2 x3 x4 hl0
  obtain ⟨z1, z2, z3, z4⟩ := L3.out.b0.facts
  have hl3 := L3.out.b0.lt
  have HP3 := Lib.hid (show ([] ++ numsB [s.tick, s.no] ++ numsB s.cnt.toList).length ≤ 1000 by
    have a1 := numsB_len [s.tick, s.no]
    have a2 := numsB_len s.cnt.toList
    simp only [List.length_append, List.length_nil, List.length_cons] at a1 a2 ⊢
    have e11 : s.cnt.toList.length = 11 := by simp
    omega)
  obtain ⟨p3, hp3⟩ : ∃ p3, [] ++ numsB [s.tick, s.no] ++ numsB s.cnt.toList = p3 := ⟨_, rfl⟩
  rw [hp3] at L3 HP3
  have HE3 := Lib.hid hp3
  clear hp3
  have N3 := Lib.hid (nums_ly [s.ver] 1 (L3.out.new (intsC [s.ver]) 3).drew (by have := LS.out.ver; intro z hz; simp at hz; omega) rfl (by omega) (by have := HP3.out; omega))
  have HP4 := Lib.hid (show (p3 ++ numsB [s.ver]).length ≤ 2000 by
    have a1 := numsB_len [s.ver]
    have := HP3.out
    simp only [List.length_append, List.length_nil, List.length_cons] at a1 ⊢
    omega)
  have N4 := Lib.hid (fun W v (hh : Ly w1.heap.size [(w.heap.size, (Sh.mk s.ver ⟨bA, bn, bc⟩ ⟨gA, gn, gc⟩ ⟨fA, fn, fc⟩ s.tick s.no s.cnt).arr)] w1 W v (p3 ++ numsB [s.ver])) => bks_ly s.bks bA bn bc hh HS1.out.b (Nat.le_refl _) HS1.out.fine (fun y hy => layBk_told (LS.out.bk y hy)) (by omega) (by have := HP4.out; omega))
  have KS := Lib.hid (show ∀ W, Box W w.heap.size (Sh.mk s.ver ⟨bA, bn, bc⟩ ⟨gA, gn, gc⟩ ⟨fA, fn, fc⟩ s.tick s.no s.cnt).arr → W.cell? ⟨w.heap.size, 0, none⟩ = some (.int .i64 s.ver) ∧ W.cell? ⟨w.heap.size, 1, none⟩ = some (.slice bA bn bc) from fun W hb => ⟨by rw [hb.facts.1]; exact Sh.arr_h _ 0 (by omega), by rw [hb.facts.1]; exact Sh.arr_h _ 1 (by omega)⟩)
  go_wp2_with fail
  go_region_held_law (fun W => W.cell? ⟨w.heap.size, 0, none⟩ = some (.int .i64 s.ver) ∧ W.cell? ⟨w.heap.size, 1, none⟩ = some (.slice bA bn bc))
    (first | exact KS.out _ L5.out.b0 | exact KS.out _ L4.out.b0 | exact KS.out _ (L3.out.alloc _).drew.b0 | exact KS.out _ L3.out.drew.b0 | go_keep)
    (first | (go_at_call 31; (with_reducible refine N3.out.mono ?_); rintro e w4 ⟨A4, n4, c4, rfl, h4⟩; have L4 := Lib.hid h4; clear h4) | (go_at_call 32; (with_reducible refine (N4.out _ _ L4.out).mono ?_); rintro e w5 ⟨A5, n5, c5, rfl, h5⟩; have L5 := Lib.hid h5; clear h5))
  have HP5 := Lib.hid (show (p3 ++ numsB [s.ver] ++ bksB s.bks).length ≤ 400000 by
    have a1 := bksB_len s.bks (fun y hy => layBk_told (LS.out.bk y hy))
    have a2 := (varB_len s.bks.length).2
    have a3 := HLB.out
    have := HP4.out
    unfold bksB
    simp only [List.length_append] at this ⊢
    omega)
  obtain ⟨p5, hp5⟩ : ∃ p5, p3 ++ numsB [s.ver] ++ bksB s.bks = p5 := ⟨_, rfl⟩
  rw [hp5] at L5 HP5
  have HE5 := Lib.hid hp5
  clear hp5 z1 z2 z3 z4 hl3
  have KX := Lib.hid (show ∀ W, Box W w.heap.size (Sh.mk s.ver ⟨bA, bn, bc⟩ ⟨gA, gn, gc⟩ ⟨fA, fn, fc⟩ s.tick s.no s.cnt).arr → W.cell? ⟨w.heap.size, 2, none⟩ = some (.slice gA gn gc) ∧ W.cell? ⟨w.heap.size, 3, none⟩ = some (.slice fA fn fc) from fun W hb => ⟨by rw [hb.facts.1]; exact Sh.arr_h _ 2 (by omega), by rw [hb.facts.1]; exact Sh.arr_h _ 3 (by omega)⟩)
  obtain ⟨z1, z2, z3, z4⟩ := L5.out.b0.facts
  have hl5 := L5.out.b0.lt
  have N6 := Lib.hid (nums_ly [(gn : Int)] 1 (L5.out.new (intsC [(gn : Int)]) 3) (by intro z hz; simp at hz; omega) rfl (by omega) (by have := HP5.out; omega))
  go_wp2_with fail
  refine N6.out.mono ?_
  rintro e w6 ⟨A6, n6, c6, rfl, h6⟩
  have L6 := Lib.hid h6
  clear h6 z1 z2 z3 z4 hl5
  have HP6 := Lib.hid (show (p5 ++ numsB [(gn : Int)]).length ≤ 500000 by
    have a1 := numsB_len [(gn : Int)]
    have := HP5.out
    simp only [List.length_append, List.length_nil, List.length_cons] at a1 ⊢
    omega)
  obtain ⟨p6, hp6⟩ : ∃ p6, p5 ++ numsB [(gn : Int)] = p6 := ⟨_, rfl⟩
  rw [hp6] at L6 HP6
  have HE6 := Lib.hid hp6
  clear hp6
  obtain ⟨z1, z2, z3, z4⟩ := L6.out.b0.facts
  have hl6 := L6.out.b0.lt
  go_wp2
  go_loopw [4, 42] (fun s4 s42 wr => ∃ (i : Nat) (A' : Option Addr) (m' c' : Nat), i ≤ gn ∧ s42 = .int .i64 i ∧ s4 = .slice A' m' c' ∧ Ly w1.heap.size [(w.heap.size, (Sh.mk s.ver ⟨bA, bn, bc⟩ ⟨gA, gn, gc⟩ ⟨fA, fn, fc⟩ s.tick s.no s.cnt).arr)] w1 wr (.slice A' m' c') (p6 ++ (s.hls.take i).flatMap hlB)) (fun _ s42 _ => gn - (intOf s42).toNat)
  case atStart => exact ⟨0, A6, n6, c6, by omega, rfl, rfl, by simpa using L6.out⟩
  case round =>
    obtain ⟨i, A', m', c', hi, rfl, rfl, h⟩ := hrel
    have HO := Lib.hid h
    clear h z1 z2 z3 z4 hl6
    obtain ⟨z1, z2, z3, z4⟩ := HO.out.b0.facts
    have hl6 := HO.out.b0.lt
    by_cases hlt : i < gn
    · have hlt2 : (i : Int) < gn := by omega
      obtain ⟨b, o, rfl, hbb, hh1, hh2⟩ := RdR.at_ Hl.arr_size noHl (HS1.out.h.go HO.out.o.bel) hlt
      have hxl := LS.out.hl _ (getD_mem noHl s.hls i (by have := HLH.out; omega))
      have hs := flat_snoc noHl hlB s.hls i (by have := HLH.out; omega)
      have hbl : (p6 ++ (s.hls.take i).flatMap hlB).length ≤ 900000 := by
        have := hlsB_len (s.hls.take i) (fun y hy => LS.out.hl y (List.mem_of_mem_take hy))
        rw [List.length_append]
        rw [List.length_take] at this
        have := HP6.out
        omega
      obtain ⟨y, hy⟩ : ∃ y, s.hls.getD i noHl = y := ⟨_, rfl⟩
      rw [hy] at hh2 hxl hs
      have HSN := Lib.hid hs
      have HBL := Lib.hid hbl
      have T := Lib.hid (HO.out.new y.arr 74)
      have TX := Lib.hid (fun (L : List (Nat × Array Value)) W v (hh : Ly w1.heap.size L w1 W v (p6 ++ (s.hls.take i).flatMap hlB)) => text_ly y.name hh (by have := hxl.1; omega) (by omega))
      have NX := Lib.hid (fun (d : Int) (hd : 0 ≤ d ∧ d ≤ 1) (L : List (Nat × Array Value)) q W v (hh : Ly w1.heap.size ((q, intsC [d, y.run]) :: L) w1 W v (p6 ++ (s.hls.take i).flatMap hlB ++ textB y.name)) => nums_ly [d, y.run] 2 hh (by have := hxl.2; intro z hz; simp at hz; omega) rfl (by omega) (by have := (varB_len y.name.length).2; have := hxl.1; have hb2 := hbl; unfold textB; simp only [List.length_append] at hb2 ⊢; omega))
      have EQ := Lib.hid (show ∀ d : Int, d = (if y.down then 1 else 0) → p6 ++ (s.hls.take i).flatMap hlB ++ textB y.name ++ numsB [d, y.run] = p6 ++ (s.hls.take (i + 1)).flatMap hlB by
        intro d hd
        rw [hs, numsB_cons, numsB_cons, numsB_nil, hd]
        simp only [hlB, List.append_nil, List.append_assoc]
        cases y.down <;> rfl)
      have KY := Lib.hid (show ∀ W, Box W wr.heap.size y.arr → W.cell? ⟨wr.heap.size, 0, none⟩ = some (.string (textOf y.name)) ∧ W.cell? ⟨wr.heap.size, 2, none⟩ = some (.int .i64 y.run) from fun W hb => ⟨by rw [hb.facts.1]; rfl, by rw [hb.facts.1]; rfl⟩)
      obtain ⟨t1, t2, t3, t4⟩ := T.out.b0.facts
      have hlt1 := T.out.b0.lt
      clear hy hs hbl hxl
      obtain ⟨dn, hdn⟩ : ∃ b, y.down = b := ⟨_, rfl⟩
      have HDN := Lib.hid hdn
      rw [hdn] at EQ
      cases dn
      · have TB := Lib.hid (show Ly w1.heap.size ((wr.heap.size + 1, intsC [0, y.run]) :: (wr.heap.size, y.arr) :: [(w.heap.size, (Sh.mk s.ver ⟨bA, bn, bc⟩ ⟨some ⟨b, o, none⟩, gn, gc⟩ ⟨fA, fn, fc⟩ s.tick s.no s.cnt).arr)]) w1 ((wr.alloc (.cells y.arr 74)).alloc (.cells (intsC [0, y.run]) 3)).drew (.slice A' m' c') (p6 ++ (s.hls.take i).flatMap hlB) by have := (T.out.new (intsC [0, y.run]) 3).drew; rw [show (wr.alloc (.cells y.arr 74)).heap.size = wr.heap.size + 1 by simp] at this; exact this)
        go_wp2_with fail
        go_region_held_law (fun W => W.cell? ⟨wr.heap.size, 0, none⟩ = some (.string (textOf y.name)) ∧ W.cell? ⟨wr.heap.size, 2, none⟩ = some (.int .i64 y.run))
          (first | exact KY.out _ Lz.out.b0 | exact KY.out _ (La.out.alloc _).b0 | exact KY.out _ La.out.b0 | exact KY.out _ Lb.out.b1 | exact KY.out _ TB.out.b1 | exact KY.out _ T.out.drew.b0 | go_keep)
          (first | (go_at_call 33; (with_reducible refine (TX.out _ _ _ T.out.drew).mono ?_); rintro e wa ⟨Aa, na, ca, rfl, ha⟩; have La := Lib.hid ha; clear ha) | (go_at_call 33; (with_reducible refine (TX.out _ _ _ TB.out).mono ?_); rintro e wb ⟨Ab, nb, cb, rfl, hb⟩; have Lb := Lib.hid hb; clear hb) | (go_at_call 31; (with_reducible refine (NX.out 0 (by omega) _ _ _ _ (La.out.new (intsC [0, y.run]) 3)).mono ?_); rintro e wz ⟨Az, nz, cz, rfl, hz⟩; have Lz := Lib.hid hz; clear hz) | (go_at_call 31; (with_reducible refine (NX.out 0 (by omega) _ _ _ _ Lb.out).mono ?_); rintro e wz ⟨Az, nz, cz, rfl, hz⟩; have Lz := Lib.hid hz; clear hz))
        all_goals
          go_wp2_with fail
          go_roundw
          case rel => exact ⟨i + 1, Az, nz, cz, by omega, by go_num, rfl, by have := Lz.out.pop; rw [EQ.out 0 (by simp)] at this; exact this⟩
          case measure => simp [intOf] <;> omega
      · have TB := Lib.hid (show Ly w1.heap.size ((wr.heap.size + 1, intsC [1, y.run]) :: (wr.heap.size, y.arr) :: [(w.heap.size, (Sh.mk s.ver ⟨bA, bn, bc⟩ ⟨some ⟨b, o, none⟩, gn, gc⟩ ⟨fA, fn, fc⟩ s.tick s.no s.cnt).arr)]) w1 ((wr.alloc (.cells y.arr 74)).alloc (.cells (intsC [1, y.run]) 3)).drew (.slice A' m' c') (p6 ++ (s.hls.take i).flatMap hlB) by have := (T.out.new (intsC [1, y.run]) 3).drew; rw [show (wr.alloc (.cells y.arr 74)).heap.size = wr.heap.size + 1 by simp] at this; exact this)
        go_wp2_with fail
        go_region_held_law (fun W => W.cell? ⟨wr.heap.size, 0, none⟩ = some (.string (textOf y.name)) ∧ W.cell? ⟨wr.heap.size, 2, none⟩ = some (.int .i64 y.run))
          (first | exact KY.out _ Lz.out.b0 | exact KY.out _ (La.out.alloc _).b0 | exact KY.out _ La.out.b0 | exact KY.out _ Lb.out.b1 | exact KY.out _ TB.out.b1 | exact KY.out _ T.out.drew.b0 | go_keep)
          (first | (go_at_call 33; (with_reducible refine (TX.out _ _ _ T.out.drew).mono ?_); rintro e wa ⟨Aa, na, ca, rfl, ha⟩; have La := Lib.hid ha; clear ha) | (go_at_call 33; (with_reducible refine (TX.out _ _ _ TB.out).mono ?_); rintro e wb ⟨Ab, nb, cb, rfl, hb⟩; have Lb := Lib.hid hb; clear hb) | (go_at_call 31; (with_reducible refine (NX.out 1 (by omega) _ _ _ _ (La.out.new (intsC [1, y.run]) 3)).mono ?_); rintro e wz ⟨Az, nz, cz, rfl, hz⟩; have Lz := Lib.hid hz; clear hz) | (go_at_call 31; (with_reducible refine (NX.out 1 (by omega) _ _ _ _ Lb.out).mono ?_); rintro e wz ⟨Az, nz, cz, rfl, hz⟩; have Lz := Lib.hid hz; clear hz))
        all_goals
          go_wp2_with fail
          go_roundw
          case rel => exact ⟨i + 1, Az, nz, cz, by omega, by go_num, rfl, by have := Lz.out.pop; rw [EQ.out 1 (by simp)] at this; exact this⟩
          case measure => simp [intOf] <;> omega
    · have hge : ¬ (i : Int) < gn := by omega
      have HF2 := Lib.hid (show s.hls.take i = s.hls from List.take_of_length_le (by have := HLH.out; omega))
      rw [HF2.out] at HO
      have HP7 := Lib.hid (show (p6 ++ s.hls.flatMap hlB).length ≤ 900000 by
        have a1 := hlsB_len s.hls (fun y hy => LS.out.hl y hy)
        have a2 := LS.out.nh
        have := HP6.out
        simp only [List.length_append] at this ⊢
        omega)
      obtain ⟨p7, hp7⟩ : ∃ p7, p6 ++ s.hls.flatMap hlB = p7 := ⟨_, rfl⟩
      rw [hp7] at HO HP7
      have HE7 := Lib.hid hp7
      clear hp7
      have N7 := Lib.hid (nums_ly [(fn : Int)] 1 (HO.out.new (intsC [(fn : Int)]) 3) (by intro z hz; simp at hz; omega) rfl (by omega) (by have := HP7.out; omega))
      go_wp2_with fail
      refine N7.out.mono ?_
      rintro e w8 ⟨A8, n8, c8, rfl, h8⟩
      have L8 := Lib.hid h8
      clear h8 z1 z2 z3 z4 hl6
      have HP8 := Lib.hid (show (p7 ++ numsB [(fn : Int)]).length ≤ 1000000 by
        have a1 := numsB_len [(fn : Int)]
        have := HP7.out
        simp only [List.length_append, List.length_nil, List.length_cons] at a1 ⊢
        omega)
      obtain ⟨p8, hp8⟩ : ∃ p8, p7 ++ numsB [(fn : Int)] = p8 := ⟨_, rfl⟩
      rw [hp8] at L8 HP8
      have HE8 := Lib.hid hp8
      clear hp8
      obtain ⟨z1, z2, z3, z4⟩ := L8.out.b0.facts
      have hl8 := L8.out.b0.lt
      generalize wr = wo at *
      go_wp2
      go_loopw [4, 67] (fun s4 s67 wr => ∃ (i : Nat) (A' : Option Addr) (m' c' : Nat), i ≤ fn ∧ s67 = .int .i64 i ∧ s4 = .slice A' m' c' ∧ Ly w1.heap.size [(w.heap.size, (Sh.mk s.ver ⟨bA, bn, bc⟩ ⟨gA, gn, gc⟩ ⟨fA, fn, fc⟩ s.tick s.no s.cnt).arr)] w1 wr (.slice A' m' c') (p8 ++ (s.fws.take i).flatMap fwB)) (fun _ s67 _ => fn - (intOf s67).toNat)
      case atStart => exact ⟨0, A8, n8, c8, by omega, rfl, rfl, by simpa using L8.out⟩
      case round =>
        clear HO
        obtain ⟨i, A', m', c', hi, rfl, rfl, h⟩ := hrel
        have HO := Lib.hid h
        clear h z1 z2 z3 z4 hl8
        obtain ⟨z1, z2, z3, z4⟩ := HO.out.b0.facts
        have hl8 := HO.out.b0.lt
        by_cases hlt : i < fn
        · have hlt2 : (i : Int) < fn := by omega
          obtain ⟨b, o, rfl, hbb, hh1, hh2⟩ := RdR.fw (HS1.out.f.go HO.out.o.bel) hlt
          have hxl := LS.out.fw _ (getD_mem noFw s.fws i (by have := HLF.out; omega))
          have hs := flat_snoc noFw fwB s.fws i (by have := HLF.out; omega)
          have hbl : (p8 ++ (s.fws.take i).flatMap fwB).length ≤ 3000000 := by
            have := fwsB_len (s.fws.take i) (fun y hy => LS.out.fw y (List.mem_of_mem_take hy))
            rw [List.length_append]
            rw [List.length_take] at this
            have := HP8.out
            omega
          obtain ⟨y, hy⟩ : ∃ y, s.fws.getD i noFw = y := ⟨_, rfl⟩
          rw [hy] at hh2 hxl hs
          have HSN := Lib.hid hs
          have HBL := Lib.hid hbl
          have T := Lib.hid (HO.out.new y.arr 79)
          have SB := Lib.hid (sipBytes_any y.key ⟨hxl.1.2.1, hxl.1.2.2.1, hxl.1.2.2.2⟩ (wr.alloc (.cells y.arr 79)))
          have TX := Lib.hid (fun (L : List (Nat × Array Value)) W v (hh : Ly w1.heap.size L w1 W v (p8 ++ (s.fws.take i).flatMap fwB ++ tuB y.key)) => text_ly y.name hh (by have := hxl.2.1; omega) (by have hb2 := hbl; have := tuB_len y.key; simp only [List.length_append] at hb2 ⊢; omega))
          have NX := Lib.hid (fun (L : List (Nat × Array Value)) q W v (hh : Ly w1.heap.size ((q, intsC [y.state, y.seen, y.no]) :: L) w1 W v (p8 ++ (s.fws.take i).flatMap fwB ++ tuB y.key ++ textB y.name)) => nums_ly [y.state, y.seen, y.no] 3 hh (by have h3 := hxl.2.2; intro z hz; simp at hz; omega) rfl (by omega) (by have := (varB_len y.name.length).2; have := hxl.2.1; have hb2 := hbl; have := tuB_len y.key; unfold textB; simp only [List.length_append] at hb2 ⊢; omega))
          have EQ := Lib.hid (show p8 ++ (s.fws.take i).flatMap fwB ++ tuB y.key ++ textB y.name ++ numsB [y.state, y.seen, y.no] = p8 ++ (s.fws.take (i + 1)).flatMap fwB by
            rw [hs, numsB_cons, numsB_cons, numsB_cons, numsB_nil]
            simp only [fwB, List.append_nil, List.append_assoc])
          have KY := Lib.hid (show ∀ W, Box W wr.heap.size y.arr → W.cell? ⟨wr.heap.size, 37, none⟩ = some (.string (textOf y.name)) ∧ W.cell? ⟨wr.heap.size, 38, none⟩ = some (.int .i64 y.state) ∧ W.cell? ⟨wr.heap.size, 39, none⟩ = some (.int .i64 y.seen) ∧ W.cell? ⟨wr.heap.size, 40, none⟩ = some (.int .i64 y.no) from fun W hb => ⟨by rw [hb.facts.1]; exact Fw.arr_37 y, by rw [hb.facts.1]; exact Fw.arr_38 y, by rw [hb.facts.1]; exact Fw.arr_39 y, by rw [hb.facts.1]; exact Fw.arr_40 y⟩)
          have HTL := Lib.hid (show (p8 ++ (s.fws.take i).flatMap fwB).length + 38 ≤ 1000000000 by omega)
          obtain ⟨t1, t2, t3, t4⟩ := T.out.b0.facts
          have hlt1 := T.out.b0.lt
          clear hy hs hbl hxl
          go_wp2_with fail
          refine SB.out.mono ?_
          rintro e w9 ⟨A9, n9, c9, rfl, hn9, ho9, hb9⟩
          have hn38 : n9 = 38 := by rw [hn9, tuB_len]
          subst hn38
          have T9 := Lib.hid (T.out.go hb9)
          have R9 := Lib.hid (RdB.of_own ho9)
          clear hn9 ho9 hb9
          go_wp2_with (at_builtin; refine wpList_ow rfl (.tmp 71) (.tmp 74) rfl rfl T9.out.o rfl R9.out HTL.out ?_; intro A10 n10 c10 w10 h2 h3; have T10 := Lib.hid (T9.out.step h3); clear h2 h3)
          have TB := Lib.hid ((T10.out.new (intsC [y.state, y.seen, y.no]) 3).drew)
          clear t1 t2 t3 t4 hlt1
          go_region_held_law (fun W => W.cell? ⟨wr.heap.size, 37, none⟩ = some (.string (textOf y.name)) ∧ W.cell? ⟨wr.heap.size, 38, none⟩ = some (.int .i64 y.state) ∧ W.cell? ⟨wr.heap.size, 39, none⟩ = some (.int .i64 y.seen) ∧ W.cell? ⟨wr.heap.size, 40, none⟩ = some (.int .i64 y.no))
            (first | exact KY.out _ Lz.out.b0 | exact KY.out _ (La.out.alloc _).b0 | exact KY.out _ La.out.b0 | exact KY.out _ Lb.out.b1 | exact KY.out _ TB.out.b1 | exact KY.out _ T10.out.drew.b0 | go_keep)
            (first | (go_at_call 33; (with_reducible refine (TX.out _ _ _ T10.out.drew).mono ?_); rintro e wa ⟨Aa, na, ca, rfl, ha⟩; have La := Lib.hid ha; clear ha) | (go_at_call 33; (with_reducible refine (TX.out _ _ _ TB.out).mono ?_); rintro e wb ⟨Ab, nb, cb, rfl, hb⟩; have Lb := Lib.hid hb; clear hb) | (go_at_call 31; (with_reducible refine (NX.out _ _ _ _ (La.out.new (intsC [y.state, y.seen, y.no]) 3)).mono ?_); rintro e wz ⟨Az, nz, cz, rfl, hz⟩; have Lz := Lib.hid hz; clear hz) | (go_at_call 31; (with_reducible refine (NX.out _ _ _ _ Lb.out).mono ?_); rintro e wz ⟨Az, nz, cz, rfl, hz⟩; have Lz := Lib.hid hz; clear hz))
          all_goals
            go_wp2_with fail
            go_roundw
            case rel => exact ⟨i + 1, Az, nz, cz, by omega, by go_num, rfl, by have := Lz.out.pop; rw [EQ.out] at this; exact this⟩
            case measure => simp [intOf] <;> omega
        · have hge2 : ¬ (i : Int) < fn := by omega
          have HF3 := Lib.hid (show s.fws.take i = s.fws from List.take_of_length_le (by have := HLF.out; omega))
          rw [HF3.out] at HO
          go_wp2
          go_ret2
          refine StPutP.yes HOK.out HB1.out HO.out ?_
          rw [← HE8.out, ← HE7.out, ← HE6.out, ← HE5.out, ← HE3.out]
          unfold staB bksB
          rw [cnt_flat2]
          simp [numsB_cons, numsB_nil, HLH.out, HLF.out]
end Go.Proofs.YtmpemeemlhmaaaaGreat
