/- The document's reading of a flow. -/
import Derived.Test.YtmpemeemlhmaaaaGreatQ43
import Derived.Test.YtmpemeemlhmaaaaGreatQ22
import Derived.Test.YtmpemeemlhmaaaaGreatQ16
set_option linter.unusedSimpArgs false
set_option linter.unusedVariables false
set_option maxRecDepth 100000
namespace Go.Proofs.YtmpemeemlhmaaaaGreat
open Go.RowKit Go.ChangeShapes Go.WideShapes Go.ChangeAt

@[go_sem] theorem Fw.arr_0 (x : Fw) : x.arr[0]? = some (.bool x.key.src.six) := (Fw.arr_k x 0 (by omega)).trans (Tu.arr_0 _)
@[go_sem] theorem Fw.arr_17 (x : Fw) : x.arr[17]? = some (.bool x.key.dst.six) := (Fw.arr_k x 17 (by omega)).trans (Tu.arr_17 _)
@[go_sem] theorem Fw.arr_34 (x : Fw) : x.arr[34]? = some (.int .i64 x.key.proto) := (Fw.arr_k x 34 (by omega)).trans (Tu.arr_34 _)
@[go_sem] theorem Fw.arr_35 (x : Fw) : x.arr[35]? = some (.int .i64 x.key.sport) := (Fw.arr_k x 35 (by omega)).trans (Tu.arr_35 _)
@[go_sem] theorem Fw.arr_36 (x : Fw) : x.arr[36]? = some (.int .i64 x.key.dport) := (Fw.arr_k x 36 (by omega)).trans (Tu.arr_36 _)
theorem Fw.arr_sb (x : Fw) (i : Nat) (hi : i < 16) : x.arr[i + 1]? = some (bv (x.key.src.b.toList.getD i 0)) := by
  rw [Fw.arr_k x _ (by omega), Tu.arr_s _ _ (by omega), Adr.arr_b _ i hi]
theorem Fw.arr_db (x : Fw) (i : Nat) (hi : i < 16) : x.arr[i + 18]? = some (bv (x.key.dst.b.toList.getD i 0)) := by
  rw [Fw.arr_k x _ (by omega), show i + 18 = (i + 1) + 17 by omega, Tu.arr_d _ _ (by omega), Adr.arr_b _ i hi]
@[go_sem] theorem run_mkFw_z (w : World) : (mkFw #[]).run Tryz.prog w = .ok (.agg noFw.arr) w := by
  obtain ⟨i0, hi0, hz0, _, _⟩ := infoFw
  exact run_build w _ _ i0 noFw.arr _ _ _ Tryz.underlying79 hi0 hz0 (places_fw w _ Tryz.underlying79) rfl
/-- a cell of the key is set -/
def Fw.toK (x : Fw) (t : Tu) : Fw := { x with key := t }
def Fw.toN (x : Fw) (s : List UInt8) : Fw := { x with name := s }
theorem Fw.set_k (x : Fw) (j : Nat) (hj : j < 37) (u : Value) (t : Tu) (ht : x.key.arr.setIfInBounds j u = t.arr) : x.arr.setIfInBounds j u = (x.toK t).arr := by
  refine Fw.ext_arr (by simp [Fw.arr_size]) ?_ ?_ <;> intro k hk <;> rw [set_get _ _ _ _ (by rw [Fw.arr_size]; omega)]
  · have h : (x.key.arr.setIfInBounds j u)[k]? = t.arr[k]? := by rw [ht]
    rw [set_get _ _ _ _ (by rw [Tu.arr_size]; omega)] at h
    rw [Fw.arr_k x k hk]
    exact h
  · rw [if_neg (by omega), Fw.arr_t x k hk]; rfl
theorem Fw.set_name (x : Fw) (s : List UInt8) : x.arr.setIfInBounds 37 (.string (textOf s)) = (x.toN s).arr := by
  have := Fw.lay_name x s
  rw [laid_one] at this
  exact this
theorem Tu.set_sb (t : Tu) (l : List UInt8) (i : Nat) (hi : i < 16) : (t.toSB (l.take i)).arr.setIfInBounds (i + 1) (bv (l.getD i 0)) = (t.toSB (l.take (i + 1))).arr := by
  refine Tu.ext_arr (by simp [Tu.arr_size]) ?_ ?_ ?_ <;> intro j hj <;> rw [set_get _ _ _ _ (by rw [Tu.arr_size]; omega)]
  · rcases j with _ | k
    · rw [if_neg (by omega), Tu.arr_s _ 0 (by omega), Tu.toSB_src, Tu.toSB_src, Adr.mk_0, Adr.mk_0]
    · rw [Tu.arr_s _ _ (by omega), Tu.toSB_src, Tu.toSB_src, Adr.mk_b _ _ k (by omega), Adr.mk_b _ _ k (by omega)]
      exact byte_next 16 l i k hi (by omega) _ _ (by omega)
  · rw [if_neg (by omega), Tu.arr_d _ j hj, Tu.toSB_dst, Tu.toSB_dst]
  · rw [if_neg (by omega), Tu.arr_t _ j hj, Tu.toSB_t, Tu.toSB_t]
theorem Tu.set_db (t : Tu) (l : List UInt8) (i : Nat) (hi : i < 16) : (t.toDB (l.take i)).arr.setIfInBounds (i + 18) (bv (l.getD i 0)) = (t.toDB (l.take (i + 1))).arr := by
  refine Tu.ext_arr (by simp [Tu.arr_size]) ?_ ?_ ?_ <;> intro j hj <;> rw [set_get _ _ _ _ (by rw [Tu.arr_size]; omega)]
  · rw [if_neg (by omega), Tu.arr_s _ j hj, Tu.toDB_src, Tu.toDB_src]
  · rcases j with _ | k
    · rw [if_neg (by omega), Tu.arr_d _ 0 (by omega), Tu.toDB_dst, Tu.toDB_dst, Adr.mk_0, Adr.mk_0]
    · rw [Tu.arr_d _ _ (by omega), Tu.toDB_dst, Tu.toDB_dst, Adr.mk_b _ _ k (by omega), Adr.mk_b _ _ k (by omega)]
      exact byte_next 16 l i k hi (by omega) _ _ (by omega)
  · rw [if_neg (by omega), Tu.arr_t _ j hj, Tu.toDB_t, Tu.toDB_t]
theorem Tu.toSB_nil (t : Tu) (h : t.src.b = Vector.replicate 16 0) : t.toSB [] = t := by unfold Tu.toSB; rw [vecO_nil, ← h]
theorem Tu.toDB_nil (t : Tu) (h : t.dst.b = Vector.replicate 16 0) : t.toDB [] = t := by unfold Tu.toDB; rw [vecO_nil, ← h]
theorem Tu.SB_DB (t : Tu) (l m : List UInt8) : (t.toSB l).toDB m = (t.toDB m).toSB l := rfl
theorem Lq.bad {W0 w : World} {p B y : Nat} {s : RS} {c c0 : Array Value} (h : Lq W0 w p B s y c c0) : Lq W0 (w.setCell ⟨p, 1, none⟩ (.bool true)) p B none y c c0 := h.read h.rd.bad (set_gb _ _ _ _)
def FwQ (W : World) (p B : Nat) (r : Fw × RS) (e : Ending) (W' : World) : Prop := e = .returned (.agg r.1.arr) ∧ RowS W' p B r.2 ∧ W.grownBy W' (some p)
/-- the first byte says whether it may be -/
theorem fw_six (b : UInt8) (s : RS) (h : b = 6) : (if b == 4 || b == 6 then s else none) = s := by subst h; rfl
theorem fw_four (b : UInt8) (s : RS) (h : b = 4) : (if b == 4 || b == 6 then s else none) = s := by subst h; rfl
theorem fw_bad (b : UInt8) (s : RS) (h4 : b ≠ 4) (h6 : b ≠ 6) : (if b == 4 || b == 6 then s else none) = none := by
  rw [if_neg]; simp [h4, h6]
set_option maxRecDepth 100000 in
set_option maxHeartbeats 8000000 in
theorem rowFlow_any (p B : Nat) (s : RS) (W : World) (h : RowS W p B s) :
    Calls Tryz.prog 59 #[.pointer (some ⟨p, 0, none⟩)] W (FwQ W p B (fwQ s)) := by
  obtain ⟨R, hR⟩ : ∃ R, fwQ s = R := ⟨_, rfl⟩
  rw [hR]
  unfold fwQ at hR
  rw [M60_is] at hR
  obtain ⟨⟨x, s0⟩, e1⟩ : ∃ z, takeD 38 s = z := ⟨_, rfl⟩
  have h38 := takeD_len 38 s
  rw [e1] at h38
  simp only [e1] at hR
  obtain ⟨s1, hs1⟩ : ∃ r, (if x.getD 0 0 == 4 || x.getD 0 0 == 6 then s0 else none) = r := ⟨_, rfl⟩
  rw [hs1] at hR
  obtain ⟨⟨nm, s2⟩, e2⟩ : ∃ z, textR s1 = z := ⟨_, rfl⟩
  obtain ⟨⟨n3, s3⟩, e3⟩ : ∃ z, numD 1152921504606846976 s2 = z := ⟨_, rfl⟩
  obtain ⟨⟨n4, s4⟩, e4⟩ : ∃ z, numD 1152921504606846976 s3 = z := ⟨_, rfl⟩
  obtain ⟨⟨n5, s5⟩, e5⟩ : ∃ z, numD 1152921504606846976 s4 = z := ⟨_, rfl⟩
  simp only [e2, e3, e4, e5] at hR
  have H38 := Lib.hid (show x.length = 38 from h38)
  have HR0 := Lib.hid hR
  have HS1 := Lib.hid hs1
  have E1 := Lib.hid e1
  have E2 := Lib.hid e2
  have E3 := Lib.hid e3
  have E4 := Lib.hid e4
  have E5 := Lib.hid e5
  have hpl := h.lt
  have HH := Lib.hid h
  clear hR h38 e1 e2 e3 e4 e5 h hs1
  have C1 := Lib.hid (rowTake38 p B s (W.alloc (.cells noFw.arr 79)) (HH.out.alloc _))
  rw [E1.out] at C1
  go_enter Tryz.func59, Tryz.ntmps59
  go_wp2_with fail
  (with_reducible refine C1.out.mono ?_)
  rintro e w1 ⟨A, m, c, rfl, hm, ho, k1, k2⟩
  have hm2 : m = 38 := by rw [hm]; exact H38.out
  subst hm2
  obtain ⟨g, rfl, hg1, hg2, hc⟩ := own_cells ho (by omega)
  have hs0 : W.heap.size < w1.heap.size := by have := k2.size; simp at this; omega
  have hgp : p ≠ g := by have := HH.out.lt; simp at hg1; omega
  obtain ⟨y, hy⟩ : ∃ y, y = w1.heap.size := ⟨_, rfl⟩
  obtain ⟨W2, hW2⟩ : ∃ W2, W2 = w1.alloc (.cells noFw.arr 79) := ⟨_, rfl⟩
  have hgy : y ≠ g := by omega
  have L2 := Lib.hid (show Lq W W2 p B s0 y noFw.arr noFw.arr by
    rw [hW2, hy]
    refine ⟨k1.alloc _, Box.new _ _ _, ((Box.new W noFw.arr 79).grown k2 (fun e => by injection e with e; omega)).alloc _, ?_, by omega, hs0, hpl⟩
    exact gb_trans (gb_trans (gb_of_below ((Below.refl W.heap.size W).alloc (Nat.le_refl _) _) _) k2) (gb_of_below ((Below.refl w1.heap.size w1).alloc (Nat.le_refl _) _) _))
  have B2 := Lib.hid (show Byt W2 g x from fun j hj => by rw [hW2, World.cell?_alloc_lt w1 _ _ hg2]; exact hc j (by rw [← H38.out]; exact hj))
  have HW2 := Lib.hid (show w1.alloc (.cells noFw.arr 79) = W2 from hW2.symm)
  have HY := Lib.hid (show w1.heap.size = y from hy.symm)
  clear ho k1 k2 hm hc C1 hg1 hg2 hy hW2 hs0 HH
  go_upto_region 3 with fail
  rw [HW2.out, HY.out]
  clear HW2 HY
  obtain ⟨b, hb⟩ : ∃ b, b = x.getD 0 0 := ⟨_, rfl⟩
  have HB0 := Lib.hid (show x.getD 0 0 = b from hb.symm)
  obtain ⟨q, hq⟩ : ∃ q, q = (b == 6) := ⟨_, rfl⟩
  have HQ := Lib.hid hq
  obtain ⟨X, hX⟩ : ∃ X, X = (noFw.toK (noFw.key.toS q)).toK ((noFw.toK (noFw.key.toS q)).key.toD q) := ⟨_, rfl⟩
  have HX := Lib.hid hX
  have HXs := Lib.hid (show X.key.src.b = Vector.replicate 16 0 by rw [hX]; rfl)
  have HXd := Lib.hid (show X.key.dst.b = Vector.replicate 16 0 by rw [hX]; rfl)
  clear hb hq hX
  obtain ⟨y1, y2, y3, y4⟩ := L2.out.bk.facts
  have ly := L2.out.bk.lt
  have hb8 := b.toNat_lt
  have c0 := B2.out 0 (by rw [H38.out]; omega)
  rw [HB0.out] at c0
  have HQI := Lib.hid (show ((b.toNat : Int) == 6) = q by rw [HQ.out, u8_eq]; rfl)
  have hqi := HQI.out
  have L3 := Lib.hid (L2.out.set 0 (.bool q) (Fw.set_k noFw 0 (by omega) _ _ (Tu.set_s _ q)))
  have B3 := Lib.hid (B2.out.set hgy 0 (.bool q))
  have c3 := B3.out 0 (by rw [H38.out]; omega)
  rw [HB0.out] at c3
  obtain ⟨z1, z2, z3, z4⟩ := L3.out.bk.facts
  have L4 := Lib.hid (L3.out.set 17 (.bool q) (Fw.set_k _ 17 (by omega) _ _ (Tu.set_d _ q)))
  have B4 := Lib.hid (B3.out.set hgy 17 (.bool q))
  have c4 := B4.out 0 (by rw [H38.out]; omega)
  rw [HB0.out] at c4
  have HS2 := HS1.out
  rw [HB0.out] at HS2
  unfold bv at c0 c3 c4
  rw [← HX.out] at L4
  go_upto_region 5 with fail
  obtain ⟨W4, hW4⟩ : ∃ W4, W4 = (W2.setCell ⟨y, 0, none⟩ (.bool q)).setCell ⟨y, 17, none⟩ (.bool q) := ⟨_, rfl⟩
  rw [← hW4] at L4 B4 c4 ⊢
  have hpl4 := L4.out.rd.lt
  obtain ⟨d1, d2⟩ := L4.out.rd.spot
  have HS3 := Lib.hid HS2
  clear hW4 L2 B2 L3 B3 y1 y2 y3 y4 z1 z2 z3 z4 ly c0 c3 hqi HS2 HS1
  obtain ⟨bad, hbad⟩ : ∃ k : Bool, k = !(b == 4 || b == 6) := ⟨_, rfl⟩
  have HBAD := Lib.hid hbad
  have HS4 := Lib.hid (show (if bad then none else s0) = s1 by
    rw [← HS3.out, hbad]
    cases (b == 4 || b == 6) <;> rfl)
  clear hbad HS3
  go_cut [32] from 23 to 36 (fun s32 wx => s32 = .bool bad ∧ wx = W4)
  case first =>
    by_cases h6 : b = 6
    · have e6 : ((b.toNat : Int) != 6) = false := by rw [h6]; rfl
      have e4 : ((b.toNat : Int) != 4) = true := by rw [h6]; rfl
      have HZ := Lib.hid (show bad = false by rw [HBAD.out, h6]; rfl)
      clear h6
      go_wp2
      go_meet
      case rel => exact ⟨by rw [HZ.out], rfl⟩
    · have hn6 : b.toNat ≠ 6 := fun e => h6 (UInt8.toNat_inj.1 e)
      have e6 : ((b.toNat : Int) != 6) = true := by simp; omega
      by_cases h4 : b = 4
      · have e4 : ((b.toNat : Int) != 4) = false := by rw [h4]; rfl
        have HZ := Lib.hid (show bad = false by rw [HBAD.out, h4]; rfl)
        clear h6 h4 hn6
        go_wp2
        go_meet
        case rel => exact ⟨by rw [HZ.out], rfl⟩
      · have hn4 : b.toNat ≠ 4 := fun e => h4 (UInt8.toNat_inj.1 e)
        have e4 : ((b.toNat : Int) != 4) = true := by simp; omega
        have HZ := Lib.hid (show bad = true by rw [HBAD.out]; simp [h4, h6])
        clear h6 h4 hn6 hn4
        go_wp2
        go_meet
        case rel => exact ⟨by rw [HZ.out], rfl⟩
  case rest =>
    obtain ⟨rfl, rfl⟩ := hcut
    go_upto_if 32 with fail
    go_cut [] from 23 to 36 (fun wx => Lq W wx p B s1 y X.arr noFw.arr ∧ Byt wx g x)
    case first =>
      cases bad
      · have HF := Lib.hid (show s0 = s1 from HS4.out)
        go_wp2
        go_meet
        case rel => exact ⟨by rw [← HF.out]; exact L4.out, B4.out⟩
      · have HF := Lib.hid (show none = s1 from HS4.out)
        go_wp2
        go_meet
        case rel => exact ⟨by rw [← HF.out]; exact L4.out.bad, B4.out.set hgp 1 _⟩
    case rest =>
      obtain ⟨hL0, hB0⟩ := hcut
      have L5 := Lib.hid hL0
      have B5 := Lib.hid hB0
      clear hL0 hB0 L4 B4 c4 HS4 HBAD d1 d2 hpl4
      obtain ⟨l1, hl1⟩ : ∃ l, l = x.drop 1 := ⟨_, rfl⟩
      obtain ⟨l17, hl17⟩ : ∃ l, l = x.drop 17 := ⟨_, rfl⟩
      have HL1 := Lib.hid hl1
      have HL17 := Lib.hid hl17
      have HG1 := Lib.hid (show ∀ i, l1.getD i 0 = x.getD (1 + i) 0 from fun i => by rw [hl1, drop_getD0])
      have HG17 := Lib.hid (show ∀ i, l17.getD i 0 = x.getD (17 + i) 0 from fun i => by rw [hl17, drop_getD0])
      clear hl1 hl17
      go_wp2
      go_loopw [5] (fun s5 wr => ∃ i : Nat, i ≤ 16 ∧ s5 = .int .i64 i ∧ Lq W wr p B s1 y (X.toK ((X.key.toSB (l1.take i)).toDB (l17.take i))).arr noFw.arr ∧ Byt wr g x) (fun s5 _ => 16 - (intOf s5).toNat)
      case atStart => exact ⟨0, by omega, rfl, by rw [List.take_zero, List.take_zero, Tu.toSB_nil X.key HXs.out, Tu.toDB_nil X.key HXd.out]; exact L5.out, B5.out⟩
      case round =>
        obtain ⟨i, hin, rfl, hL, hB⟩ := hrel
        have HL := Lib.hid hL
        have HBY := Lib.hid hB
        obtain ⟨y1, y2, y3, y4⟩ := hL.bk.facts
        have ly := hL.bk.lt
        by_cases hlt : i < 16
        · have hi : (i : Int) < 16 := by omega
          obtain ⟨b1, hb1⟩ : ∃ b, b = x.getD (1 + i) 0 := ⟨_, rfl⟩
          obtain ⟨b2, hb2⟩ : ∃ b, b = x.getD (17 + i) 0 := ⟨_, rfl⟩
          have hci := hB (1 + i) (by rw [H38.out]; omega)
          rw [← hb1] at hci
          have hy1 : wr.cell? ⟨y, 1 + i, none⟩ = some (bv ((X.toK ((X.key.toSB (l1.take i)).toDB (l17.take i))).key.src.b.toList.getD i 0)) := by rw [y1, Nat.add_comm 1 i, Fw.arr_sb _ i hlt]
          have L6 := Lib.hid (show Lq W (wr.setCell ⟨y, 1 + i, none⟩ (bv b1)) p B s1 y (X.toK ((X.key.toSB (l1.take (i + 1))).toDB (l17.take i))).arr noFw.arr by
            rw [Nat.add_comm 1 i, hb1, ← HG1.out]
            exact HL.out.set (i + 1) _ (Fw.set_k _ _ (by omega) _ _ (Tu.set_sb (X.key.toDB (l17.take i)) l1 i hlt)))
          have B6 := Lib.hid (HBY.out.set hgy (1 + i) (bv b1))
          have hci2 := B6.out (17 + i) (by rw [H38.out]; omega)
          rw [← hb2] at hci2
          have hy2 : (wr.setCell ⟨y, 1 + i, none⟩ (bv b1)).cell? ⟨y, 18 + i, none⟩ = some (bv ((X.toK ((X.key.toSB (l1.take (i + 1))).toDB (l17.take i))).key.dst.b.toList.getD i 0)) := by rw [L6.out.bk.facts.1, Nat.add_comm 18 i, Fw.arr_db _ i hlt]
          have hf2 := L6.out.bk.facts.2.1 (18 + i)
          have L7 := Lib.hid (show Lq W ((wr.setCell ⟨y, 1 + i, none⟩ (bv b1)).setCell ⟨y, 18 + i, none⟩ (bv b2)) p B s1 y (X.toK ((X.key.toSB (l1.take (i + 1))).toDB (l17.take (i + 1)))).arr noFw.arr by
            rw [Nat.add_comm 18 i, hb2, ← HG17.out]
            exact L6.out.set (i + 18) _ (Fw.set_k _ _ (by omega) _ _ (Tu.set_db (X.key.toSB (l1.take (i + 1))) l17 i hlt)))
          have B7 := Lib.hid (B6.out.set hgy (18 + i) (bv b2))
          have hb8 := b1.toNat_lt
          have hb9 := b2.toNat_lt
          have hw1 : IntKind.i64.wrap ((1 : Int) + (i : Int)) = ((1 + i : Nat) : Int) := by rw [IntWalk.i64_in _ (by omega)]; omega
          have hw2 : IntKind.i64.wrap ((17 : Int) + (i : Int)) = ((17 + i : Nat) : Int) := by rw [IntWalk.i64_in _ (by omega)]; omega
          unfold bv at hci hci2 L7 B7 hy1 hy2 hf2
          clear hL hB hb1 hb2 y1 y3 y4 L6 B6
          go_wp2
          go_roundw
          case rel => exact ⟨i + 1, by omega, by go_num, L7.out, B7.out⟩
          case measure => simp [intOf] <;> omega
        · obtain rfl : i = 16 := by omega
          obtain ⟨wA, hwA⟩ : ∃ wA, wA = wr := ⟨_, rfl⟩
          have HV := Lib.hid (show (X.key.toSB (l1.take 16)).toDB (l17.take 16) = (X.key.toSB l1).toDB l17 by unfold Tu.toSB Tu.toDB; rw [vecO_take, vecO_take])
          rw [HV.out] at HL
          rw [← hwA] at HL HBY ⊢
          clear hL hB y1 y2 y3 y4 ly L5 B5 hwA
          obtain ⟨Y, hY⟩ : ∃ Y, Y = X.toK ((X.key.toSB l1).toDB l17) := ⟨_, rfl⟩
          rw [← hY] at HL
          have HYY := Lib.hid hY
          obtain ⟨b33, h33⟩ : ∃ b, b = x.getD 33 0 := ⟨_, rfl⟩
          obtain ⟨b34, h34⟩ : ∃ b, b = x.getD 34 0 := ⟨_, rfl⟩
          obtain ⟨b35, h35⟩ : ∃ b, b = x.getD 35 0 := ⟨_, rfl⟩
          obtain ⟨b36, h36⟩ : ∃ b, b = x.getD 36 0 := ⟨_, rfl⟩
          obtain ⟨b37, h37⟩ : ∃ b, b = x.getD 37 0 := ⟨_, rfl⟩
          have M33 := Lib.hid (show ∀ w, Byt w g x → w.cell? ⟨g, 33, none⟩ = some (bv b33) from fun w h => by rw [h33]; exact h 33 (by rw [H38.out]; omega))
          have M34 := Lib.hid (show ∀ w, Byt w g x → w.cell? ⟨g, 34, none⟩ = some (bv b34) from fun w h => by rw [h34]; exact h 34 (by rw [H38.out]; omega))
          have M35 := Lib.hid (show ∀ w, Byt w g x → w.cell? ⟨g, 35, none⟩ = some (bv b35) from fun w h => by rw [h35]; exact h 35 (by rw [H38.out]; omega))
          have M36 := Lib.hid (show ∀ w, Byt w g x → w.cell? ⟨g, 36, none⟩ = some (bv b36) from fun w h => by rw [h36]; exact h 36 (by rw [H38.out]; omega))
          have M37 := Lib.hid (show ∀ w, Byt w g x → w.cell? ⟨g, 37, none⟩ = some (bv b37) from fun w h => by rw [h37]; exact h 37 (by rw [H38.out]; omega))
          have HK33 := Lib.hid h33
          have HK34 := Lib.hid h34
          have HK35 := Lib.hid h35
          have HK36 := Lib.hid h36
          have HK37 := Lib.hid h37
          have t33 := b33.toNat_lt
          have t34 := b34.toNat_lt
          have t35 := b35.toNat_lt
          have t36 := b36.toNat_lt
          have t37 := b37.toNat_lt
          clear h33 h34 h35 h36 h37 hY
          have c33 := M33.out _ HBY.out
          obtain ⟨y1, y2, y3, y4⟩ := HL.out.bk.facts
          have ly := HL.out.bk.lt
          have L8 := Lib.hid (HL.out.set 34 (.int .i64 (b33.toNat : Nat)) (Fw.set_k Y 34 (by omega) _ _ (Tu.set_0 _ _)))
          have B8 := Lib.hid (HBY.out.set hgy 34 (.int .i64 (b33.toNat : Nat)))
          unfold bv at c33
          go_upto_region 13 with fail
          obtain ⟨wB, hwB⟩ : ∃ wB, wB = wA.setCell ⟨y, 34, none⟩ (.int .i64 (b33.toNat : Nat)) := ⟨_, rfl⟩
          rw [← hwB] at L8 B8 ⊢
          clear hwB HL HBY y1 y2 y3 y4 ly c33
          have c34 := M34.out _ B8.out
          have c35 := M35.out _ B8.out
          obtain ⟨y1, y2, y3, y4⟩ := L8.out.bk.facts
          have ly := L8.out.bk.lt
          unfold bv at c34 c35
          go_region
          obtain ⟨P1, hP1⟩ : ∃ P : Int, P = 256 * (b34.toNat : Int) + (b35.toNat : Int) := ⟨_, rfl⟩
          rw [← hP1]
          obtain ⟨wC, hwC⟩ : ∃ wC, wC = (wB.setCell ⟨y, 35, none⟩ (.int .i64 P1)).drew := ⟨_, rfl⟩
          have L9 := Lib.hid (show Lq W wC p B s1 y _ noFw.arr by rw [hwC]; exact (L8.out.set 35 (.int .i64 P1) (Fw.set_k _ 35 (by omega) _ _ (Tu.set_1 _ _))).drewN 1)
          have B9 := Lib.hid (show Byt wC g x by rw [hwC]; exact B8.out.set hgy 35 (.int .i64 P1))
          rw [← hwC]
          have HP1 := Lib.hid hP1
          clear hwC hP1 L8 B8 y1 y2 y3 y4 ly c34 c35
          have c36 := M36.out _ B9.out
          have c37 := M37.out _ B9.out
          obtain ⟨y1, y2, y3, y4⟩ := L9.out.bk.facts
          have ly := L9.out.bk.lt
          unfold bv at c36 c37
          go_wp2
          go_region
          obtain ⟨P2, hP2⟩ : ∃ P : Int, P = 256 * (b36.toNat : Int) + (b37.toNat : Int) := ⟨_, rfl⟩
          rw [← hP2]
          obtain ⟨wD, hwD⟩ : ∃ wD, wD = (wC.setCell ⟨y, 36, none⟩ (.int .i64 P2)).drew := ⟨_, rfl⟩
          have La := Lib.hid (show Lq W wD p B s1 y _ noFw.arr by rw [hwD]; exact (L9.out.set 36 (.int .i64 P2) (Fw.set_k _ 36 (by omega) _ _ (Tu.set_2 _ _))).drewN 1)
          rw [← hwD]
          have HP2 := Lib.hid hP2
          clear hwD hP2 L9 B9 y1 y2 y3 y4 ly c36 c37 M33 M34 M35 M36 M37 t33 t34 t35 t36 t37
          have C2 := Lib.hid (rowText_any p B s1 wD La.out.rd)
          rw [E2.out] at C2
          go_wp2_with fail
          (with_reducible refine C2.out.mono ?_)
          rintro e w5 ⟨rfl, k1, k2⟩
          have Lb := Lib.hid (La.out.read k1 k2)
          obtain ⟨y1, y2, y3, y4⟩ := Lb.out.bk.facts
          have ly := Lb.out.bk.lt
          have Lc := Lib.hid (Lb.out.set 37 (.string (textOf nm)) (Fw.set_name _ nm))
          have C3 := Lib.hid (rowNum_any p B s2 _ Lc.out.rd)
          rw [E3.out] at C3
          clear k1 k2 La C2
          go_wp2_with fail
          (with_reducible refine C3.out.mono ?_)
          rintro e w6 ⟨rfl, k1, k2⟩
          have Ld := Lib.hid (Lc.out.read k1 k2)
          clear k1 k2 Lb Lc C3 y1 y2 y3 y4 ly
          obtain ⟨y1, y2, y3, y4⟩ := Ld.out.bk.facts
          have ly := Ld.out.bk.lt
          have Le := Lib.hid (Ld.out.set 38 (.int .i64 (n3 : Nat)) (Fw.set_1 _ _))
          have C4 := Lib.hid (rowNum_any p B s3 _ Le.out.rd)
          rw [E4.out] at C4
          go_wp2_with fail
          (with_reducible refine C4.out.mono ?_)
          rintro e w7 ⟨rfl, k1, k2⟩
          have Lf := Lib.hid (Le.out.read k1 k2)
          clear k1 k2 Ld Le C4 y1 y2 y3 y4 ly
          obtain ⟨y1, y2, y3, y4⟩ := Lf.out.bk.facts
          have ly := Lf.out.bk.lt
          have Lg := Lib.hid (Lf.out.set 39 (.int .i64 (n4 : Nat)) (Fw.set_2 _ _))
          have C5 := Lib.hid (rowNum_any p B s4 _ Lg.out.rd)
          rw [E5.out] at C5
          go_wp2_with fail
          (with_reducible refine C5.out.mono ?_)
          rintro e w8 ⟨rfl, k1, k2⟩
          have Lh := Lib.hid (Lg.out.read k1 k2)
          clear k1 k2 Lf Lg C5 y1 y2 y3 y4 ly
          obtain ⟨y1, y2, y3, y4⟩ := Lh.out.bk.facts
          have ly := Lh.out.bk.lt
          have Li := Lib.hid (Lh.out.set 40 (.int .i64 (n5 : Nat)) (Fw.set_3 _ _))
          have th := Li.out.res.there 0 41 (by rw [Fw.arr_size]; omega)
          obtain ⟨Z, hZ⟩ : ∃ Z, Z = (((((((Y.toK (Y.key.to0 (b33.toNat : Nat))).toK ((Y.key.to0 (b33.toNat : Nat)).to1 P1)).toK (((Y.key.to0 (b33.toNat : Nat)).to1 P1).to2 P2)).toN nm).to1 n3).to2 n4).to3 n5) := ⟨_, rfl⟩
          have HZ := Lib.hid hZ
          have Lj := Lib.hid (show Lq W (w8.setCell ⟨y, 40, none⟩ (.int .i64 (n5 : Nat))) p B s5 y Z.arr noFw.arr by rw [hZ]; exact Li.out)
          obtain ⟨z1, z2, z3, z4⟩ := Lj.out.bk.facts
          have FN := Lib.hid (Lj.out.fin Z.arr (by rw [Fw.arr_size]; rfl))
          have HR1 := Lib.hid (show R = (Z, s5) by
            rw [← HR0.out, HZ.out, HYY.out, HX.out, HP1.out, HP2.out, HL1.out, HL17.out, HK33.out, HK34.out, HK35.out, HK36.out, HK37.out]
            have hq6 : (x.getD 0 0 == 6) = q := by rw [HB0.out, ← HQ.out]
            unfold keyQ
            rw [hq6]
            rfl)
          clear hZ Lh Li
          go_wp2
          exact (by
            refine bodyPost_ret (ret_fw1 rfl _ _ W.heap.size rfl Z FN.out.1) rfl ?_
            rw [HR1.out]
            exact ⟨rfl, FN.out.2.1, FN.out.2.2⟩)
end Go.Proofs.YtmpemeemlhmaaaaGreat

namespace Go.Proofs.YtmpemeemlhmaaaaGreat
open Go.RowKit Go.ChangeShapes Go.WideShapes Go.ChangeAt

/-- a row of one's own, made since W0, and the reader at p, one of the few blocks that turn -/
structure Rq {α : Type} (f : α → Array Value) (sz : Nat) (e : TypeId) (F : List Nat) (W0 W : World) (p B : Nat) (r : RS) (v : Value) (l : List α) : Prop where
  own : W.ownsRow W0.heap.size e sz v l.length (l.flatMap fun x => (f x).toList)
  rd : RowS W p B r
  frm : Frm F W0 W
  hF : ∀ k ∈ F, k < W0.heap.size
  hp : p ∈ F
section
variable {α : Type} {f : α → Array Value} {sz : Nat} {e t : TypeId} {F : List Nat} {W0 W W' : World} {p B : Nat} {r r' : RS} {v v' : Value} {l ys : List α}
theorem Rq.lt (h : Rq f sz e F W0 W p B r v l) {k : Nat} (hk : v.ownBlock = some k) : W0.heap.size ≤ k ∧ k < W.heap.size := h.own.lt k hk
theorem Rq.nil (W : World) (h : RowS W p B r) : Rq f sz e [p] W W p B r (.slice none 0 0) [] := ⟨World.ownsRow_nil _ _ _ _, h, Frm.refl _ _, fun k hk => by rw [List.mem_singleton.1 hk]; exact h.lt, by simp⟩
theorem Rq.go (h : Rq f sz e F W0 W p B r v l) (hb : Below W.heap.size W W') : Rq f sz e F W0 W' p B r v l := ⟨own_below h.own hb, h.rd.go hb, h.frm.below hb h.frm.size, h.hF, h.hp⟩
theorem Rq.alloc (h : Rq f sz e F W0 W p B r v l) (ob : Obj) : Rq f sz e F W0 (W.alloc ob) p B r v l := h.go ((Below.refl _ _).alloc (Nat.le_refl _) ob)
/-- another block has turned -/
theorem Rq.other (h : Rq f sz e F W0 W p B r v l) {k : Nat} (hg : W.grownBy W' (some k)) (h1 : W0.heap.size ≤ k) (h2 : v.ownBlock ≠ some k) : Rq f sz e F W0 W' p B r v l := by
  have hp := h.hF p h.hp
  have hB := h.rd.le
  refine ⟨h.own.kept hg ?_, h.rd.grown hg (fun e => by injection e; omega) (fun j hj => by injection hj; omega), h.frm.grown hg (fun j hj => by injection hj with hj; exact .inr (by omega)), h.hF, h.hp⟩
  exact .inr h2
/-- the reader has read -/
theorem Rq.read (h : Rq f sz e F W0 W p B r v l) (k : RowS W' p B r') (hg : W.grownBy W' (some p)) : Rq f sz e F W0 W' p B r' v l := by
  have hp := h.hF p h.hp
  refine ⟨h.own.kept hg (.inr (fun e => by have := h.lt e; omega)), k, h.frm.grown hg (fun j hj => by injection hj with hj; exact .inl (by rw [← hj]; exact h.hp)), h.hF, h.hp⟩
theorem Rq.form (h : Rq f sz e F W0 W p B r v l) : ∃ A c, v = .slice A l.length c := by obtain ⟨A, c, e, _⟩ := own_form h.own; exact ⟨A, c, e⟩
theorem Rq.set (h : Rq f sz e F W0 W p B r v l) {q : Nat} (hq : q ∈ F) (hqp : q ≠ p) (hqB : B ≤ q) (j : Nat) (u : Value) : Rq f sz e F W0 (W.setCell ⟨q, j, none⟩ u) p B r v l := by
  have h0 := h.hF q hq
  exact ⟨own_set_ne h.own (fun e => by have := h.lt e; simp only at this; omega) u, h.rd.grown (set_gb W q j u) (fun e => hqp (by injection e)) (fun k hk => by injection hk; omega), h.frm.set _ u (.inl hq), h.hF, h.hp⟩
theorem wp_rq (T : RowT t e f sz) {o : Oper} {a : Act} {K : Act → World → Prop} {Q : Exit → Act → World → Prop} (s x : Operand)
    (ho : o.op = .call { callee := .builtin .append, args := #[s, x], argTypes := #[t, t] }) (hs : a.eval s = v) (H : Rq f sz e F W0 W p B r v l) {C : Nat} {A : Option Addr} {m c : Nat} (hx : a.eval x = .slice A m c) (hr : RdR f sz W C A m ys)
    (hlen : l.length + m ≤ 1000000)
    (h : ∀ A' n' c' w', Rq f sz e F W0 w' p B r (.slice A' n' c') (l ++ ys) → W.grownBy w' v.ownBlock → K (a.put o.dst (.slice A' n' c')) w') : o.wp Tryz.prog a W K Q := by
  obtain ⟨i, z, ht, hi, hz, h1, h2, h3, h4, h5, h6⟩ := T
  have hm := hr.1
  have hp := H.hF p H.hp
  have hB := H.rd.le
  refine wp_app_rd W s x t ho W0.heap.size e i z sz i.bytes ht hi hz h1 rfl h2 h3 v l.length _ hs H.own C A m c _ hx hr.2.1 (rows_one f h6 ys) (by unfold maxLen; omega) (Nat.le_trans (Nat.mul_le_mul hlen h4) (by omega)) H.frm.size ?_
  intro v1 w1 k1 k2 k3
  rw [rows_app, ← hm, ← List.length_append] at k1
  have hk : Rq f sz e F W0 w1 p B r v1 (l ++ ys) := ⟨k1, H.rd.grown k2 (fun e => by have := H.lt e; omega) (fun j hj => by have := H.lt hj; omega), H.frm.grown k2 (fun j hj => .inr (H.lt hj).1), H.hF, H.hp⟩
  obtain ⟨A', c', rfl⟩ := hk.form
  exact h A' _ c' w1 hk k2
theorem wpList_rq (T : RowT t e f sz) {ops : Array Oper} {rest : List Oper} {o : Oper} {a : Act} {Q : Exit → Act → World → Prop} (hgd : o.guard = none) (s x : Operand)
    (ho : o.op = .call { callee := .builtin .append, args := #[s, x], argTypes := #[t, t] }) (hs : a.eval s = v) (H : Rq f sz e F W0 W p B r v l) {C : Nat} {A : Option Addr} {m c : Nat} (hx : a.eval x = .slice A m c) (hr : RdR f sz W C A m ys)
    (hlen : l.length + m ≤ 1000000)
    (h : ∀ A' n' c' w', Rq f sz e F W0 w' p B r (.slice A' n' c') (l ++ ys) → W.grownBy w' v.ownBlock → wpList Tryz.prog ops Q rest (a.put o.dst (.slice A' n' c')) w') : wpList Tryz.prog ops Q (o :: rest) a W :=
  wpList_plain hgd fun _ hK => wp_rq T s x ho hs H hx hr hlen fun A' n' c' w' h2 h3 => hK _ _ (h A' n' c' w' h2 h3)
theorem step_rq (T : RowT t e f sz) {ops : Array Oper} {o : Oper} {a : Act} {K : Act → World → Prop} {Q : Exit → Act → World → Prop} {E : Prop} (hgd : o.guard = none) (s x : Operand)
    (ho : o.op = .call { callee := .builtin .append, args := #[s, x], argTypes := #[t, t] }) (hs : a.eval s = v) (H : Rq f sz e F W0 W p B r v l) {C : Nat} {A : Option Addr} {m c : Nat} (hx : a.eval x = .slice A m c) (hr : RdR f sz W C A m ys)
    (hlen : l.length + m ≤ 1000000)
    (h : ∀ A' n' c' w', Rq f sz e F W0 w' p B r (.slice A' n' c') (l ++ ys) → W.grownBy w' v.ownBlock → K (a.put o.dst (.slice A' n' c')) w') : if Region.wanted o (yielded ops a.tmps) = true then Oper.wp Tryz.prog o a W K Q else E := by
  have hw : Region.wanted o (yielded ops a.tmps) = true := by simp [Region.wanted, hgd]
  rw [if_pos hw]
  exact wp_rq T s x ho hs H hx hr hlen h
end
/-- a reader that has no fault, opened -/
theorem RowS.open_some {W : World} {p B : Nat} {l : List UInt8} (h : RowS W p B (some l)) : ∃ A n c, Box W p (rowC A n c false) ∧ RdB W B A n l ∧ n ≤ c ∧ c ≤ 9223372036854775807 ∧ n ≤ 1000000000 ∧ B ≤ p := by
  obtain ⟨A, n, c, l1, bad, q1, q2, q3, q4, q5, q6, q7⟩ := h
  cases bad
  · rw [if_neg Bool.false_ne_true] at q7
    injection q7 with q7
    subst q7
    exact ⟨A, n, c, q1, q2, q3, q4, q5, q6⟩
  · rw [if_pos rfl] at q7; cases q7
/-- another reader's state is laid into this one -/
theorem Rq.put {α : Type} {f : α → Array Value} {sz : Nat} {e : TypeId} {F : List Nat} {W0 W : World} {p B : Nat} {r : RS} {v : Value} {l : List α} (h : Rq f sz e F W0 W p B r v l) {A : Option Addr} {n c : Nat} {b : List UInt8} {bad : Bool} (hr : RdB W B A n b) (h1 : n ≤ c) (h2 : c ≤ 9223372036854775807) (h3 : n ≤ 1000000000) :
    Rq f sz e F W0 ((W.setCell ⟨p, 0, none⟩ (.slice A n c)).setCell ⟨p, 1, none⟩ (.bool bad)) p B (if bad then none else some b) v l := by
  have hp := h.hF p h.hp
  have hB := h.rd.le
  obtain ⟨A0, n0, c0, l0, bad0, q1, q2, q3, q4, q5, q6, q7⟩ := h.rd
  have hne : v.ownBlock ≠ some p := fun e => by have := h.lt e; omega
  exact ⟨own_set_ne (own_set_ne h.own hne _) hne _, .mk' ((q1.set_same 0 _).set_same 1 _) ((hr.setO hB _ _).setO hB _ _) h1 h2 h3 hB rfl, (h.frm.set _ _ (.inl h.hp)).set _ _ (.inl h.hp), h.hF, h.hp⟩
/-! ### literals -/
theorem infoRw : ∃ i : TypeInfo, Tryz.prog.info? 102 = some i ∧ i.zero = some (.agg (rowC none 0 0 false)) := by
  cases h : Tryz.prog.info? 102 with
  | none => exact absurd h (by have : (Tryz.prog.info? 102).isSome = true := by kernel_rfl
                               intro e; rw [e] at this; cases this)
  | some i =>
    have h3 : (Tryz.prog.info? 102).map (·.zero) = some (some (.agg (rowC none 0 0 false))) := by kernel_rfl
    rw [h] at h3
    simp at h3
    exact ⟨i, rfl, h3⟩
theorem places_Rw (w : World) (fs : Array Field) (h : Tryz.prog.underlying 102 = some (.struct fs)) : (Array.mapM (fun f => Prod.mk f.offset <$> sizeOf f.type) fs : Sem (Array (Nat × Nat))).run Tryz.prog w = .ok #[(0, 1), (1, 1)] w := by
  have e := Tryz.underlying102
  rw [h] at e
  cases e
  show _ = _
  kernel_rfl
def mkRw (ps : Array (Nat × Value)) : Sem Value := Instr.build 102 ps
@[go_sem ↓] theorem mkRw_is (ps : Array (Nat × Value)) : Instr.build 102 ps = mkRw ps := rfl
@[go_sem] theorem run_mkRw (w : World) (A : Option Addr) (n c : Nat) : (mkRw #[(0, .slice A n c)]).run Tryz.prog w = .ok (.agg (rowC A n c false)) w := by
  obtain ⟨i0, hi0, hz0⟩ := infoRw
  exact run_build w _ _ i0 (rowC none 0 0 false) _ _ _ Tryz.underlying102 hi0 hz0 (places_Rw w _ Tryz.underlying102) rfl
theorem infoPt : ∃ i : TypeInfo, Tryz.prog.info? 161 = some i ∧ i.zero = some (.agg (rowC none 0 0 false)) := by
  cases h : Tryz.prog.info? 161 with
  | none => exact absurd h (by have : (Tryz.prog.info? 161).isSome = true := by kernel_rfl
                               intro e; rw [e] at this; cases this)
  | some i =>
    have h3 : (Tryz.prog.info? 161).map (·.zero) = some (some (.agg (rowC none 0 0 false))) := by kernel_rfl
    rw [h] at h3
    simp at h3
    exact ⟨i, rfl, h3⟩
theorem places_Pt (w : World) (fs : Array Field) (h : Tryz.prog.underlying 161 = some (.struct fs)) : (Array.mapM (fun f => Prod.mk f.offset <$> sizeOf f.type) fs : Sem (Array (Nat × Nat))).run Tryz.prog w = .ok #[(0, 1), (1, 1)] w := by
  have e := Tryz.underlying161
  rw [h] at e
  cases e
  show _ = _
  kernel_rfl
def mkPt (ps : Array (Nat × Value)) : Sem Value := Instr.build 161 ps
@[go_sem ↓] theorem mkPt_is (ps : Array (Nat × Value)) : Instr.build 161 ps = mkPt ps := rfl
@[go_sem] theorem run_mkPt (w : World) (A : Option Addr) (n c : Nat) : (mkPt #[(0, .slice A n c)]).run Tryz.prog w = .ok (.agg (rowC A n c false)) w := by
  obtain ⟨i0, hi0, hz0⟩ := infoPt
  exact run_build w _ _ i0 (rowC none 0 0 false) _ _ _ Tryz.underlying161 hi0 hz0 (places_Pt w _ Tryz.underlying161) rfl
/-! ### lists -/
def behindQ {α : Type} (acc : List α) (r : List α × RS) : List α × RS := (acc ++ r.1, r.2)
theorem listQ_step {α : Type} {one : RS → α × RS} {k : Nat} {l : List UInt8} (acc : List α) {x : α} {r : RS} (h : one (some l) = (x, r)) : behindQ acc (listQ one (k + 1) (some l)) = behindQ (acc ++ [x]) (listQ one k r) := by
  unfold behindQ
  rw [listQ, if_pos (show (some l : RS).isSome = true from rfl), h]
  simp
theorem listQ_bad {α : Type} (one : RS → α × RS) (k : Nat) : listQ one k none = ([], none) := by cases k <;> rfl
def BksQ (W : World) (p B : Nat) (r : List Bk × RS) (e : Ending) (W' : World) : Prop := ∃ A n c, e = .returned (.slice A n c) ∧ n = r.1.length ∧ W'.ownsRow W.heap.size 60 27 (.slice A n c) n (r.1.flatMap fun x => (Bk.arr x).toList) ∧ RowS W' p B r.2 ∧ W.grownBy W' (some p)
set_option maxRecDepth 100000 in
set_option maxHeartbeats 8000000 in
theorem rowBks_any (p B : Nat) (s : RS) (W : World) (h : RowS W p B s) :
    Calls Tryz.prog 55 #[.pointer (some ⟨p, 0, none⟩)] W (BksQ W p B (rowsQ bkQ 1024 s)) := by
  have C1 := Lib.hid (rowMany1024 p B s W h)
  have hle := manyQ_le 1024 s
  obtain ⟨R, hR⟩ : ∃ R, rowsQ bkQ 1024 s = R := ⟨_, rfl⟩
  rw [hR]
  unfold rowsQ at hR
  obtain ⟨⟨n, s1⟩, e1⟩ : ∃ z, manyQ 1024 s = z := ⟨_, rfl⟩
  rw [e1] at C1 hle hR
  have HR0 := Lib.hid (show listQ bkQ n s1 = R from hR)
  have hn : n ≤ 1024 := hle
  have hpl := h.lt
  clear e1 hR hle h
  go_enter Tryz.func55, Tryz.ntmps55
  go_wp2_with fail
  (with_reducible refine C1.out.mono ?_)
  rintro e w1 ⟨rfl, k1, k2⟩
  have K1 := Lib.hid k1
  clear k1
  go_wp2
  go_loopw [3, 5] (fun s3 s5 wr => ∃ (k : Nat) (acc : List Bk) (r : RS) (A : Option Addr) (c : Nat), k ≤ n ∧ s5 = .int .i64 k ∧ s3 = .slice A k c ∧ acc.length = k ∧ Rq Bk.arr 27 60 [p] W wr p B r (.slice A k c) acc ∧ listQ bkQ n s1 = behindQ acc (listQ bkQ (n - k) r)) (fun _ s5 _ => n - (intOf s5).toNat)
  case atStart => exact ⟨0, [], s1, none, 0, by omega, rfl, rfl, rfl, ⟨World.ownsRow_nil _ _ _ _, K1.out, Frm.of_grown k2 (fun j hj => .inl (by injection hj with hj; simp [hj])), fun k hk => by rw [List.mem_singleton.1 hk]; exact hpl, by simp⟩, by simp [behindQ]⟩
  case round =>
    obtain ⟨k, acc, r, A, c, hkn, rfl, rfl, hlen, hrq, hgo⟩ := hrel
    have HQ := Lib.hid hrq
    have HGO := Lib.hid hgo
    have HL := Lib.hid hlen
    obtain ⟨d1, d2⟩ := hrq.rd.spot
    have hplr := hrq.rd.lt
    clear hgo hlen hrq
    by_cases hlt : k < n
    · have hlt2 : (k : Int) < (n : Int) := by omega
      cases r with
      | none =>
        have HB := Lib.hid (HGO.out.trans (by rw [listQ_bad]))
        go_wp2
        go_ret
        exact ⟨A, k, c, rfl, by rw [← HR0.out, HB.out]; simp [behindQ, HL.out], by rw [← HR0.out, HB.out]; simpa [behindQ, HL.out] using HQ.out.own, by rw [← HR0.out, HB.out]; exact HQ.out.rd, HQ.out.frm.to_grown⟩
      | some l =>
        obtain ⟨A1, n1, c1, b1, b2, b3, b4, b5, b6⟩ := HQ.out.rd.open_some
        have HBX := Lib.hid b1
        obtain ⟨y1, y2, y3, y4⟩ := b1.facts
        obtain ⟨w2, hw2⟩ : ∃ w2, w2 = wr.alloc (.cells (rowC A1 n1 c1 false) 161) := ⟨_, rfl⟩
        have HW2 := Lib.hid (show wr.alloc (.cells (rowC A1 n1 c1 false) 161) = w2 from hw2.symm)
        have Q2 := Lib.hid (show Rq Bk.arr 27 60 [p] W w2 p B (some l) (.slice A k c) acc by rw [hw2]; exact HQ.out.alloc _)
        have PT := Lib.hid (show RowS w2 wr.heap.size B (some l) by
          rw [hw2]
          exact .mk' (bad := false) (Box.new wr _ _) (b2.alloc (by omega) _) b3 b4 b5 (by omega) rfl)
        have hs2 : wr.heap.size < w2.heap.size := PT.out.lt
        obtain ⟨q, hq⟩ : ∃ q, q = wr.heap.size := ⟨_, rfl⟩
        have HQQ := Lib.hid (show wr.heap.size = q from hq.symm)
        rw [← hq] at PT hs2
        have hpq : p < q := by rw [hq]; exact hplr
        have hWq : W.heap.size ≤ q := by rw [hq]; exact HQ.out.frm.size
        have hvq : (Value.slice A k c).ownBlock ≠ some q := fun e => by have := HQ.out.lt e; omega
        have TK := Lib.hid (partBk_any q B (some l) w2 PT.out)
        obtain ⟨⟨x, r2⟩, e2⟩ : ∃ z, bkQ (some l) = z := ⟨_, rfl⟩
        rw [e2] at TK
        have HST := Lib.hid (HGO.out.trans (show behindQ acc (listQ bkQ (n - k) (some l)) = behindQ (acc ++ [x]) (listQ bkQ (n - (k + 1)) r2) by
          rw [show n - k = (n - (k + 1)) + 1 by omega]; exact listQ_step acc e2))
        clear b1 b2 b3 b4 b5 e2 hw2 hq
        go_wp2_with fail
        rw [HW2.out, HQQ.out]
        (with_reducible refine TK.out.mono ?_)
        rintro e w3 ⟨rfl, k1, k3⟩
        have Q3 := Lib.hid (Q2.out.other k3 hWq hvq)
        have P3 := Lib.hid k1
        have Q4 := Lib.hid (Q3.out.alloc (.cells (Bk.arr x) 60))
        have RO := Lib.hid (RdR.one (f := Bk.arr) x Bk.arr_size w3 60)
        have HGL := Lib.hid (show acc.length + 1 ≤ 1000000 by rw [HL.out]; omega)
        clear k1 k3 y1 y2 y3 y4 d1 d2 TK
        go_wp2_with (at_builtin; refine wpList_rq rowT_bk rfl (.tmp 27) (.tmp 30) rfl rfl Q4.out rfl RO.out HGL.out ?_; intro A5 n5 c5 w5 h5 h6; have Q5 := Lib.hid h5; have P5 := Lib.hid ((P3.out.alloc (.cells (Bk.arr x) 60)).grown h6 hvq (fun j hj => by have := Q3.out.lt hj; have := Q3.out.rd.le; omega)); obtain ⟨A2, n2, c2, l2, bad2, g1, g2, g3, g4, g5, g6, g7⟩ := P5.out; obtain ⟨A0, n0, c0, f1, f2, f3, f4, f5, f6⟩ := Q5.out.rd.open_some; obtain ⟨y1, y2, y3, y4⟩ := f1.facts; obtain ⟨z1, z2, z3, z4⟩ := g1.facts; have ly := f1.lt; have lz := g1.lt; obtain ⟨y5, y6, y7, y8⟩ := (f1.set_same 0 (.slice A2 n2 c2)).facts; obtain ⟨z5, z6, z7, z8⟩ := (g1.set_other ⟨p, 0, none⟩ (.slice A2 n2 c2) (show p ≠ q by omega)).facts; have Q6 := Lib.hid (Q5.out.put (bad := bad2) g2 g3 g4 g5); have G7 := Lib.hid g7; clear h5 h6 f1 f2 f3 f4 f5 f6 g1 g2 g3 g4 g5 g6 g7)
        rw [← G7.out] at Q6
        have hn5 : n5 = k + 1 := by
          obtain ⟨_, _, e9⟩ := Q6.out.form
          injection e9 with _ e9 _
          rw [e9, List.length_append, HL.out]; rfl
        subst hn5
        go_roundw
        case rel => exact ⟨k + 1, acc ++ [x], r2, A5, c5, by omega, by go_num, rfl, by simp [HL.out], Q6.out, HST.out⟩
        case measure => simp [intOf] <;> omega
    · obtain rfl : n = k := by omega
      have hd : decide ((n : Int) < n) = false := by simp
      have HB := Lib.hid (show listQ bkQ n s1 = (acc, r) by rw [HGO.out, Nat.sub_self]; simp [behindQ, listQ])
      go_wp2
      go_ret
      exact ⟨A, n, c, rfl, by rw [← HR0.out, HB.out]; exact HL.out.symm, by rw [← HR0.out, HB.out]; have := HQ.out.own; rw [HL.out] at this; exact this, by rw [← HR0.out, HB.out]; exact HQ.out.rd, HQ.out.frm.to_grown⟩
end Go.Proofs.YtmpemeemlhmaaaaGreat
