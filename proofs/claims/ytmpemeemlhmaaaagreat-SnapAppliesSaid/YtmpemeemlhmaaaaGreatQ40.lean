/- The document's delta. -/
import Derived.Test.YtmpemeemlhmaaaaGreatQ39
set_option linter.unusedSimpArgs false
set_option linter.unusedVariables false
set_option maxRecDepth 100000
namespace Go.Proofs.YtmpemeemlhmaaaaGreat
open Go.RowKit

def txC (s : List UInt8) : Array Value := #[.string (textOf s)]
theorem txC_size (s : List UInt8) : (txC s).size = 1 := rfl
theorem rowT_tx : RowT 116 9 txC 1 := by
  obtain ⟨i0, hi0, hz0, hz1, hzb⟩ := infoTx
  exact ⟨i0, _, Tryz.underlying116, hi0, hz0, hz1, rfl, by omega, by omega, txC_size, fun s => by simp [txC, Value.oneCell']⟩
theorem one_same {x g : Bk} (hx : x.fine) (hg : g.fine) : eqPool 0 [x] 0 [g] = sameOne g x := by
  rw [eqPool_is 0 0 (by simpa using hx) (by simpa using hg)]
  have e : twins 0 [x] 0 [g] = sameOne x g := by simp [twins, twinAt]
  rw [e, Bool.eq_iff_iff]
  simp only [sameOne, Bool.and_eq_true, beq_iff_eq, decide_eq_true_eq]
  constructor <;> rintro ⟨⟨⟨⟨⟨a, b⟩, c⟩, d⟩, e⟩, f⟩ <;> exact ⟨⟨⟨⟨⟨a.symm, b.symm⟩, c.symm⟩, d.symm⟩, e.symm⟩, f.symm⟩
theorem has_lt {l : List Bk} {s : List UInt8} (h : hasN l s = true) : lowN l s < l.length := by unfold hasN at h; simp at h; exact h.1
def mkTxs (n : Nat) (ps : Array (Nat × Value)) : Sem Value := Instr.buildSlice 116 n ps
@[go_sem ↓] theorem mkTxs_is (n : Nat) (ps : Array (Nat × Value)) : Instr.buildSlice 116 n ps = mkTxs n ps := rfl
@[go_sem] theorem run_mkTxs1 (w : World) (s : List UInt8) : (mkTxs 1 #[(0, .string (textOf s))]).run Tryz.prog w = .ok (.slice (some ⟨w.heap.size, 0, none⟩) 1 1) (w.alloc (.cells (txC s) 9)) := by
  obtain ⟨i0, hi0, hz0, hz1, hzb⟩ := infoTx
  simp [mkTxs, Instr.buildSlice, run_underlying Tryz.underlying116, zeroValue, sizeOf, typeInfo, hi0, hz0, hz1, Instr.fill, newRow, Value.cells, range1, txC]
theorem rFind_any (l : List Bk) (hs : Srt l) (s : List UInt8) (v : Int) (A : Option Addr) (n c : Nat) (w : World) (hR : RdR Bk.arr 27 w w.heap.size A n l) (hn : n ≤ 100000) :
    Calls Tryz.prog 70 #[.agg #[.int .i64 v, .slice A n c], .string (textOf s)] w fun e w' => e = .returned (.int .i64 (posN l s)) ∧ Below w.heap.size w w' := by
  obtain rfl := hR.1
  exact refFindBk_any l hs s v A c w hR (by omega)
set_option maxRecDepth 100000 in
set_option maxHeartbeats 16000000 in
theorem rDelta_any (va vb : Int) (la lb : List Bk) (A B : Option Addr) (n m c d : Nat) (w : World) (hA : RdR Bk.arr 27 w w.heap.size A n la) (hB : RdR Bk.arr 27 w w.heap.size B m lb) (hfa : ∀ x ∈ la, x.fine) (hfb : ∀ x ∈ lb, x.fine)
    (hra : pRight va la = true) (hrb : pRight vb lb = true) :
    Calls Tryz.prog 23 #[.agg #[.int .i64 va, .slice A n c], .agg #[.int .i64 vb, .slice B m d]] w (NewP w (deltaB va vb la lb)) := by
  obtain ⟨W1, hW1⟩ : ∃ W1, W1 = (w.alloc (.cells #[.int .i64 va, .slice A n c] 24)).alloc (.cells #[.int .i64 vb, .slice B m d] 24) := ⟨_, rfl⟩
  have HB1 := Lib.hid (show Below w.heap.size w W1 by rw [hW1]; exact ((Below.refl w.heap.size w).alloc (Nat.le_refl _) _).alloc (by simp) _)
  have P1 := Lib.hid (show Box W1 w.heap.size #[.int .i64 va, .slice A n c] by rw [hW1]; exact (Box.new w _ _).alloc _)
  have Q1 := Lib.hid (show Box W1 (w.heap.size + 1) #[.int .i64 vb, .slice B m d] by rw [hW1]; exact Box.new1 w _ _ _)
  have HAR := Lib.hid (hA.go HB1.out)
  have HBR := Lib.hid (hB.go HB1.out)
  have HFB := Lib.hid hfb
  have HFA := Lib.hid hfa
  have IA := Lib.hid (pRight_iff.1 hra)
  have IB := Lib.hid (pRight_iff.1 hrb)
  have LA := Lib.hid (right_lay hra)
  have LB := Lib.hid (right_lay hrb)
  have HLA := Lib.hid hA.1
  have HLB := Lib.hid hB.1
  have hn1 : n ≤ 1024 := by rw [← hA.1]; exact IA.out.2.2.1
  have hm1 : m ≤ 1024 := by rw [← hB.1]; exact IB.out.2.2.1
  have Z0 := Lib.hid (((Rz.nil (f := txC) (sz := 1) (e := 9) W1).add P1.out (by intro e; cases e)).add Q1.out (by intro e; cases e))
  obtain ⟨p1, p2, p3, p4⟩ := P1.out.facts
  obtain ⟨q1, q2, q3, q4⟩ := Q1.out.facts
  have hlp := P1.out.lt
  have hlq := Q1.out.lt
  clear hA hB hfa hfb hra hrb
  have HW1 := Lib.hid hW1
  go_enter Tryz.func23, Tryz.ntmps23
  go_upto_region 3 with fail
  rw [← HW1.out]
  clear HW1 hW1
  go_wp2
  go_loopw [5, 7] (fun s5 s7 wr => ∃ (i : Nat) (A' : Option Addr) (m' c' : Nat), i ≤ n ∧ s7 = .int .i64 i ∧ s5 = .slice A' m' c' ∧ Rz txC 1 9 [(w.heap.size + 1, #[.int .i64 vb, .slice B m d]), (w.heap.size, #[.int .i64 va, .slice A n c])] W1 wr (.slice A' m' c') (goneL (la.take i) lb)) (fun _ s7 _ => n - (intOf s7).toNat)
  case atStart => exact ⟨0, none, 0, 0, by omega, rfl, rfl, by simpa [goneL] using Z0.out⟩
  case round =>
    obtain ⟨i, A', m', c', hi, rfl, rfl, h⟩ := hrel
    have HZ := Lib.hid h
    clear h q1 q2 q3 q4 p1 p2 p3 p4 hlp hlq
    obtain ⟨q1, q2, q3, q4⟩ := HZ.out.b0.facts
    obtain ⟨p1, p2, p3, p4⟩ := HZ.out.b1.facts
    have hlp := HZ.out.b1.lt
    have hlq := HZ.out.b0.lt
    by_cases hlt : i < n
    · have hlt2 : (i : Int) < n := by omega
      obtain ⟨b, o, rfl, hbb, hh1, hh2⟩ := RdR.at_ Bk.arr_size noBk (HAR.out.go HZ.out.bel) hlt
      have hs := goneL_snoc la lb i (by have := HLA.out; omega)
      have hgl := goneL_len (la.take i) lb
      rw [List.length_take] at hgl
      have HGL := Lib.hid (show (goneL (la.take i) lb).length + 1 ≤ 1000000 by omega)
      obtain ⟨x, hx⟩ : ∃ x, la.getD i noBk = x := ⟨_, rfl⟩
      rw [hx] at hh2 hs
      have hcell : ∀ W', Below wr.heap.size wr W' → W'.cell? ⟨b, o + i * 27, none⟩ = some (.string (textOf x.name)) := fun W' hW => by
        obtain ⟨b2, o2, e2, hb2, hc2⟩ := RdR.cell Bk.arr_size noBk ((HAR.out.go HZ.out.bel).go hW) hlt
        injection e2 with e2
        injection e2 with e3 e4
        subst e3 e4
        have := hc2 0 (by omega)
        rw [Nat.add_zero, hx, Bk.arr_0] at this
        exact this
      obtain ⟨K, hK⟩ : ∃ K, hasN lb x.name = K := ⟨_, rfl⟩
      rw [hK] at hs
      have HSN := Lib.hid hs
      have FD := Lib.hid (rFind_any lb IB.out.2.2.2.2 x.name vb B m d wr.drew (HBR.out.go HZ.out.bel.drew) (by omega))
      have KS := Lib.hid (show ∀ W', Below wr.heap.size wr W' → W'.cell? ⟨w.heap.size, 1, none⟩ = some (.slice (some ⟨b, o, none⟩) n c) ∧ W'.cell? ⟨w.heap.size + 1, 0, none⟩ = some (.int .i64 vb) ∧ W'.cell? ⟨w.heap.size + 1, 1, none⟩ = some (.slice B m d) ∧ W'.cell? ⟨b, o + i * 27, none⟩ = some (.string (textOf x.name)) from fun W' hW => ⟨by rw [(HZ.out.b1.go hW).facts.1]; rfl, by rw [(HZ.out.b0.go hW).facts.1]; rfl, by rw [(HZ.out.b0.go hW).facts.1]; rfl, hcell W' hW⟩)
      have HP := Lib.hid (show posN lb x.name = if K then ((lowN lb x.name : Nat) : Int) else -1 by rw [posN, hK])
      rw [HP.out] at FD
      have hcw := hcell wr (Below.refl _ _)
      have BZ := Lib.hid (Below.refl wr.heap.size wr).drew
      clear hx hs hK hgl hcell
      cases K
      · go_wp2_with fail
        go_region_held_law (fun W' => W'.cell? ⟨w.heap.size, 1, none⟩ = some (.slice (some ⟨b, o, none⟩) n c) ∧ W'.cell? ⟨w.heap.size + 1, 0, none⟩ = some (.int .i64 vb) ∧ W'.cell? ⟨w.heap.size + 1, 1, none⟩ = some (.slice B m d) ∧ W'.cell? ⟨b, o + i * 27, none⟩ = some (.string (textOf x.name)))
          (first | exact KS.out _ BZ.out | exact KS.out _ Ba.out | go_keep)
          (first | (go_at_call 70; (with_reducible refine FD.out.mono ?_); rintro e wa ⟨rfl, ha⟩; have Ba := Lib.hid (below2 BZ.out ha); clear ha) | fail)
        all_goals
          have Z2 := Lib.hid (HZ.out.go Ba.out)
          have hw2 := (KS.out _ Ba.out).2.2.2
          have Z3 := Lib.hid ((HZ.out.go Ba.out).alloc (.cells (txC x.name) 9))
          have RO := Lib.hid (RdR.one (f := txC) x.name txC_size wa 9)
          obtain ⟨r1, r2, r3, r4⟩ := Z2.out.b0.facts
          obtain ⟨s1, s2, s3, s4⟩ := Z2.out.b1.facts
          have hlr := Z2.out.b0.lt
          have hls := Z2.out.b1.lt
          clear q1 q2 q3 q4 p1 p2 p3 p4 hlp hlq hcw
          go_wp2_with (at_builtin; refine wpList_rz rowT_tx rfl (.tmp 29) (.tmp 36) rfl rfl Z3.out rfl RO.out HGL.out ?_; intro A5 n5 c5 w5 h5 h6; have Z5 := Lib.hid h5; clear h5 h6)
          go_roundw
          case rel => exact ⟨i + 1, A5, n5, c5, by omega, by go_num, rfl, by rw [HSN.out]; exact Z5.out⟩
          case measure => simp [intOf] <;> omega
      · have hpos : (-1 : Int) < (lowN lb x.name : Nat) := by omega
        go_wp2_with fail
        go_region_held_law (fun W' => W'.cell? ⟨w.heap.size, 1, none⟩ = some (.slice (some ⟨b, o, none⟩) n c) ∧ W'.cell? ⟨w.heap.size + 1, 0, none⟩ = some (.int .i64 vb) ∧ W'.cell? ⟨w.heap.size + 1, 1, none⟩ = some (.slice B m d) ∧ W'.cell? ⟨b, o + i * 27, none⟩ = some (.string (textOf x.name)))
          (first | exact KS.out _ BZ.out | exact KS.out _ Ba.out | go_keep)
          (first | (go_at_call 70; (with_reducible refine FD.out.mono ?_); rintro e wa ⟨rfl, ha⟩; have Ba := Lib.hid (below2 BZ.out ha); clear ha) | fail)
        all_goals
          have Z2 := Lib.hid (HZ.out.go Ba.out)
          clear q1 q2 q3 q4 p1 p2 p3 p4 hlp hlq hcw
          go_wp2
          go_roundw
          case rel => exact ⟨i + 1, A', m', c', by omega, by go_num, rfl, by rw [HSN.out]; simpa using Z2.out⟩
          case measure => simp [intOf] <;> omega
    · have hge : ¬ (i : Int) < n := by omega
      have HF2 := Lib.hid (show la.take i = la from List.take_of_length_le (by have := HLA.out; omega))
      rw [HF2.out] at HZ
      have GA := Lib.hid HZ.out
      obtain ⟨gA, hgA⟩ : ∃ X, X = A' := ⟨_, rfl⟩
      rw [← hgA] at GA
      obtain ⟨w3, hw3⟩ : ∃ u, u = wr := ⟨_, rfl⟩
      have HAR3 := Lib.hid (show RdR Bk.arr 27 w3 w3.heap.size A n la by rw [hw3]; exact HAR.out.go HZ.out.bel)
      have HBR3 := Lib.hid (show RdR Bk.arr 27 w3 w3.heap.size B m lb by rw [hw3]; exact HBR.out.go HZ.out.bel)
      have HB3 := Lib.hid (show Below w.heap.size w w3 by rw [hw3]; exact below2 HB1.out HZ.out.bel)
      have Y0 := Lib.hid (show Rz Bk.arr 27 60 [(w.heap.size + 1, #[.int .i64 vb, .slice B m d]), (w.heap.size, #[.int .i64 va, .slice A n c])] w3 w3 (.slice none 0 0) [] by rw [hw3]; exact ((Rz.nil (f := Bk.arr) (sz := 27) (e := 60) wr).add HZ.out.b1 (by intro e; cases e)).add HZ.out.b0 (by intro e; cases e))
      rw [← hw3] at GA
      subst hgA
      clear HF2 hi hge HAR HBR HB1 P1 Q1 Z0
      rw [← hw3] at q1 q2 q3 q4 p1 p2 p3 p4 hlp hlq
      rw [← hw3]
      clear hw3 HZ
      go_wp2
      go_loopw [6, 8] (fun s6 s8 wr => ∃ (j : Nat) (A2 : Option Addr) (m2 c2 : Nat), j ≤ m ∧ s8 = .int .i64 j ∧ s6 = .slice A2 m2 c2 ∧ Rz Bk.arr 27 60 [(w.heap.size + 1, #[.int .i64 vb, .slice B m d]), (w.heap.size, #[.int .i64 va, .slice A n c])] w3 wr (.slice A2 m2 c2) (otherL la (lb.take j))) (fun _ s8 _ => m - (intOf s8).toNat)
      case atStart => exact ⟨0, none, 0, 0, by omega, rfl, rfl, by simpa [otherL] using Y0.out⟩
      case round =>
        obtain ⟨j, A2, m2, c2, hj, rfl, rfl, h⟩ := hrel
        have HZ := Lib.hid h
        clear h q1 q2 q3 q4 p1 p2 p3 p4 hlp hlq
        obtain ⟨q1, q2, q3, q4⟩ := HZ.out.b0.facts
        obtain ⟨p1, p2, p3, p4⟩ := HZ.out.b1.facts
        have hlp := HZ.out.b1.lt
        have hlq := HZ.out.b0.lt
        by_cases hlt : j < m
        · have hlt2 : (j : Int) < m := by omega
          obtain ⟨b, o, rfl, hbb, hh1, hh2⟩ := RdR.at_ Bk.arr_size noBk (HBR3.out.go HZ.out.bel) hlt
          have hs := otherL_snoc la lb j (by have := HLB.out; omega)
          have hol := otherL_len la (lb.take j)
          rw [List.length_take] at hol
          have HOL := Lib.hid (show (otherL la (lb.take j)).length + 1 ≤ 1000000 by omega)
          have HXF := Lib.hid (HFB.out _ (getD_mem noBk lb j (by have := HLB.out; omega)))
          obtain ⟨x, hx⟩ : ∃ x, lb.getD j noBk = x := ⟨_, rfl⟩
          rw [hx] at hh2 hs HXF
          have hload : ∀ W', Below wr.heap.size wr W' → W'.cell? ⟨b, o + j * 27, none⟩ = some (.string (textOf x.name)) ∧ (loadBk (.pointer (some ⟨b, o + j * 27, none⟩))).run Tryz.prog W' = .ok (.agg x.arr) W' := fun W' hW => by
            obtain ⟨b2, o2, e2, hb2, hc2⟩ := RdR.cell Bk.arr_size noBk ((HBR3.out.go HZ.out.bel).go hW) hlt
            injection e2 with e2
            injection e2 with e3 e4
            subst e3 e4
            have h1 := hc2 0 (by omega)
            rw [Nat.add_zero, hx, Bk.arr_0] at h1
            obtain ⟨k1, k2⟩ := cellsAt_eq (Bk.arr_size _) hc2
            exact ⟨h1, by rw [load_bk _ _ _ k1, k2, hx]⟩
          obtain ⟨K, hK⟩ : ∃ K, hasN la x.name = K := ⟨_, rfl⟩
          have HSN := Lib.hid hs
          have FD := Lib.hid (rFind_any la IA.out.2.2.2.2 x.name va A n c wr.drew (HAR3.out.go HZ.out.bel.drew) (by omega))
          have KS := Lib.hid (show ∀ W', Below wr.heap.size wr W' → W'.cell? ⟨w.heap.size, 0, none⟩ = some (.int .i64 va) ∧ W'.cell? ⟨w.heap.size, 1, none⟩ = some (.slice A n c) ∧ W'.cell? ⟨w.heap.size + 1, 1, none⟩ = some (.slice (some ⟨b, o, none⟩) m d) ∧ W'.cell? ⟨b, o + j * 27, none⟩ = some (.string (textOf x.name)) from fun W' hW => ⟨by rw [(HZ.out.b1.go hW).facts.1]; rfl, by rw [(HZ.out.b1.go hW).facts.1]; rfl, by rw [(HZ.out.b0.go hW).facts.1]; rfl, (hload W' hW).1⟩)
          have LD := Lib.hid hload
          have HP := Lib.hid (show posN la x.name = if K then ((lowN la x.name : Nat) : Int) else -1 by rw [posN, hK])
          rw [HP.out] at FD
          have hcw := (hload wr (Below.refl _ _)).1
          have BZ := Lib.hid (Below.refl wr.heap.size wr).drew
          have HK := Lib.hid hK
          clear hx hs hK hol hload
          cases K
          · have HJ := Lib.hid (show justB la x = false by unfold justB; rw [HK.out]; rfl)
            rw [HJ.out] at HSN
            go_wp2_with fail
            go_region_held_law (fun W' => W'.cell? ⟨w.heap.size, 0, none⟩ = some (.int .i64 va) ∧ W'.cell? ⟨w.heap.size, 1, none⟩ = some (.slice A n c) ∧ W'.cell? ⟨w.heap.size + 1, 1, none⟩ = some (.slice (some ⟨b, o, none⟩) m d) ∧ W'.cell? ⟨b, o + j * 27, none⟩ = some (.string (textOf x.name)))
              (first | exact KS.out _ BZ.out | exact KS.out _ Ba.out | go_keep)
              (first | (go_at_call 70; (with_reducible refine FD.out.mono ?_); rintro e wa ⟨rfl, ha⟩; have Ba := Lib.hid (below2 BZ.out ha); clear ha) | fail)

            all_goals
              have hA1 := (KS.out _ Ba.out).2.1
              have hB1 := (KS.out _ Ba.out).2.2.1
              clear q1 q2 q3 q4 p1 p2 p3 p4 hlp hlq hcw
              go_wp2_with fail
              go_quiet (fail)
              have BD := Lib.hid (below_drewN Ba.out nq)
              obtain ⟨wz, hwz⟩ : ∃ wz, wz = wa.drewN nq := ⟨_, rfl⟩
              rw [← hwz] at BD
              rw [← hwz]
              clear hwz
              have hld := (LD.out _ BD.out).2
              have Z2 := Lib.hid (HZ.out.go BD.out)
              have Z3 := Lib.hid ((HZ.out.go BD.out).alloc (.cells x.arr 60))
              have RO := Lib.hid (RdR.one (f := Bk.arr) x Bk.arr_size wz 60)
              obtain ⟨r1, r2, r3, r4⟩ := Z2.out.b0.facts
              obtain ⟨s1, s2, s3, s4⟩ := Z2.out.b1.facts
              have hlr := Z2.out.b0.lt
              have hls := Z2.out.b1.lt
              go_wp2_with (at_builtin; refine wpList_rz rowT_bk rfl (.tmp 69) (.tmp 75) rfl rfl Z3.out rfl RO.out HOL.out ?_; intro A5 n5 c5 w5 h5 h6; have Z5 := Lib.hid h5; clear h5 h6)
              go_roundw
              case rel => exact ⟨j + 1, A5, n5, c5, by omega, by go_num, rfl, by rw [HSN.out]; exact Z5.out⟩
              case measure => simp [intOf] <;> omega
          · have HQ := Lib.hid (has_lt HK.out)
            have HLQ : lowN la x.name < n := by have := HQ.out; have := HLA.out; omega
            have hgot := gotN_yes HK.out
            obtain ⟨q, hq⟩ : ∃ q, lowN la x.name = q := ⟨_, rfl⟩
            rw [hq] at FD HLQ hgot HP
            obtain ⟨ab, ao, rfl, hab, hk1, hk2⟩ := RdR.at_ Bk.arr_size noBk (HAR3.out.go HZ.out.bel) HLQ
            have HGF := Lib.hid (HFA.out _ (getD_mem noBk la q (by have := HLA.out; omega)))
            obtain ⟨g, hg⟩ : ∃ g, la.getD q noBk = g := ⟨_, rfl⟩
            rw [hg] at hgot hk2 HGF
            have LG := Lib.hid (show ∀ W', Below wr.heap.size wr W' → (loadBk (.pointer (some ⟨ab, ao + q * 27, none⟩))).run Tryz.prog W' = .ok (.agg g.arr) W' from fun W' hW => by
              obtain ⟨b2, o2, e2, hb2, hc2⟩ := RdR.cell Bk.arr_size noBk ((HAR3.out.go HZ.out.bel).go hW) HLQ
              injection e2 with e2
              injection e2 with e3 e4
              subst e3 e4
              obtain ⟨k1, k2⟩ := cellsAt_eq (Bk.arr_size _) hc2
              rw [load_bk _ _ _ k1, k2, hg])
            obtain ⟨R, hR⟩ : ∃ R, sameOne g x = R := ⟨_, rfl⟩
            have HJ := Lib.hid (show justB la x = R by unfold justB; rw [HK.out, hgot, one_same HXF.out HGF.out, hR]; rfl)
            rw [HJ.out] at HSN
            have SM := Lib.hid (fun W => sameOne_any g x HGF.out.2 HXF.out.2 W)
            rw [hR] at SM
            simp only [if_true] at FD
            clear hq hg hgot hR hk1 hk2
            go_wp2_with fail
            go_region_held_law (fun W' => W'.cell? ⟨w.heap.size, 0, none⟩ = some (.int .i64 va) ∧ W'.cell? ⟨w.heap.size, 1, none⟩ = some (.slice (some ⟨ab, ao, none⟩) n c) ∧ W'.cell? ⟨w.heap.size + 1, 1, none⟩ = some (.slice (some ⟨b, o, none⟩) m d) ∧ W'.cell? ⟨b, o + j * 27, none⟩ = some (.string (textOf x.name)))
              (first | exact KS.out _ BZ.out | exact KS.out _ Ba.out | go_keep)
              (first | (go_at_call 70; (with_reducible refine FD.out.mono ?_); rintro e wa ⟨rfl, ha⟩; have Ba := Lib.hid (below2 BZ.out ha); clear ha) | fail)
            all_goals
              have hA1 := (KS.out _ Ba.out).2.1
              have hB1 := (KS.out _ Ba.out).2.2.1
              have KT := Lib.hid (show ∀ W', Below wr.heap.size wr W' → W'.cell? ⟨w.heap.size, 1, none⟩ = some (.slice (some ⟨ab, ao, none⟩) n c) ∧ W'.cell? ⟨w.heap.size + 1, 1, none⟩ = some (.slice (some ⟨b, o, none⟩) m d) ∧ (loadBk (.pointer (some ⟨ab, ao + q * 27, none⟩))).run Tryz.prog W' = .ok (.agg g.arr) W' ∧ (loadBk (.pointer (some ⟨b, o + j * 27, none⟩))).run Tryz.prog W' = .ok (.agg x.arr) W' from fun W' hW => ⟨(KS.out _ hW).2.1, (KS.out _ hW).2.2.1, LG.out _ hW, (LD.out _ hW).2⟩)
              clear q1 q2 q3 q4 p1 p2 p3 p4 hlp hlq hcw
              have hqn : (q : Int) < n := by omega
              have hq0 : ¬ (q : Int) < 0 := by omega
              have BY := Lib.hid Ba.out.drew
              cases R
              · go_wp2_with fail
                go_region_held_law (fun W' => W'.cell? ⟨w.heap.size, 1, none⟩ = some (.slice (some ⟨ab, ao, none⟩) n c) ∧ W'.cell? ⟨w.heap.size + 1, 1, none⟩ = some (.slice (some ⟨b, o, none⟩) m d) ∧ (loadBk (.pointer (some ⟨ab, ao + q * 27, none⟩))).run Tryz.prog W' = .ok (.agg g.arr) W' ∧ (loadBk (.pointer (some ⟨b, o + j * 27, none⟩))).run Tryz.prog W' = .ok (.agg x.arr) W')
                  (first | exact KT.out _ BY.out | exact KT.out _ Bc.out)
                  (first | (go_at_call 71; (with_reducible refine (SM.out _).mono ?_); rintro e wc ⟨rfl, hc⟩; have Bc := Lib.hid (below2 BY.out hc); clear hc) | fail)
                all_goals
                  have BD := Lib.hid Bc.out
                  have hA2 := (KT.out _ Bc.out).1
                  have hB2 := (KT.out _ Bc.out).2.1
                  have hld := (LD.out _ BD.out).2
                  have Z2 := Lib.hid (HZ.out.go BD.out)
                  have Z3 := Lib.hid ((HZ.out.go BD.out).alloc (.cells x.arr 60))
                  have RO := Lib.hid (RdR.one (f := Bk.arr) x Bk.arr_size wc 60)
                  obtain ⟨r1, r2, r3, r4⟩ := Z2.out.b0.facts
                  obtain ⟨s1, s2, s3, s4⟩ := Z2.out.b1.facts
                  have hlr := Z2.out.b0.lt
                  have hls := Z2.out.b1.lt
                  go_wp2_with (at_builtin; refine wpList_rz rowT_bk rfl (.tmp 69) (.tmp 75) rfl rfl Z3.out rfl RO.out HOL.out ?_; intro A5 n5 c5 w5 h5 h6; have Z5 := Lib.hid h5; clear h5 h6)
                  go_roundw
                  case rel => exact ⟨j + 1, A5, n5, c5, by omega, by go_num, rfl, by rw [HSN.out]; exact Z5.out⟩
                  case measure => simp [intOf] <;> omega
              · go_wp2_with fail
                go_region_held_law (fun W' => W'.cell? ⟨w.heap.size, 1, none⟩ = some (.slice (some ⟨ab, ao, none⟩) n c) ∧ W'.cell? ⟨w.heap.size + 1, 1, none⟩ = some (.slice (some ⟨b, o, none⟩) m d) ∧ (loadBk (.pointer (some ⟨ab, ao + q * 27, none⟩))).run Tryz.prog W' = .ok (.agg g.arr) W' ∧ (loadBk (.pointer (some ⟨b, o + j * 27, none⟩))).run Tryz.prog W' = .ok (.agg x.arr) W')
                  (first | exact KT.out _ BY.out | exact KT.out _ Bc.out)
                  (first | (go_at_call 71; (with_reducible refine (SM.out _).mono ?_); rintro e wc ⟨rfl, hc⟩; have Bc := Lib.hid (below2 BY.out hc); clear hc) | fail)
                all_goals
                  have BD := Lib.hid Bc.out
                  have hA2 := (KT.out _ Bc.out).1
                  have hB2 := (KT.out _ Bc.out).2.1
                  have Z2 := Lib.hid (HZ.out.go BD.out)
                  go_wp2
                  go_roundw
                  case rel => exact ⟨j + 1, A2, m2, c2, by omega, by go_num, rfl, by rw [HSN.out]; simpa using Z2.out⟩
                  case measure => simp [intOf] <;> omega
        · have hge : ¬ (j : Int) < m := by omega
          have HF2 := Lib.hid (show lb.take j = lb from List.take_of_length_le (by have := HLB.out; omega))
          rw [HF2.out] at HZ
          obtain ⟨w5, hw5⟩ : ∃ u, u = wr := ⟨_, rfl⟩
          rw [← hw5] at HZ q1 q2 q3 q4 p1 p2 p3 p4 hlp hlq
          rw [← hw5]
          clear hw5 HF2 hge hj Y0
          have HB5 := Lib.hid (below2 HB3.out HZ.out.bel)
          have RG := Lib.hid ((GA.out.go HZ.out.bel).rd)
          have RO := Lib.hid HZ.out.rd
          obtain ⟨gl, hgl⟩ : ∃ G, G = goneL la lb := ⟨_, rfl⟩
          obtain ⟨ol, hol⟩ : ∃ G, G = otherL la lb := ⟨_, rfl⟩
          have HGS := Lib.hid (show ∀ s ∈ gl, s.length ≤ 255 by rw [hgl]; exact goneL_small (lb := lb) (fun x hx => (LA.out x hx).1))
          have HOS := Lib.hid (show ∀ y ∈ ol, y.fine ∧ layBk y by rw [hol]; exact fun y hy => ⟨HFB.out y (otherL_mem hy), LB.out y (otherL_mem hy)⟩)
          have HGL := Lib.hid (show gl.length ≤ 1024 by rw [hgl]; have := goneL_len la lb; have := HLA.out; omega)
          have HOL := Lib.hid (show ol.length ≤ 1024 by rw [hol]; have := otherL_len la lb; have := HLB.out; omega)
          rw [← hgl] at RG
          rw [← hol] at RO
          have HMG := Lib.hid (show gl.length = m' from RG.out.1)
          have HMO := Lib.hid (show ol.length = m2 from RO.out.1)
          have hmg : m' ≤ 1024 := by rw [← HMG.out]; exact HGL.out
          have hmo : m2 ≤ 1024 := by rw [← HMO.out]; exact HOL.out
          have HD := Lib.hid (show deltaB va vb la lb = varB va.toNat ++ varB vb.toNat ++ varB m' ++ gl.flatMap textB ++ varB m2 ++ ol.flatMap bkB by rw [deltaB, ← hgl, ← hol, HMG.out, bksB, HMO.out]; simp [numsB, List.append_assoc])
          have LY0 := Lib.hid (((Ly.nil (w := w5)).add HZ.out.b1 (by intro e; cases e)).add HZ.out.b0 (by intro e; cases e))
          have HVA := Lib.hid (show 0 ≤ va ∧ va ≤ 9223372036854775807 from ⟨IA.out.1, by have := IA.out.2.1; omega⟩)
          have HVB := Lib.hid (show 0 ≤ vb ∧ vb ≤ 9223372036854775807 from ⟨IB.out.1, by have := IB.out.2.1; omega⟩)
          have KS := Lib.hid (show ∀ W', Box W' w.heap.size #[.int .i64 va, .slice A n c] → Box W' (w.heap.size + 1) #[.int .i64 vb, .slice B m d] → W'.cell? ⟨w.heap.size, 0, none⟩ = some (.int .i64 va) ∧ W'.cell? ⟨w.heap.size + 1, 0, none⟩ = some (.int .i64 vb) from fun W' h1 h2 => ⟨by rw [h1.facts.1]; rfl, by rw [h2.facts.1]; rfl⟩)
          clear hgl hol HZ GA HFA HFB IA IB LA LB HAR3 HBR3
          go_wp2_with fail
          go_region_held_law (fun W' => W'.cell? ⟨w.heap.size, 0, none⟩ = some (.int .i64 va) ∧ W'.cell? ⟨w.heap.size + 1, 0, none⟩ = some (.int .i64 vb))
            (first | exact KS.out _ LY0.out.b1.drew LY0.out.b0.drew | exact KS.out _ T1.out.b1 T1.out.b0 | exact KS.out _ T2.out.b1 T2.out.b0 | exact KS.out _ T3.out.b1 T3.out.b0 | go_keep)
            (first | (go_at_call 40; (with_reducible refine (rnum_ly va LY0.out.drew HVA.out (by simp)).mono ?_); rintro e w6 ⟨A6, n6, c6, rfl, h6⟩; have T1 := Lib.hid h6; clear h6) | (go_at_call 40; (with_reducible refine (rnum_ly vb T1.out HVB.out (by have := (varB_len va.toNat).2; simp only [List.nil_append]; omega)).mono ?_); rintro e w7 ⟨A7, n7, c7, rfl, h7⟩; have T2 := Lib.hid h7; clear h7) | (go_at_call 40; (with_reducible refine (rnum_ly m' T2.out (by omega) (by have := (varB_len va.toNat).2; have := (varB_len vb.toNat).2; simp only [List.nil_append, List.length_append]; omega)).mono ?_); rintro e w8 ⟨A8, n8, c8, rfl, h8⟩; have T3 := Lib.hid h8; clear h8))
          rw [List.nil_append, Int.toNat_natCast] at T3
          obtain ⟨q5, hq5⟩ : ∃ q, q = varB va.toNat ++ varB vb.toNat ++ varB m' := ⟨_, rfl⟩
          rw [← hq5] at T3 HD
          have HQ5 := Lib.hid (show q5.length ≤ 30 by have := (varB_len va.toNat).2; have := (varB_len vb.toNat).2; have := (varB_len m').2; rw [hq5, List.length_append, List.length_append]; omega)
          have HTL := Lib.hid (show (gl.flatMap textB).length ≤ 400000 by have := textsB_len gl HGS.out; have := HGL.out; omega)
          obtain ⟨q6, hq6⟩ : ∃ q, q = q5 ++ gl.flatMap textB := ⟨_, rfl⟩
          have HQ6 := Lib.hid (show q6.length ≤ 400030 by have := HTL.out; have := HQ5.out; rw [hq6, List.length_append]; omega)
          have H6 := Lib.hid hq6
          obtain ⟨q7, hq7⟩ : ∃ q, q = q6 ++ varB m2 := ⟨_, rfl⟩
          have HQ7 := Lib.hid (show q7.length ≤ 400040 by have := HQ6.out; have := (varB_len m2).2; rw [hq7, List.length_append]; omega)
          have H7 := Lib.hid hq7
          have HBL := Lib.hid (show (ol.flatMap bkB).length ≤ 400000 by have := bksB_len ol (fun y hy => layBk_told (HOS.out y hy).2); have := HOL.out; omega)
          rw [← hq6, ← hq7] at HD
          clear hq5 hq6 hq7 T1 T2 LY0 KS q1 q2 q3 q4 p1 p2 p3 p4 hlp hlq
          go_wp2
          go_loopw [10, 11] (fun s10 s11 wr => ∃ (i : Nat) (A' : Option Addr) (k' c' : Nat), i ≤ m' ∧ s11 = .int .i64 i ∧ s10 = .slice A' k' c' ∧ Ly w5.heap.size [(w.heap.size, #[.int .i64 va, .slice A n c]), (w.heap.size + 1, #[.int .i64 vb, .slice B m d])] w5 wr (.slice A' k' c') (q5 ++ (gl.take i).flatMap textB)) (fun _ s11 _ => m' - (intOf s11).toNat)
          case atStart => exact ⟨0, _, _, _, by omega, rfl, rfl, by simpa using T3.out.swap⟩
          case round =>
            clear T3
            obtain ⟨i, A', k', c', hi, rfl, rfl, h⟩ := hrel
            have HO := Lib.hid h
            clear h
            by_cases hlt : i < m'
            · have hlt2 : (i : Int) < m' := by omega
              obtain ⟨b, o, hgA, hbb, hcc⟩ := RdR.cell txC_size [] (RG.out.go HO.out.o.bel) hlt
              subst hgA
              have HSL := Lib.hid (HGS.out _ (getD_mem [] gl i (by rw [HMG.out]; exact hlt)))
              have HSN := Lib.hid (fm_snoc textB [] gl i (by rw [HMG.out]; exact hlt))
              have HLE := Lib.hid (fm_le textB gl i)
              obtain ⟨s, hs⟩ : ∃ s, gl.getD i [] = s := ⟨_, rfl⟩
              rw [hs] at hcc HSL HSN
              have hcell : wr.cell? ⟨b, o + i, none⟩ = some (.string (textOf s)) := by have := hcc 0 (by omega); rw [Nat.add_zero, Nat.mul_one] at this; exact this
              clear hs hcc
              have TX := Lib.hid (rtext_ly s HO.out (by have := HSL.out; omega) (by have := HQ5.out; have := HTL.out; have := HLE.out; rw [List.length_append]; omega))
              go_wp2_with fail
              (with_reducible refine TX.out.mono ?_)
              rintro e w9 ⟨A9, n9, c9, rfl, h9⟩
              have L9 := Lib.hid h9
              clear h9
              go_wp2
              go_roundw
              case rel => exact ⟨i + 1, A9, n9, c9, by omega, by go_num, rfl, by rw [HSN.out, ← List.append_assoc]; exact L9.out⟩
              case measure => simp [intOf] <;> omega
            · have hge : ¬ (i : Int) < m' := by omega
              have HF := Lib.hid (show gl.take i = gl from List.take_of_length_le (by rw [HMG.out]; omega))
              rw [HF.out, ← H6.out] at HO
              have NU := Lib.hid (rnum_ly m2 HO.out (by omega) (by have := HQ6.out; omega))
              rw [Int.toNat_natCast, ← H7.out] at NU
              clear HF hi
              go_wp2_with fail
              (with_reducible refine NU.out.mono ?_)
              rintro e w9 ⟨A9, n9, c9, rfl, h9⟩
              have L9 := Lib.hid h9
              clear h9 NU
              go_wp2
              go_loopw [10, 12] (fun s10 s12 wr => ∃ (i : Nat) (A' : Option Addr) (k' c' : Nat), i ≤ m2 ∧ s12 = .int .i64 i ∧ s10 = .slice A' k' c' ∧ Ly w5.heap.size [(w.heap.size, #[.int .i64 va, .slice A n c]), (w.heap.size + 1, #[.int .i64 vb, .slice B m d])] w5 wr (.slice A' k' c') (q7 ++ (ol.take i).flatMap bkB)) (fun _ s12 _ => m2 - (intOf s12).toNat)
              case atStart => exact ⟨0, _, _, _, by omega, rfl, rfl, by simpa using L9.out⟩
              case round =>
                clear L9 HO hlt
                obtain ⟨i, A', k', c', hi, rfl, rfl, h⟩ := hrel
                have HO := Lib.hid h
                clear h
                by_cases hlt : i < m2
                · have hlt2 : (i : Int) < m2 := by omega
                  obtain ⟨b, o, hgA, hbb, hh1, hh2⟩ := RdR.at_ Bk.arr_size noBk (RO.out.go HO.out.o.bel) hlt
                  subst hgA
                  have HSL := Lib.hid (HOS.out _ (getD_mem noBk ol i (by rw [HMO.out]; exact hlt)))
                  have HSN := Lib.hid (fm_snoc bkB noBk ol i (by rw [HMO.out]; exact hlt))
                  have HLE := Lib.hid (fm_le bkB ol i)
                  obtain ⟨y, hy⟩ : ∃ y, ol.getD i noBk = y := ⟨_, rfl⟩
                  rw [hy] at hh2 HSL HSN
                  clear hy
                  have TX := Lib.hid (rbk_ly y HO.out HSL.out.1 (layBk_told HSL.out.2) (by have := HQ7.out; have := HBL.out; have := HLE.out; rw [List.length_append]; omega))
                  go_wp2_with fail
                  (with_reducible refine TX.out.mono ?_)
                  rintro e w9 ⟨A9, n9, c9, rfl, h9⟩
                  have L9 := Lib.hid h9
                  clear h9
                  go_wp2
                  go_roundw
                  case rel => exact ⟨i + 1, A9, n9, c9, by omega, by go_num, rfl, by rw [HSN.out, ← List.append_assoc]; exact L9.out⟩
                  case measure => simp [intOf] <;> omega
                · have hge : ¬ (i : Int) < m2 := by omega
                  have HF := Lib.hid (show ol.take i = ol from List.take_of_length_le (by rw [HMO.out]; omega))
                  rw [HF.out, ← HD.out] at HO
                  go_wp2
                  go_ret
                  have ho := HO.out.o
                  obtain ⟨A9, c9, e9⟩ := ho.form
                  injection e9 with e9 e10 e11
                  subst e10
                  exact ⟨A', _, c', rfl, rfl, own_less ho.own HB5.out.size, below2 HB5.out ho.bel⟩
end Go.Proofs.YtmpemeemlhmaaaaGreat
