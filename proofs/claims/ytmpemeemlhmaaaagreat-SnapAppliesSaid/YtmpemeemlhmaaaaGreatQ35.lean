/- Whether a pool is right: the document's way. -/
import Derived.Test.YtmpemeemlhmaaaaGreatQ11
set_option linter.unusedSimpArgs false
set_option linter.unusedVariables false
set_option maxRecDepth 100000
namespace Go.Proofs.YtmpemeemlhmaaaaGreat
open Go.RowKit

set_option maxHeartbeats 4000000 in
set_option maxRecDepth 100000 in
theorem refRight_any (l : List Bk) (hf : ∀ x ∈ l, x.fine) (v : Int) (A : Option Addr) (c : Nat) (w : World) (hR : RdK w w.heap.size A l.length l) (hn : l.length < 4611686018427387904) :
    Calls Tryz.prog 21 #[.agg #[.int .i64 v, .slice A l.length c]] w fun e w' => e = .returned (.bool (pRight v l)) ∧ Below w.heap.size w w' := by
  have hb0 : ∀ ob, Below w.heap.size w (w.alloc ob) := fun ob => (Below.refl _ _).alloc (Nat.le_refl _) _
  have HB0 := Lib.hid hb0
  clear hb0
  have HR := Lib.hid hR
  have HF := Lib.hid hf
  clear hR hf
  have hp : pRight v l = (decide (0 ≤ v) && decide (v ≤ 1099511627776) && decide (l.length ≤ 1024) && (List.range l.length).all (okAt l)) := rfl
  have HP := Lib.hid hp
  clear hp
  by_cases h1 : 0 ≤ v
  rotate_left
  · have h1' : v < 0 := by omega
    go_enter Tryz.func21, Tryz.ntmps21
    go_wp2
    go_ret
    exact ⟨by rw [HP.out]; simp <;> intros <;> omega, HB0.out _⟩
  by_cases h2 : v ≤ 1099511627776
  rotate_left
  · go_enter Tryz.func21, Tryz.ntmps21
    go_wp2
    go_ret
    exact ⟨by rw [HP.out]; simp <;> intros <;> omega, HB0.out _⟩
  by_cases h3 : l.length ≤ 1024
  rotate_left
  · go_enter Tryz.func21, Tryz.ntmps21
    go_wp2
    go_ret
    exact ⟨by rw [HP.out]; simp <;> intros <;> omega, HB0.out _⟩
  obtain ⟨n, hnl⟩ : ∃ n, n = l.length := ⟨_, rfl⟩
  rw [← hnl] at HR hn h3 ⊢
  have HN := Lib.hid hnl
  clear hnl
  go_enter Tryz.func21, Tryz.ntmps21
  go_wp2
  go_loopw [3] (fun s3 wr => ∃ i : Nat, i ≤ n ∧ s3 = .int .i64 i ∧ (List.range i).all (okAt l) = true ∧ Below (w.heap.size + 1) (w.alloc (.cells #[.int .i64 v, .slice A n c] 24)) wr) (fun s3 _ => n - (intOf s3).toNat)
  case atStart => exact ⟨0, by omega, rfl, rfl, by simpa using Below.refl _ _⟩
  case round =>
    obtain ⟨i, hin, rfl, hall, hb⟩ := hrel
    have HA := Lib.hid hall
    have hB := (HB0.out (.cells #[.int .i64 v, .slice A n c] 24)).trans (hb.mono (by simp))
    have hcl : wr.cell? ⟨w.heap.size, 1, none⟩ = some (.slice A n c) := by
      rw [hb.cell (by simp)]
      go_simp
    have HB := Lib.hid hb
    have HBW := Lib.hid hB
    have hsz := hb.size
    clear hall hb hB
    by_cases hlt : i < n
    · have hi : (i : Int) < n := by omega
      have hR1 := HR.out.below HBW.out
      obtain ⟨b, o, rfl, hbb, hh, hc⟩ := hR1.at_ hlt
      have hbs : b < wr.heap.size := by simp at hsz; omega
      have hmem : l.getD i noBk ∈ l := by
        have := HN.out
        rw [List.getD_eq_getElem?_getD, List.getElem?_eq_getElem (by omega)]; simp
      obtain ⟨hx1, hx2⟩ := HF.out _ hmem
      have hok : okAt l i = ((l.getD i noBk).fair && wPos (l.getD i noBk).w && (decide (i = 0) || decide (cmpS (nm l (i - 1)) (nm l i) < 0))) := rfl
      have hnm : nm l i = (l.getD i noBk).name := rfl
      rw [hnm] at hok
      obtain ⟨x, hx⟩ : ∃ x, x = l.getD i noBk := ⟨_, rfl⟩
      rw [← hx] at hc hx1 hx2 hok
      have HOK := Lib.hid hok
      clear hx hok hnm hmem
      obtain ⟨K1, hK1⟩ : ∃ K, x.fair = K := ⟨_, rfl⟩
      have hn4 : wr.heap.size < (wr.alloc (.cells x.arr 60)).heap.size := by simp
      have HX1 := Lib.hid hx1
      have hS : ∀ b' o' pn, b' < wr.heap.size → wr.cell? ⟨b', o', none⟩ = some (.string (textOf pn)) → SR wr.heap.size x w.heap.size (.slice (some ⟨b, o, none⟩) n c) b' o' pn (wr.alloc (.cells x.arr 60)) := by
        intro b' o' pn h1 h2
        refine ⟨by simp, by simp at hsz ⊢; omega, by simp; omega, ?_, ?_, ?_, ?_, ?_, ?_⟩
        · rw [Has_bk_new]; trivial
        · exact cellsAt_bk_new _ _ _
        · rw [cell_new]; exact Bk.arr_0 x
        · rw [cell_new]; exact Bk.arr_25 x
        · rw [World.cell?_alloc_lt _ _ _ (by simp at hsz ⊢; omega)]; exact hcl
        · rw [World.cell?_alloc_lt _ _ _ (by simpa using h1)]; exact h2
      have hpn : ∃ pn, (0 < i → wr.cell? ⟨b, o + (i - 1) * 27, none⟩ = some (.string (textOf pn)) ∧ nm l (i - 1) = pn) := by
        refine ⟨nm l (i - 1), fun h0 => ⟨?_, rfl⟩⟩
        obtain ⟨b', o', hbo, _, hcc⟩ := hR1.cell (k := i - 1) (by omega)
        injection hbo with hbo
        injection hbo with e1 e2
        subst e1 e2
        have := hcc 0 (by omega)
        rw [Bk.arr_0] at this
        simpa [nm] using this
      have hn0 : wr.cell? ⟨b, o + i * 27, none⟩ = some (.string (textOf x.name)) := by
        have := hh 0 (by omega)
        obtain ⟨u, hu⟩ := this
        have hg := cellsAt_get wr b (o + i * 27) 27 0 (by omega)
        rw [hc, Bk.arr_0] at hg
        rw [hu] at hg
        simp at hg hu
        rw [hu, ← hg]
      have keyS : ∀ b' o' pn, b' < wr.heap.size → wr.cell? ⟨b', o', none⟩ = some (.string (textOf pn)) → ∃ (T : Type) (f : T → World) (n0 : T), f n0 = (wr.alloc (.cells x.arr 60)).drew ∧ (∀ m W1, Below (f m).heap.size (f m) W1 → ∃ m', W1 = f m') ∧ (∀ m, Below (w.heap.size + 1) (w.alloc (.cells #[.int .i64 v, .slice (some ⟨b, o, none⟩) n c] 24)) (f m)) ∧
          (∀ m, (loadBk (.pointer (some ⟨wr.heap.size, 0, none⟩))).run Tryz.prog (f m) = .ok (.agg x.arr) (f m)) ∧ (∀ m, (f m).cell? ⟨wr.heap.size, 0, none⟩ = some (.string (textOf x.name))) ∧ (∀ m, (f m).cell? ⟨wr.heap.size, 25, none⟩ = some (.float .f64 x.w)) ∧
            (∀ m, (f m).cell? ⟨w.heap.size, 1, none⟩ = some (.slice (some ⟨b, o, none⟩) n c)) ∧ (∀ m, (f m).cell? ⟨b', o', none⟩ = some (.string (textOf pn))) := by
        intro b' o' pn h1 h2
        obtain ⟨T, f, n0, e0, eS, eT⟩ := class_of (fun W => SR wr.heap.size x w.heap.size (.slice (some ⟨b, o, none⟩) n c) b' o' pn W ∧ Below (w.heap.size + 1) (w.alloc (.cells #[.int .i64 v, .slice (some ⟨b, o, none⟩) n c] 24)) W)
          (wr.alloc (.cells x.arr 60)) ⟨hS _ _ _ h1 h2, (HB.out.alloc (by simp at hsz; omega) _).drew⟩
        refine ⟨T, f, n0, e0, ?_, fun m => (eS m).2, fun m => (eS m).1.load, fun m => (eS m).1.2.2.2.2.2.1, fun m => (eS m).1.2.2.2.2.2.2.1, fun m => (eS m).1.2.2.2.2.2.2.2.1, fun m => (eS m).1.2.2.2.2.2.2.2.2⟩
        intro m W1 hb
        have := (eS m).2.size
        exact eT _ ⟨(eS m).1.below hb, (eS m).2.trans (hb.mono (by simpa using this))⟩
      have right_K : ∀ K, x.fair = K → ∀ W, Calls Tryz.prog 64 #[.agg x.arr] W fun e w' => e = .returned (.bool K) ∧ Below W.heap.size W w' := fun K h W => by
        have := fair_bk x W hx1 hx2
        rw [h] at this
        exact this
      have keyP : ∀ b' o' pn, b' < wr.heap.size → wr.cell? ⟨b', o', none⟩ = some (.string (textOf pn)) → ∃ S : World → Prop, S (wr.alloc (.cells x.arr 60)).drew ∧ (∀ W W1, S W → Below W.heap.size W W1 → S W1) ∧
          (∀ W, S W → W.cell? ⟨wr.heap.size, 25, none⟩ = some (.float .f64 x.w)) ∧
          (∀ (W : World) (A2 : Option Addr), S W → RdB W W.heap.size A2 8 (wPut x.w) → ∃ (a2 : Addr) (T : Type) (f : T → World) (n0 : T), A2 = some a2 ∧ f n0 = W ∧ (∀ m, Below (w.heap.size + 1) (w.alloc (.cells #[.int .i64 v, .slice (some ⟨b, o, none⟩) n c] 24)) (f m)) ∧
            (∀ m, (f m).cell? ⟨wr.heap.size, 0, none⟩ = some (.string (textOf x.name))) ∧
            (∀ m, (f m).cell? ⟨w.heap.size, 1, none⟩ = some (.slice (some ⟨b, o, none⟩) n c)) ∧ (∀ m, (f m).cell? ⟨b', o', none⟩ = some (.string (textOf pn))) ∧ (∀ m, (f m).cell? a2 = some (.int .u8 (((wPut x.w).getD 0 0).toNat : Nat)))) := by
        intro b' o' pn h1 h2
        refine ⟨fun W => SR wr.heap.size x w.heap.size (.slice (some ⟨b, o, none⟩) n c) b' o' pn W ∧ Below (w.heap.size + 1) (w.alloc (.cells #[.int .i64 v, .slice (some ⟨b, o, none⟩) n c] 24)) W, ?_, ?_, fun W h => h.1.2.2.2.2.2.2.1, ?_⟩
        · exact ⟨hS _ _ _ h1 h2, (HB.out.alloc (by simp at hsz; omega) _).drew⟩
        · intro W W1 h hb
          have := h.2.size
          exact ⟨h.1.below hb, h.2.trans (hb.mono (by simpa using this))⟩
        · intro W A2 h hr
          obtain ⟨a2, rfl, hab, hcell⟩ := hr.at_ (k := 0) (by omega)
          rw [add_zero_] at hcell
          obtain ⟨T, f, n0, e0, eS, eT⟩ := class_at (fun W => (SR wr.heap.size x w.heap.size (.slice (some ⟨b, o, none⟩) n c) b' o' pn W ∧ Below (w.heap.size + 1) (w.alloc (.cells #[.int .i64 v, .slice (some ⟨b, o, none⟩) n c] 24)) W) ∧ W.cell? a2 = some (bv ((wPut x.w).getD 0 0))) W ⟨h, hcell⟩
          exact ⟨a2, T, f, n0, rfl, e0, fun m => (eS m).1.2, fun m => (eS m).1.1.2.2.2.2.2.1, fun m => (eS m).1.1.2.2.2.2.2.2.2.1, fun m => (eS m).1.1.2.2.2.2.2.2.2.2, fun m => (eS m).2⟩
      cases K1
      · have hno : okAt l i = false := by rw [HOK.out, hK1]; rfl
        have hno2 := range_all_false (okAt l) i n hlt hno
        have hPF : pRight v l = false := by rw [HP.out, ← HN.out, hno2]; simp
        have HPF := Lib.hid hPF
        have HRI := Lib.hid (right_K _ hK1)
        clear hK1 hpn hno hno2 hPF right_K
        obtain ⟨T, f, n0, e0, es, ew, r1, r2, r3, r4, r5⟩ := keyS _ _ _ hbs hn0
        have hne : Nonempty T := ⟨n0⟩
        have E0 := Lib.hid e0
        have ES := Lib.hid es
        have EW := Lib.hid ew
        clear hS keyS e0 es ew
        go_upto_region 7 with fail
        refine quiet_in f (by kernel_rfl) (by kernel_rfl) n0 E0.out ?_
        repeat (go_big_quiet_step ((first
          | (go_at_call 64; refine (HRI.out _).mono ?_; rintro e w1 ⟨rfl, hb1⟩; exact ⟨rfl, ES.out _ _ hb1⟩))))
        refine wpQuiet_nil ?_
        rintro _ ⟨m, rfl⟩
        go_wp2
        go_ret
        exact ⟨by rw [HPF.out]; rfl, (HB0.out _).trans ((EW.out _).mono (by simp))⟩
      · have hfb : decide (128 ≤ ((wPut x.w).getD 0 0).toNat) = !wPos x.w := firstByte (by
          unfold Bk.fair at hK1
          simp only [Bool.and_eq_true] at hK1
          exact hK1.2)
        obtain ⟨nb, hnb⟩ : ∃ nb, nb = ((wPut x.w).getD 0 0).toNat := ⟨_, rfl⟩
        rw [← hnb] at hfb keyP
        clear hnb
        cases hK2 : wPos x.w
        · have h128 : (128 : Int) ≤ nb := by
            rw [hK2] at hfb
            simp at hfb
            omega
          have hno : okAt l i = false := by rw [HOK.out, hK2]; simp
          have hno2 := range_all_false (okAt l) i n hlt hno
          have hPF : pRight v l = false := by rw [HP.out, ← HN.out, hno2]; simp
          have HPF := Lib.hid hPF
          have HRI := Lib.hid (right_K _ hK1)
          clear hK1 hK2 hpn hno hno2 hPF right_K hfb
          obtain ⟨S, s0, s1, s2, s3⟩ := keyP _ _ _ hbs hn0
          have S0 := Lib.hid s0
          have S1 := Lib.hid s1
          have S2 := Lib.hid s2
          have S3 := Lib.hid s3
          clear hS keyS keyP s0 s1 s2 s3
          go_upto_region 7 with fail
          refine wp_region_any (by kernel_rfl) ?_
          change wpAny _ _ _ _ _ _ _ (World.drew _)
          refine any_head 0 (by kernel_rfl) rfl (fun K hK => ?_)
          go_simp
          refine hK _ _ ?_
          clear hK K
          refine any_head 1 (by kernel_rfl) rfl (fun K hK => ?_)
          go_simp
          go_wp2_with (go_at_call 64; refine (HRI.out _).mono ?_; rintro e w1 ⟨rfl, hb1⟩; have T1 := Lib.hid (S1.out _ _ S0.out hb1); clear hb1; have hw1 := S2.out _ T1.out)
          try (refine hK _ _ ?_; clear hK K)
          refine any_head 2 (by kernel_rfl) rfl (fun K hK => ?_)
          go_simp
          refine hK _ _ ?_
          clear hK K
          refine any_head 3 (by kernel_rfl) rfl (fun K hK => ?_)
          go_simp
          refine hK _ _ ?_
          clear hK K
          refine any_head 4 (by kernel_rfl) rfl (fun K hK => ?_)
          go_simp
          refine hK _ _ ?_
          clear hK K
          refine any_head 5 (by kernel_rfl) rfl (fun K hK => ?_)
          go_simp
          refine hK _ _ ?_
          clear hK K
          refine any_head 6 (by kernel_rfl) rfl (fun K hK => ?_)
          go_simp
          go_wp2_with (go_at_call 65; refine (refPut_any _ hx2 _).mono ?_; rintro e w2 ⟨A2, c2, rfl, hr2, hb2⟩; have T2 := Lib.hid (S1.out _ _ T1.out hb2); clear hb2; have HR2 := Lib.hid hr2; clear hr2)
          try (refine hK _ _ ?_; clear hK K)
          obtain ⟨a2, T, f, n0, rfl, e0, ew, r2, r4, r5, r6⟩ := S3.out _ _ T2.out HR2.out
          have hne : Nonempty T := ⟨n0⟩
          have E0 := Lib.hid e0
          have EW := Lib.hid ew
          clear e0 ew
          refine quiet_mid7 f (by kernel_rfl) (by kernel_rfl) rfl n0 E0.out ?_
          repeat (go_big_quiet_step (fail))
          refine wpQuiet_nil ?_
          rintro _ ⟨m, rfl⟩
          go_wp2
          go_ret
          exact ⟨by rw [HPF.out]; rfl, (HB0.out _).trans ((EW.out _).mono (by simp))⟩
        · have h128 : decide ((128 : Int) ≤ nb) = false := by
            rw [hK2] at hfb
            simp at hfb ⊢
            omega
          rcases i with _ | i
          · simp only [Nat.zero_mul, Nat.add_zero] at hh hc hn0
            have hyes : (List.range (0 + 1)).all (okAt l) = (List.range 0).all (okAt l) := by
              rw [range_all_succ, HOK.out, hK1, hK2]; simp
            have HY := Lib.hid hyes
            have HRI := Lib.hid (right_K _ hK1)
            clear hK1 hK2 hpn hyes right_K hfb
            obtain ⟨S, s0, s1, s2, s3⟩ := keyP _ _ _ hbs hn0
            have S0 := Lib.hid s0
            have S1 := Lib.hid s1
            have S2 := Lib.hid s2
            have S3 := Lib.hid s3
            clear hS keyS keyP s0 s1 s2 s3
            go_upto_region 7 with fail
            refine wp_region_any (by kernel_rfl) ?_
            change wpAny _ _ _ _ _ _ _ (World.drew _)
            refine any_head 0 (by kernel_rfl) rfl (fun K hK => ?_)
            go_simp
            refine hK _ _ ?_
            clear hK K
            refine any_head 1 (by kernel_rfl) rfl (fun K hK => ?_)
            go_simp
            go_wp2_with (go_at_call 64; refine (HRI.out _).mono ?_; rintro e w1 ⟨rfl, hb1⟩; have T1 := Lib.hid (S1.out _ _ S0.out hb1); clear hb1; have hw1 := S2.out _ T1.out)
            try (refine hK _ _ ?_; clear hK K)
            refine any_head 2 (by kernel_rfl) rfl (fun K hK => ?_)
            go_simp
            refine hK _ _ ?_
            clear hK K
            refine any_head 3 (by kernel_rfl) rfl (fun K hK => ?_)
            go_simp
            refine hK _ _ ?_
            clear hK K
            refine any_head 4 (by kernel_rfl) rfl (fun K hK => ?_)
            go_simp
            refine hK _ _ ?_
            clear hK K
            refine any_head 5 (by kernel_rfl) rfl (fun K hK => ?_)
            go_simp
            refine hK _ _ ?_
            clear hK K
            refine any_head 6 (by kernel_rfl) rfl (fun K hK => ?_)
            go_simp
            go_wp2_with (go_at_call 65; refine (refPut_any _ hx2 _).mono ?_; rintro e w2 ⟨A2, c2, rfl, hr2, hb2⟩; have T2 := Lib.hid (S1.out _ _ T1.out hb2); clear hb2; have HR2 := Lib.hid hr2; clear hr2)
            try (refine hK _ _ ?_; clear hK K)
            obtain ⟨a2, T, f, n0, rfl, e0, ew, r2, r4, r5, r6⟩ := S3.out _ _ T2.out HR2.out
            have hne : Nonempty T := ⟨n0⟩
            have E0 := Lib.hid e0
            have EW := Lib.hid ew
            clear e0 ew
            refine quiet_mid7 f (by kernel_rfl) (by kernel_rfl) rfl n0 E0.out ?_
            repeat (go_big_quiet_step (fail))
            refine wpQuiet_nil ?_
            rintro _ ⟨m, rfl⟩
            go_wp2
            go_roundw
            case rel => exact ⟨0 + 1, by omega, by go_num, by rw [HY.out]; exact HA.out, EW.out _⟩
            case measure => simp [intOf] <;> omega
          · obtain ⟨pn, hpn⟩ := hpn
            obtain ⟨hp1, hp2⟩ := hpn (by omega)
            clear hpn
            simp only [Nat.add_sub_cancel] at hp1 hp2
            have hok2 : okAt l (i + 1) = (x.fair && wPos x.w && (decide (i + 1 = 0) || decide (cmpS pn x.name < 0))) := by rw [HOK.out, Nat.add_sub_cancel, hp2]
            have hbl := bytesLess_is pn x.name
            by_cases ht : cmpS pn x.name < 0
            · have hbt : Op.bytesLess pn x.name = true := by rw [hbl]; simpa using ht
              have hyes : (List.range (i + 1 + 1)).all (okAt l) = (List.range (i + 1)).all (okAt l) := by
                rw [range_all_succ, hok2, hK1, hK2]; simp [ht]
              have HY := Lib.hid hyes
              have HRI := Lib.hid (right_K _ hK1)
              clear hK1 hK2 hyes right_K hok2 hbl hp2 ht hfb
              obtain ⟨S, s0, s1, s2, s3⟩ := keyP _ _ _ hbs hp1
              have S0 := Lib.hid s0
              have S1 := Lib.hid s1
              have S2 := Lib.hid s2
              have S3 := Lib.hid s3
              clear hS keyS keyP s0 s1 s2 s3
              go_upto_region 7 with fail
              refine wp_region_any (by kernel_rfl) ?_
              change wpAny _ _ _ _ _ _ _ (World.drew _)
              refine any_head 0 (by kernel_rfl) rfl (fun K hK => ?_)
              go_simp
              refine hK _ _ ?_
              clear hK K
              refine any_head 1 (by kernel_rfl) rfl (fun K hK => ?_)
              go_simp
              go_wp2_with (go_at_call 64; refine (HRI.out _).mono ?_; rintro e w1 ⟨rfl, hb1⟩; have T1 := Lib.hid (S1.out _ _ S0.out hb1); clear hb1; have hw1 := S2.out _ T1.out)
              try (refine hK _ _ ?_; clear hK K)
              refine any_head 2 (by kernel_rfl) rfl (fun K hK => ?_)
              go_simp
              refine hK _ _ ?_
              clear hK K
              refine any_head 3 (by kernel_rfl) rfl (fun K hK => ?_)
              go_simp
              refine hK _ _ ?_
              clear hK K
              refine any_head 4 (by kernel_rfl) rfl (fun K hK => ?_)
              go_simp
              refine hK _ _ ?_
              clear hK K
              refine any_head 5 (by kernel_rfl) rfl (fun K hK => ?_)
              go_simp
              refine hK _ _ ?_
              clear hK K
              refine any_head 6 (by kernel_rfl) rfl (fun K hK => ?_)
              go_simp
              go_wp2_with (go_at_call 65; refine (refPut_any _ hx2 _).mono ?_; rintro e w2 ⟨A2, c2, rfl, hr2, hb2⟩; have T2 := Lib.hid (S1.out _ _ T1.out hb2); clear hb2; have HR2 := Lib.hid hr2; clear hr2)
              try (refine hK _ _ ?_; clear hK K)
              obtain ⟨a2, T, f, n0, rfl, e0, ew, r2, r4, r5, r6⟩ := S3.out _ _ T2.out HR2.out
              have hne : Nonempty T := ⟨n0⟩
              have E0 := Lib.hid e0
              have EW := Lib.hid ew
              clear e0 ew
              refine quiet_mid7 f (by kernel_rfl) (by kernel_rfl) rfl n0 E0.out ?_
              repeat (go_big_quiet_step (fail))
              refine wpQuiet_nil ?_
              rintro _ ⟨m, rfl⟩
              go_wp2
              go_roundw
              case rel => exact ⟨i + 1 + 1, by omega, by go_num, by rw [HY.out]; exact HA.out, EW.out _⟩
              case measure => simp [intOf] <;> omega
            · have hbt : Op.bytesLess pn x.name = false := by rw [hbl]; simpa using ht
              have hno : okAt l (i + 1) = false := by rw [hok2]; simp [ht]
              have hno2 := range_all_false (okAt l) (i + 1) n hlt hno
              have hPF : pRight v l = false := by rw [HP.out, ← HN.out, hno2]; simp
              have HPF := Lib.hid hPF
              have HRI := Lib.hid (right_K _ hK1)
              clear hK1 hK2 hno hno2 hPF right_K hok2 hbl hp2 ht hfb
              obtain ⟨S, s0, s1, s2, s3⟩ := keyP _ _ _ hbs hp1
              have S0 := Lib.hid s0
              have S1 := Lib.hid s1
              have S2 := Lib.hid s2
              have S3 := Lib.hid s3
              clear hS keyS keyP s0 s1 s2 s3
              go_upto_region 7 with fail
              refine wp_region_any (by kernel_rfl) ?_
              change wpAny _ _ _ _ _ _ _ (World.drew _)
              refine any_head 0 (by kernel_rfl) rfl (fun K hK => ?_)
              go_simp
              refine hK _ _ ?_
              clear hK K
              refine any_head 1 (by kernel_rfl) rfl (fun K hK => ?_)
              go_simp
              go_wp2_with (go_at_call 64; refine (HRI.out _).mono ?_; rintro e w1 ⟨rfl, hb1⟩; have T1 := Lib.hid (S1.out _ _ S0.out hb1); clear hb1; have hw1 := S2.out _ T1.out)
              try (refine hK _ _ ?_; clear hK K)
              refine any_head 2 (by kernel_rfl) rfl (fun K hK => ?_)
              go_simp
              refine hK _ _ ?_
              clear hK K
              refine any_head 3 (by kernel_rfl) rfl (fun K hK => ?_)
              go_simp
              refine hK _ _ ?_
              clear hK K
              refine any_head 4 (by kernel_rfl) rfl (fun K hK => ?_)
              go_simp
              refine hK _ _ ?_
              clear hK K
              refine any_head 5 (by kernel_rfl) rfl (fun K hK => ?_)
              go_simp
              refine hK _ _ ?_
              clear hK K
              refine any_head 6 (by kernel_rfl) rfl (fun K hK => ?_)
              go_simp
              go_wp2_with (go_at_call 65; refine (refPut_any _ hx2 _).mono ?_; rintro e w2 ⟨A2, c2, rfl, hr2, hb2⟩; have T2 := Lib.hid (S1.out _ _ T1.out hb2); clear hb2; have HR2 := Lib.hid hr2; clear hr2)
              try (refine hK _ _ ?_; clear hK K)
              obtain ⟨a2, T, f, n0, rfl, e0, ew, r2, r4, r5, r6⟩ := S3.out _ _ T2.out HR2.out
              have hne : Nonempty T := ⟨n0⟩
              have E0 := Lib.hid e0
              have EW := Lib.hid ew
              clear e0 ew
              refine quiet_mid7 f (by kernel_rfl) (by kernel_rfl) rfl n0 E0.out ?_
              repeat (go_big_quiet_step (fail))
              refine wpQuiet_nil ?_
              rintro _ ⟨m, rfl⟩
              go_wp2
              go_ret
              exact ⟨by rw [HPF.out]; rfl, (HB0.out _).trans ((EW.out _).mono (by simp))⟩
    · obtain rfl : i = n := by omega
      have hPT : pRight v l = true := by rw [HP.out, ← HN.out, HA.out]; simp [h1, h2, h3] <;> omega
      have HPT := Lib.hid hPT
      clear hPT
      have hd : decide ((i : Int) < i) = false := by simp
      go_wp2
      go_ret
      exact ⟨by rw [HPT.out]; rfl, HBW.out⟩
end Go.Proofs.YtmpemeemlhmaaaaGreat
