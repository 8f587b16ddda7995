/- Whether a pool is right: the document's way. -/
import Derived.Test.YtmpemeemlhmaaaaGreatQ11
import Derived.Test.YtmpemeemlhmaaaaGreatQ26
import Derived.Test.YtmpemeemlhmaaaaGreatQ34
import Derived.Test.YtmpemeemlhmaaaaGreatQ27
set_option linter.unusedSimpArgs false
set_option linter.unusedVariables false
set_option maxRecDepth 100000
namespace Go.Proofs.YtmpemeemlhmaaaaGreat
open Go.RowKit

set_option maxHeartbeats 4000000 in
set_option maxRecDepth 100000 in
theorem refRight_any (l : List Bk) (hf : ∀ x ∈ l, x.fine) (v : Int) (A : Option Addr) (c : Nat) (w : World) (hR : RdK w w.heap.size A l.length l) (hn : l.length < 4611686018427387904) :
    Calls Tryz.prog 21 #[.agg #[.int .i64 v, .slice A l.length c]] w fun e w' => e = .returned (.bool (pRight v l)) ∧ Below w.heap.size w w' := by
  have hb0 : ∀ ob, Below w.heap.size w (w.alloc ob) := fun ob => (Below.refl _ _).alloc (Nat.le_refl _) _
  have HB0 := Lib.hid hb0
  clear hb0
  have HR := Lib.hid hR
  have HF := Lib.hid hf
  clear hR hf
  have hp : pRight v l = (decide (0 ≤ v) && decide (v ≤ 1099511627776) && decide (l.length ≤ 1024) && (List.range l.length).all (okAt l)) := rfl
  have HP := Lib.hid hp
  clear hp
  by_cases h1 : 0 ≤ v
  rotate_left
  · have h1' : v < 0 := by omega
    go_enter Tryz.func21, Tryz.ntmps21
    go_wp2
    go_ret
    exact ⟨by rw [HP.out]; simp <;> intros <;> omega, HB0.out _⟩
  by_cases h2 : v ≤ 1099511627776
  rotate_left
  · go_enter Tryz.func21, Tryz.ntmps21
    go_wp2
    go_ret
    exact ⟨by rw [HP.out]; simp <;> intros <;> omega, HB0.out _⟩
  by_cases h3 : l.length ≤ 1024
  rotate_left
  · go_enter Tryz.func21, Tryz.ntmps21
    go_wp2
    go_ret
    exact ⟨by rw [HP.out]; simp <;> intros <;> omega, HB0.out _⟩
  obtain ⟨n, hnl⟩ : ∃ n, n = l.length := ⟨_, rfl⟩
  rw [← hnl] at HR hn h3 ⊢
  have HN := Lib.hid hnl
  clear hnl
  go_enter Tryz.func21, Tryz.ntmps21
  go_wp2
  go_loopw [3] (fun s3 wr => ∃ i : Nat, i ≤ n ∧ s3 = .int .i64 i ∧ (List.range i).all (okAt l) = true ∧ Below (w.heap.size + 1) (w.alloc (.cells #[.int .i64 v, .slice A n c] 24)) wr) (fun s3 _ => n - (intOf s3).toNat)
  case atStart => exact ⟨0, by omega, rfl, rfl, by simpa using Below.refl _ _⟩
  case round =>
    obtain ⟨i, hin, rfl, hall, hb⟩ := hrel
    have HA := Lib.hid hall
    have hB := (HB0.out (.cells #[.int .i64 v, .slice A n c] 24)).trans (hb.mono (by simp))
    have hcl : wr.cell? ⟨w.heap.size, 1, none⟩ = some (.slice A n c) := by
      rw [hb.cell (by simp)]
      go_simp
    have HB := Lib.hid hb
    have HBW := Lib.hid hB
    have hsz := hb.size
    clear hall hb hB
    by_cases hlt : i < n
    · have hi : (i : Int) < n := by omega
      have hR1 := HR.out.below HBW.out
      obtain ⟨b, o, rfl, hbb, hh, hc⟩ := hR1.at_ hlt
      have hbs : b < wr.heap.size := by simp at hsz; omega
      have hmem : l.getD i noBk ∈ l := by
        have := HN.out
        rw [List.getD_eq_getElem?_getD, List.getElem?_eq_getElem (by omega)]; simp
      obtain ⟨hx1, hx2⟩ := HF.out _ hmem
      have hok : okAt l i = ((l.getD i noBk).fair && wPos (l.getD i noBk).w && (decide (i = 0) || decide (cmpS (nm l (i - 1)) (nm l i) < 0))) := rfl
      have hnm : nm l i = (l.getD i noBk).name := rfl
      rw [hnm] at hok
      obtain ⟨x, hx⟩ : ∃ x, x = l.getD i noBk := ⟨_, rfl⟩
      rw [← hx] at hc hx1 hx2 hok
      have HOK := Lib.hid hok
      clear hx hok hnm hmem
      obtain ⟨K1, hK1⟩ : ∃ K, x.fair = K := ⟨_, rfl⟩
      have hn4 : wr.heap.size < (wr.alloc (.cells x.arr 60)).heap.size := by simp
      have HX1 := Lib.hid hx1
      have hS : ∀ b' o' pn, b' < wr.heap.size → wr.cell? ⟨b', o', none⟩ = some (.string (textOf pn)) → SR wr.heap.size x w.heap.size (.slice (some ⟨b, o, none⟩) n c) b' o' pn (wr.alloc (.cells x.arr 60)) := by
        intro b' o' pn h1 h2
        refine ⟨by simp, by simp at hsz ⊢; omega, by simp; omega, ?_, ?_, ?_, ?_, ?_, ?_⟩
        · rw [Has_bk_new]; trivial
        · exact cellsAt_bk_new _ _ _
        · rw [cell_new]; exact Bk.arr_0 x
        · rw [cell_new]; exact Bk.arr_25 x
        · rw [World.cell?_alloc_lt _ _ _ (by simp at hsz ⊢; omega)]; exact hcl
        · rw [World.cell?_alloc_lt _ _ _ (by simpa using h1)]; exact h2
      have hpn : ∃ pn, (0 < i → wr.cell? ⟨b, o + (i - 1) * 27, none⟩ = some (.string (textOf pn)) ∧ nm l (i - 1) = pn) := by
        refine ⟨nm l (i - 1), fun h0 => ⟨?_, rfl⟩⟩
        obtain ⟨b', o', hbo, _, hcc⟩ := hR1.cell (k := i - 1) (by omega)
        injection hbo with hbo
        injection hbo with e1 e2
        subst e1 e2
        have := hcc 0 (by omega)
        rw [Bk.arr_0] at this
        simpa [nm] using this
      have hn0 : wr.cell? ⟨b, o + i * 27, none⟩ = some (.string (textOf x.name)) := by
        have := hh 0 (by omega)
        obtain ⟨u, hu⟩ := this
        have hg := cellsAt_get wr b (o + i * 27) 27 0 (by omega)
        rw [hc, Bk.arr_0] at hg
        rw [hu] at hg
        simp at hg hu
        rw [hu, ← hg]
      have keyS : ∀ b' o' pn, b' < wr.heap.size → wr.cell? ⟨b', o', none⟩ = some (.string (textOf pn)) → ∃ (T : Type) (f : T → World) (n0 : T), f n0 = (wr.alloc (.cells x.arr 60)).drew ∧ (∀ m W1, Below (f m).heap.size (f m) W1 → ∃ m', W1 = f m') ∧ (∀ m, Below (w.heap.size + 1) (w.alloc (.cells #[.int .i64 v, .slice (some ⟨b, o, none⟩) n c] 24)) (f m)) ∧
          (∀ m, (loadBk (.pointer (some ⟨wr.heap.size, 0, none⟩))).run Tryz.prog (f m) = .ok (.agg x.arr) (f m)) ∧ (∀ m, (f m).cell? ⟨wr.heap.size, 0, none⟩ = some (.string (textOf x.name))) ∧ (∀ m, (f m).cell? ⟨wr.heap.size, 25, none⟩ = some (.float .f64 x.w)) ∧
            (∀ m, (f m).cell? ⟨w.heap.size, 1, none⟩ = some (.slice (some ⟨b, o, none⟩) n c)) ∧ (∀ m, (f m).cell? ⟨b', o', none⟩ = some (.string (textOf pn))) := by
        intro b' o' pn h1 h2
        obtain ⟨T, f, n0, e0, eS, eT⟩ := class_of (fun W => SR wr.heap.size x w.heap.size (.slice (some ⟨b, o, none⟩) n c) b' o' pn W ∧ Below (w.heap.size + 1) (w.alloc (.cells #[.int .i64 v, .slice (some ⟨b, o, none⟩) n c] 24)) W)
          (wr.alloc (.cells x.arr 60)) ⟨hS _ _ _ h1 h2, (HB.out.alloc (by simp at hsz; omega) _).drew⟩
        refine ⟨T, f, n0, e0, ?_, fun m => (eS m).2, fun m => (eS m).1.load, fun m => (eS m).1.2.2.2.2.2.1, fun m => (eS m).1.2.2.2.2.2.2.1, fun m => (eS m).1.2.2.2.2.2.2.2.1, fun m => (eS m).1.2.2.2.2.2.2.2.2⟩
        intro m W1 hb
        have := (eS m).2.size
        exact eT _ ⟨(eS m).1.below hb, (eS m).2.trans (hb.mono (by simpa using this))⟩
      have right_K : ∀ K, x.fair = K → ∀ W, Calls Tryz.prog 64 #[.agg x.arr] W fun e w' => e = .returned (.bool K) ∧ Below W.heap.size W w' := fun K h W => by
        have := fair_bk x W hx1 hx2
        rw [h] at this
        exact this
      have keyP : ∀ b' o' pn, b' < wr.heap.size → wr.cell? ⟨b', o', none⟩ = some (.string (textOf pn)) → ∃ S : World → Prop, S (wr.alloc (.cells x.arr 60)).drew ∧ (∀ W W1, S W → Below W.heap.size W W1 → S W1) ∧
          (∀ W, S W → W.cell? ⟨wr.heap.size, 25, none⟩ = some (.float .f64 x.w)) ∧
          (∀ (W : World) (A2 : Option Addr), S W → RdB W W.heap.size A2 8 (wPut x.w) → ∃ (a2 : Addr) (T : Type) (f : T → World) (n0 : T), A2 = some a2 ∧ f n0 = W ∧ (∀ m, Below (w.heap.size + 1) (w.alloc (.cells #[.int .i64 v, .slice (some ⟨b, o, none⟩) n c] 24)) (f m)) ∧
            (∀ m, (f m).cell? ⟨wr.heap.size, 0, none⟩ = some (.string (textOf x.name))) ∧
            (∀ m, (f m).cell? ⟨w.heap.size, 1, none⟩ = some (.slice (some ⟨b, o, none⟩) n c)) ∧ (∀ m, (f m).cell? ⟨b', o', none⟩ = some (.string (textOf pn))) ∧ (∀ m, (f m).cell? a2 = some (.int .u8 (((wPut x.w).getD 0 0).toNat : Nat)))) := by
        intro b' o' pn h1 h2
        refine ⟨fun W => SR wr.heap.size x w.heap.size (.slice (some ⟨b, o, none⟩) n c) b' o' pn W ∧ Below (w.heap.size + 1) (w.alloc (.cells #[.int .i64 v, .slice (some ⟨b, o, none⟩) n c] 24)) W, ?_, ?_, fun W h => h.1.2.2.2.2.2.2.1, ?_⟩
        · exact ⟨hS _ _ _ h1 h2, (HB.out.alloc (by simp at hsz; omega) _).drew⟩
        · intro W W1 h hb
          have := h.2.size
          exact ⟨h.1.below hb, h.2.trans (hb.mono (by simpa using this))⟩
        · intro W A2 h hr
          obtain ⟨a2, rfl, hab, hcell⟩ := hr.at_ (k := 0) (by omega)
          rw [add_zero_] at hcell
          obtain ⟨T, f, n0, e0, eS, eT⟩ := class_at (fun W => (SR wr.heap.size x w.heap.size (.slice (some ⟨b, o, none⟩) n c) b' o' pn W ∧ Below (w.heap.size + 1) (w.alloc (.cells #[.int .i64 v, .slice (some ⟨b, o, none⟩) n c] 24)) W) ∧ W.cell? a2 = some (bv ((wPut x.w).getD 0 0))) W ⟨h, hcell⟩
          exact ⟨a2, T, f, n0, rfl, e0, fun m => (eS m).1.2, fun m => (eS m).1.1.2.2.2.2.2.1, fun m => (eS m).1.1.2.2.2.2.2.2.2.1, fun m => (eS m).1.1.2.2.2.2.2.2.2.2, fun m => (eS m).2⟩
      cases K1
      · have hno : okAt l i = false := by rw [HOK.out, hK1]; rfl
        have hno2 := range_all_false (okAt l) i n hlt hno
        have hPF : pRight v l = false := by rw [HP.out, ← HN.out, hno2]; simp
        have HPF := Lib.hid hPF
        have HRI := Lib.hid (right_K _ hK1)
        clear hK1 hpn hno hno2 hPF right_K
        obtain ⟨T, f, n0, e0, es, ew, r1, r2, r3, r4, r5⟩ := keyS _ _ _ hbs hn0
        have hne : Nonempty T := ⟨n0⟩
        have E0 := Lib.hid e0
        have ES := Lib.hid es
        have EW := Lib.hid ew
        clear hS keyS e0 es ew
        go_upto_region 7 with fail
        refine quiet_in f (by kernel_rfl) (by kernel_rfl) n0 E0.out ?_
        repeat (go_big_quiet_step ((first
          | (go_at_call 64; refine (HRI.out _).mono ?_; rintro e w1 ⟨rfl, hb1⟩; exact ⟨rfl, ES.out _ _ hb1⟩))))
        refine wpQuiet_nil ?_
        rintro _ ⟨m, rfl⟩
        go_wp2
        go_ret
        exact ⟨by rw [HPF.out]; rfl, (HB0.out _).trans ((EW.out _).mono (by simp))⟩
      · have hfb : decide (128 ≤ ((wPut x.w).getD 0 0).toNat) = !wPos x.w := firstByte (by
          unfold Bk.fair at hK1
          simp only [Bool.and_eq_true] at hK1
          exact hK1.2)
        obtain ⟨nb, hnb⟩ : ∃ nb, nb = ((wPut x.w).getD 0 0).toNat := ⟨_, rfl⟩
        rw [← hnb] at hfb keyP
        clear hnb
        cases hK2 : wPos x.w
        · have h128 : (128 : Int) ≤ nb := by
            rw [hK2] at hfb
            simp at hfb
            omega
          have hno : okAt l i = false := by rw [HOK.out, hK2]; simp
          have hno2 := range_all_false (okAt l) i n hlt hno
          have hPF : pRight v l = false := by rw [HP.out, ← HN.out, hno2]; simp
          have HPF := Lib.hid hPF
          have HRI := Lib.hid (right_K _ hK1)
          clear hK1 hK2 hpn hno hno2 hPF right_K hfb
          obtain ⟨S, s0, s1, s2, s3⟩ := keyP _ _ _ hbs hn0
          have S0 := Lib.hid s0
          have S1 := Lib.hid s1
          have S2 := Lib.hid s2
          have S3 := Lib.hid s3
          clear hS keyS keyP s0 s1 s2 s3
          go_upto_region 7 with fail
          refine wp_region_any (by kernel_rfl) ?_
          change wpAny _ _ _ _ _ _ _ (World.drew _)
          refine any_head 0 (by kernel_rfl) rfl (fun K hK => ?_)
          go_simp
          refine hK _ _ ?_
          clear hK K
          refine any_head 1 (by kernel_rfl) rfl (fun K hK => ?_)
          go_simp
          go_wp2_with (go_at_call 64; refine (HRI.out _).mono ?_; rintro e w1 ⟨rfl, hb1⟩; have T1 := Lib.hid (S1.out _ _ S0.out hb1); clear hb1; have hw1 := S2.out _ T1.out)
          try (refine hK _ _ ?_; clear hK K)
          refine any_head 2 (by kernel_rfl) rfl (fun K hK => ?_)
          go_simp
          refine hK _ _ ?_
          clear hK K
          refine any_head 3 (by kernel_rfl) rfl (fun K hK => ?_)
          go_simp
          refine hK _ _ ?_
          clear hK K
          refine any_head 4 (by kernel_rfl) rfl (fun K hK => ?_)
          go_simp
          refine hK _ _ ?_
          clear hK K
          refine any_head 5 (by kernel_rfl) rfl (fun K hK => ?_)
          go_simp
          refine hK _ _ ?_
          clear hK K
          refine any_head 6 (by kernel_rfl) rfl (fun K hK => ?_)
          go_simp
          go_wp2_with (go_at_call 65; refine (refPut_any _ hx2 _).mono ?_; rintro e w2 ⟨A2, c2, rfl, hr2, hb2⟩; have T2 := Lib.hid (S1.out _ _ T1.out hb2); clear hb2; have HR2 := Lib.hid hr2; clear hr2)
          try (refine hK _ _ ?_; clear hK K)
          obtain ⟨a2, T, f, n0, rfl, e0, ew, r2, r4, r5, r6⟩ := S3.out _ _ T2.out HR2.out
          have hne : Nonempty T := ⟨n0⟩
          have E0 := Lib.hid e0
          have EW := Lib.hid ew
          clear e0 ew
          refine quiet_mid7 f (by kernel_rfl) (by kernel_rfl) rfl n0 E0.out ?_
          repeat (go_big_quiet_step (fail))
          refine wpQuiet_nil ?_
          rintro _ ⟨m, rfl⟩
          go_wp2
          go_ret
          exact ⟨by rw [HPF.out]; rfl, (HB0.out _).trans ((EW.out _).mono (by simp))⟩
        · have h128 : decide ((128 : Int) ≤ nb) = false := by
            rw [hK2] at hfb
            simp at hfb ⊢
            omega
          rcases i with _ | i
          · simp only [Nat.zero_mul, Nat.add_zero] at hh hc hn0
            have hyes : (List.range (0 + 1)).all (okAt l) = (List.range 0).all (okAt l) := by
              rw [range_all_succ, HOK.out, hK1, hK2]; simp
            have HY := Lib.hid hyes
            have HRI := Lib.hid (right_K _ hK1)
            clear hK1 hK2 hpn hyes right_K hfb
            obtain ⟨S, s0, s1, s2, s3⟩ := keyP _ _ _ hbs hn0
            have S0 := Lib.hid s0
            have S1 := Lib.hid s1
            have S2 := Lib.hid s2
            have S3 := Lib.hid s3
            clear hS keyS keyP s0 s1 s2 s3
            go_upto_region 7 with fail
            refine wp_region_any (by kernel_rfl) ?_
            change wpAny _ _ _ _ _ _ _ (World.drew _)
            refine any_head 0 (by kernel_rfl) rfl (fun K hK => ?_)
            go_simp
            refine hK _ _ ?_
            clear hK K
            refine any_head 1 (by kernel_rfl) rfl (fun K hK => ?_)
            go_simp
            go_wp2_with (go_at_call 64; refine (HRI.out _).mono ?_; rintro e w1 ⟨rfl, hb1⟩; have T1 := Lib.hid (S1.out _ _ S0.out hb1); clear hb1; have hw1 := S2.out _ T1.out)
            try (refine hK _ _ ?_; clear hK K)
            refine any_head 2 (by kernel_rfl) rfl (fun K hK => ?_)
            go_simp
            refine hK _ _ ?_
            clear hK K
            refine any_head 3 (by kernel_rfl) rfl (fun K hK => ?_)
            go_simp
            refine hK _ _ ?_
            clear hK K
            refine any_head 4 (by kernel_rfl) rfl (fun K hK => ?_)
            go_simp
            refine hK _ _ ?_
            clear hK K
            refine any_head 5 (by kernel_rfl) rfl (fun K hK => ?_)
            go_simp
            refine hK _ _ ?_
            clear hK K
            refine any_head 6 (by kernel_rfl) rfl (fun K hK => ?_)
            go_simp
            go_wp2_with (go_at_call 65; refine (refPut_any _ hx2 _).mono ?_; rintro e w2 ⟨A2, c2, rfl, hr2, hb2⟩; have T2 := Lib.hid (S1.out _ _ T1.out hb2); clear hb2; have HR2 := Lib.hid hr2; clear hr2)
            try (refine hK _ _ ?_; clear hK K)
            obtain ⟨a2, T, f, n0, rfl, e0, ew, r2, r4, r5, r6⟩ := S3.out _ _ T2.out HR2.out
            have hne : Nonempty T := ⟨n0⟩
            have E0 := Lib.hid e0
            have EW := Lib.hid ew
            clear e0 ew
            refine quiet_mid7 f (by kernel_rfl) (by kernel_rfl) rfl n0 E0.out ?_
            repeat (go_big_quiet_step (fail))
            refine wpQuiet_nil ?_
            rintro _ ⟨m, rfl⟩
            go_wp2
            go_roundw
            case rel => exact ⟨0 + 1, by omega, by go_num, by rw [HY.out]; exact HA.out, EW.out _⟩
            case measure => simp [intOf] <;> omega
          · obtain ⟨pn, hpn⟩ := hpn
            obtain ⟨hp1, hp2⟩ := hpn (by omega)
            clear hpn
            simp only [Nat.add_sub_cancel] at hp1 hp2
            have hok2 : okAt l (i + 1) = (x.fair && wPos x.w && (decide (i + 1 = 0) || decide (cmpS pn x.name < 0))) := by rw [HOK.out, Nat.add_sub_cancel, hp2]
            have hbl := bytesLess_is pn x.name
            by_cases ht : cmpS pn x.name < 0
            · have hbt : Op.bytesLess pn x.name = true := by rw [hbl]; simpa using ht
              have hyes : (List.range (i + 1 + 1)).all (okAt l) = (List.range (i + 1)).all (okAt l) := by
                rw [range_all_succ, hok2, hK1, hK2]; simp [ht]
              have HY := Lib.hid hyes
              have HRI := Lib.hid (right_K _ hK1)
              clear hK1 hK2 hyes right_K hok2 hbl hp2 ht hfb
              obtain ⟨S, s0, s1, s2, s3⟩ := keyP _ _ _ hbs hp1
              have S0 := Lib.hid s0
              have S1 := Lib.hid s1
              have S2 := Lib.hid s2
              have S3 := Lib.hid s3
              clear hS keyS keyP s0 s1 s2 s3
              go_upto_region 7 with fail
              refine wp_region_any (by kernel_rfl) ?_
              change wpAny _ _ _ _ _ _ _ (World.drew _)
              refine any_head 0 (by kernel_rfl) rfl (fun K hK => ?_)
              go_simp
              refine hK _ _ ?_
              clear hK K
              refine any_head 1 (by kernel_rfl) rfl (fun K hK => ?_)
              go_simp
              go_wp2_with (go_at_call 64; refine (HRI.out _).mono ?_; rintro e w1 ⟨rfl, hb1⟩; have T1 := Lib.hid (S1.out _ _ S0.out hb1); clear hb1; have hw1 := S2.out _ T1.out)
              try (refine hK _ _ ?_; clear hK K)
              refine any_head 2 (by kernel_rfl) rfl (fun K hK => ?_)
              go_simp
              refine hK _ _ ?_
              clear hK K
              refine any_head 3 (by kernel_rfl) rfl (fun K hK => ?_)
              go_simp
              refine hK _ _ ?_
              clear hK K
              refine any_head 4 (by kernel_rfl) rfl (fun K hK => ?_)
              go_simp
              refine hK _ _ ?_
              clear hK K
              refine any_head 5 (by kernel_rfl) rfl (fun K hK => ?_)
              go_simp
              refine hK _ _ ?_
              clear hK K
              refine any_head 6 (by kernel_rfl) rfl (fun K hK => ?_)
              go_simp
              go_wp2_with (go_at_call 65; refine (refPut_any _ hx2 _).mono ?_; rintro e w2 ⟨A2, c2, rfl, hr2, hb2⟩; have T2 := Lib.hid (S1.out _ _ T1.out hb2); clear hb2; have HR2 := Lib.hid hr2; clear hr2)
              try (refine hK _ _ ?_; clear hK K)
              obtain ⟨a2, T, f, n0, rfl, e0, ew, r2, r4, r5, r6⟩ := S3.out _ _ T2.out HR2.out
              have hne : Nonempty T := ⟨n0⟩
              have E0 := Lib.hid e0
              have EW := Lib.hid ew
              clear e0 ew
              refine quiet_mid7 f (by kernel_rfl) (by kernel_rfl) rfl n0 E0.out ?_
              repeat (go_big_quiet_step (fail))
              refine wpQuiet_nil ?_
              rintro _ ⟨m, rfl⟩
              go_wp2
              go_roundw
              case rel => exact ⟨i + 1 + 1, by omega, by go_num, by rw [HY.out]; exact HA.out, EW.out _⟩
              case measure => simp [intOf] <;> omega
            · have hbt : Op.bytesLess pn x.name = false := by rw [hbl]; simpa using ht
              have hno : okAt l (i + 1) = false := by rw [hok2]; simp [ht]
              have hno2 := range_all_false (okAt l) (i + 1) n hlt hno
              have hPF : pRight v l = false := by rw [HP.out, ← HN.out, hno2]; simp
              have HPF := Lib.hid hPF
              have HRI := Lib.hid (right_K _ hK1)
              clear hK1 hK2 hno hno2 hPF right_K hok2 hbl hp2 ht hfb
              obtain ⟨S, s0, s1, s2, s3⟩ := keyP _ _ _ hbs hp1
              have S0 := Lib.hid s0
              have S1 := Lib.hid s1
              have S2 := Lib.hid s2
              have S3 := Lib.hid s3
              clear hS keyS keyP s0 s1 s2 s3
              go_upto_region 7 with fail
              refine wp_region_any (by kernel_rfl) ?_
              change wpAny _ _ _ _ _ _ _ (World.drew _)
              refine any_head 0 (by kernel_rfl) rfl (fun K hK => ?_)
              go_simp
              refine hK _ _ ?_
              clear hK K
              refine any_head 1 (by kernel_rfl) rfl (fun K hK => ?_)
              go_simp
              go_wp2_with (go_at_call 64; refine (HRI.out _).mono ?_; rintro e w1 ⟨rfl, hb1⟩; have T1 := Lib.hid (S1.out _ _ S0.out hb1); clear hb1; have hw1 := S2.out _ T1.out)
              try (refine hK _ _ ?_; clear hK K)
              refine any_head 2 (by kernel_rfl) rfl (fun K hK => ?_)
              go_simp
              refine hK _ _ ?_
              clear hK K
              refine any_head 3 (by kernel_rfl) rfl (fun K hK => ?_)
              go_simp
              refine hK _ _ ?_
              clear hK K
              refine any_head 4 (by kernel_rfl) rfl (fun K hK => ?_)
              go_simp
              refine hK _ _ ?_
              clear hK K
              refine any_head 5 (by kernel_rfl) rfl (fun K hK => ?_)
              go_simp
              refine hK _ _ ?_
              clear hK K
              refine any_head 6 (by kernel_rfl) rfl (fun K hK => ?_)
              go_simp
              go_wp2_with (go_at_call 65; refine (refPut_any _ hx2 _).mono ?_; rintro e w2 ⟨A2, c2, rfl, hr2, hb2⟩; have T2 := Lib.hid (S1.out _ _ T1.out hb2); clear hb2; have HR2 := Lib.hid hr2; clear hr2)
              try (refine hK _ _ ?_; clear hK K)
              obtain ⟨a2, T, f, n0, rfl, e0, ew, r2, r4, r5, r6⟩ := S3.out _ _ T2.out HR2.out
              have hne : Nonempty T := ⟨n0⟩
              have E0 := Lib.hid e0
              have EW := Lib.hid ew
              clear e0 ew
              refine quiet_mid7 f (by kernel_rfl) (by kernel_rfl) rfl n0 E0.out ?_
              repeat (go_big_quiet_step (fail))
              refine wpQuiet_nil ?_
              rintro _ ⟨m, rfl⟩
              go_wp2
              go_ret
              exact ⟨by rw [HPF.out]; rfl, (HB0.out _).trans ((EW.out _).mono (by simp))⟩
    · obtain rfl : i = n := by omega
      have hPT : pRight v l = true := by rw [HP.out, ← HN.out, HA.out]; simp [h1, h2, h3] <;> omega
      have HPT := Lib.hid hPT
      clear hPT
      have hd : decide ((i : Int) < i) = false := by simp
      go_wp2
      go_ret
      exact ⟨by rw [HPT.out]; rfl, HBW.out⟩
end Go.Proofs.YtmpemeemlhmaaaaGreat

namespace Go.Proofs.YtmpemeemlhmaaaaGreat
open Go.RowKit

def doV (v : Int) (l : List Bk) (o : Opr) : Int := if whyNot v l o = 0 then v + 1 else v
def doL (v : Int) (l : List Bk) (o : Opr) : List Bk := if whyNot v l o = 0 then doneTo l o else l
theorem do_any (l : List Bk) (hs : Srt l) (v : Int) (hv : -9223372036854775808 ≤ v ∧ v < 9223372036854775807) (o : Opr) (hf : o.bk.fine) (hw : o.w < 18446744073709551616) (A : Option Addr) (c : Nat) (w : World) (hR : RdK w w.heap.size A l.length l) (hn : l.length ≤ 100000) :
    Calls Tryz.prog 27 #[.agg #[.int .i64 v, .slice A l.length c], .agg o.arr] w (PoolP w (doV v l o) (doL v l o) (whyNot v l o)) := by
  by_cases h : whyNot v l o = 0
  · have hV : doV v l o = v + 1 := by simp [doV, h]
    have hL : doL v l o = doneTo l o := by simp [doL, h]
    rw [hV, hL, h]
    obtain ⟨k1, k2, k3, k4, k5, k6⟩ := why_ok h
    unfold doneTo
    by_cases h1 : o.kind = 1
    · rw [if_pos h1]
      exact do_add l hs v hv o hf hw h h1 A c w hR hn
    · rw [if_neg h1]
      by_cases h2 : o.kind = 2
      · rw [if_pos h2]
        exact do_del l hs v hv o hf hw h h2 (k6 h1) A c w hR hn
      · rw [if_neg h2]
        by_cases h3 : o.kind = 3
        · rw [if_pos h3]
          exact do_weight l hs v hv o hf hw h h3 (k6 h1) A c w hR hn
        · rw [if_neg h3]
          by_cases h4 : o.kind = 4
          · rw [show (o.kind == 4) = true by simpa using h4]
            exact do_drain l hs v hv o hf hw h h4 (k6 h1) A c w hR hn
          · rw [show (o.kind == 4) = false by simpa using h4]
            exact do_back l hs v hv o hf hw h (by omega) (k6 h1) A c w hR hn
  · have hV : doV v l o = v := by simp [doV, h]
    have hL : doL v l o = l := by simp [doL, h]
    rw [hV, hL]
    exact do_not l hs v o hf hw h A c w hR hn
end Go.Proofs.YtmpemeemlhmaaaaGreat

namespace Go.Proofs.YtmpemeemlhmaaaaGreat
open Go.RowKit

def oAt (l : List Opr) (i : Nat) : Opr := l.getD i noOp
theorem RdO.cell {w : World} {B n : Nat} {A : Option Addr} {l : List Opr} {k : Nat} (h : RdO w B A n l) (hk : k < n) : ∃ b o, A = some ⟨b, o, none⟩ ∧ b < B ∧ ∀ j, j < 30 → w.cell? ⟨b, o + k * 30 + j, none⟩ = (oAt l k).arr[j]? := by
  obtain ⟨h1, h2, h3⟩ := h
  obtain ⟨a, hA, hb, hc⟩ := h2.2 (by omega)
  have := h3 a hA (by omega)
  refine ⟨a.block, a.off, by rw [hA, ← this], hb, fun j hj => ?_⟩
  have hg := flatMap_get Opr.arr 30 Opr.arr_size l k j (by omega) hj
  have he : oAt l k = l[k]'(by omega) := by rw [oAt, List.getD_eq_getElem?_getD, List.getElem?_eq_getElem (by omega)]; rfl
  have hs : ((oAt l k).arr)[j]? = some ((oAt l k).arr[j]'(by rw [Opr.arr_size]; exact hj)) := Array.getElem?_eq_getElem _
  rw [← he, hs] at hg
  rw [hs]
  have := hc _ _ hg
  rw [h3 a hA (by omega), Addr.add_mid] at this
  rw [← this, Nat.add_assoc]
theorem RdO.to {w w' : World} {B n C : Nat} {A : Option Addr} {l : List Opr} (h : RdO w B A n l) (hb : Below C w w') (hC : B ≤ C) : RdO w' B A n l := ⟨h.1, Rd.to h.2.1 hb hC, h.2.2⟩
theorem RdO.below {w w' : World} {B n : Nat} {A : Option Addr} {l : List Opr} (h : RdO w B A n l) (hb : Below B w w') : RdO w' B A n l := h.to hb (Nat.le_refl _)
theorem RdO.more {w : World} {B B' n : Nat} {A : Option Addr} {l : List Opr} (h : RdO w B A n l) (hB : B ≤ B') : RdO w B' A n l := ⟨h.1, Rd.more h.2.1 hB, h.2.2⟩
theorem RdO.one (w : World) (o : Opr) (t : TypeId) : RdO (w.alloc (.cells o.arr t)) (w.alloc (.cells o.arr t)).heap.size (some ⟨w.heap.size, 0, none⟩) 1 [o] :=
  ⟨rfl, ⟨by simp [cellsOp, Opr.arr_size], fun _ => ⟨_, rfl, by simp, by rw [show cellsOp [o] = o.arr.toList by simp [cellsOp]]; exact src_row _ _ _ _ _ (heap_alloc_new w _)⟩⟩, fun a h _ => by injection h with h; rw [← h]⟩
def opShort (o : Opr) : Bool := decide (o.name.length ≤ 60) && decide (o.bk.name.length ≤ 60)
def fewOps (l : List Opr) : Bool := (List.range (min l.length 100)).all (fun i => opShort (oAt l i)) && decide (l.length ≤ 60)
set_option maxRecDepth 100000 in
theorem fewOps_any (l : List Opr) (A : Option Addr) (c : Nat) (w : World) (hR : RdO w w.heap.size A l.length l) (hn : l.length ≤ 9223372036854775807) :
    Calls Tryz.prog 26 #[.slice A l.length c] w fun e w' => e = .returned (.bool (fewOps l)) ∧ w = w' := by
  have HR := Lib.hid hR
  clear hR
  have hfew : fewOps l = ((List.range (min l.length 100)).all (fun i => opShort (oAt l i)) && decide (l.length ≤ 60)) := rfl
  have HFW := Lib.hid hfew
  clear hfew
  obtain ⟨n, hnl⟩ : ∃ n, n = l.length := ⟨_, rfl⟩
  rw [← hnl] at HR hn HFW ⊢
  clear hnl
  go_enter Tryz.func26, Tryz.ntmps26
  go_wp2
  go_loop [3] (fun s3 => ∃ i : Nat, i ≤ n ∧ i ≤ 100 ∧ s3 = .int .i64 i ∧ ∀ k, k < i → opShort (oAt l k) = true) (fun s3 => n - (intOf s3).toNat)
  case atStart => exact ⟨0, by omega, by omega, rfl, fun k hk => by omega⟩
  case round =>
    obtain ⟨i, hin, hi60, rfl, hall⟩ := hrel
    have HA := Lib.hid hall
    clear hall
    by_cases hlt : i < n
    · have hi : (i : Int) < n := by omega
      by_cases h6 : i < 100
      · have hi6 : (i : Int) < 100 := by omega
        obtain ⟨b, o, rfl, hbb, hc⟩ := HR.out.cell hlt
        have hc1 := hc 28 (by omega)
        have hc2 := hc 1 (by omega)
        rw [Opr.arr_28] at hc1
        rw [Opr.arr_1] at hc2
        clear hbb hc
        have hop : opShort (oAt l i) = (decide ((oAt l i).name.length ≤ 60) && decide ((oAt l i).bk.name.length ≤ 60)) := rfl
        obtain ⟨p1, hp1⟩ : ∃ p, p = (oAt l i).name := ⟨_, rfl⟩
        obtain ⟨p2, hp2⟩ : ∃ p, p = (oAt l i).bk.name := ⟨_, rfl⟩
        rw [← hp1] at hc1 hop
        rw [← hp2] at hc2 hop
        have HOP := Lib.hid hop
        clear hp1 hp2 hop
        have hno : opShort (oAt l i) = false → fewOps l = false := fun h => by
          rw [HFW.out, range_all_false0 _ i _ (by omega) h]; rfl
        have HNO := Lib.hid hno
        clear hno
        by_cases hq1 : p1.length ≤ 60
        · by_cases hq2 : p2.length ≤ 60
          · have g1 : decide ((60 : Int) < p1.length) = false := by simp; omega
            have g2 : decide ((60 : Int) < p2.length) = false := by simp; omega
            go_wp2
            go_round
            case rel => exact ⟨i + 1, by omega, by omega, by go_num, fun k hk => by
              by_cases hki : k = i
              · rw [hki, HOP.out]; simp [hq1, hq2]
              · exact HA.out k (by omega)⟩
            case measure => simp [intOf] <;> omega
          · have g1 : decide ((60 : Int) < p1.length) = false := by simp; omega
            have g2 : (60 : Int) < p2.length := by omega
            have hf := HNO.out (by rw [HOP.out]; simp [hq2])
            have HF := Lib.hid hf
            clear hf hq2
            go_wp2
            go_ret
            exact ⟨by rw [HF.out]; rfl, rfl⟩
        · have g1 : (60 : Int) < p1.length := by omega
          have hf := HNO.out (by rw [HOP.out]; simp [hq1])
          have HF := Lib.hid hf
          clear hf hq1
          go_wp2
          go_ret
          exact ⟨by rw [HF.out]; rfl, rfl⟩
      · have hd : decide ((i : Int) < 100) = false := by simp; omega
        have hfw : fewOps l = decide ((n : Int) ≤ 60) := by
          have h40 : ¬ n ≤ 60 := by omega
          rw [HFW.out]
          simp [h40]
          omega
        have HF := Lib.hid hfw
        clear hfw
        go_wp2
        go_ret
        exact ⟨by rw [HF.out]; rfl, rfl⟩
    · obtain rfl : i = n := by omega
      have hd : decide ((i : Int) < i) = false := by simp
      have hfw : fewOps l = decide ((i : Int) ≤ 60) := by
        rw [HFW.out]
        have : (List.range (min i 100)).all (fun i => opShort (oAt l i)) = true := by
          rw [List.all_eq_true]
          intro k hk
          have := List.mem_range.1 hk
          exact HA.out k (by omega)
        rw [this, Bool.true_and, decide_eq_decide]
        omega
      have HF := Lib.hid hfw
      clear hfw
      go_wp2
      go_ret
      exact ⟨by rw [HF.out]; rfl, rfl⟩
end Go.Proofs.YtmpemeemlhmaaaaGreat

namespace Go.Proofs.YtmpemeemlhmaaaaGreat
open Go.RowKit

theorem done_srt {v : Int} {l : List Bk} (hs : Srt l) (o : Opr) : Srt (doL v l o) := by
  unfold doL
  split
  · rename_i h
    obtain ⟨_, _, _, h1, _, h6⟩ := why_ok h
    unfold doneTo
    split
    · rename_i hk
      exact srt_ins (x := o.bk.toW (wPlain o.bk.w)) hs (h1 hk).2.1
    · rename_i hk
      have hh := h6 hk
      split
      · exact srt_del hs _
      · split
        · exact srt_set hs (lowN_lt hh) (by rw [nm_low hh]; exact (gotN_in hh).2)
        · exact srt_set hs (lowN_lt hh) (by rw [nm_low hh]; exact (gotN_in hh).2)
  · exact hs
theorem done_len {v : Int} {l : List Bk} (o : Opr) : (doL v l o).length = if whyNot v l o = 0 ∧ o.kind = 1 then l.length + 1 else if whyNot v l o = 0 ∧ o.kind = 2 then l.length - 1 else l.length := by
  unfold doL
  by_cases h : whyNot v l o = 0
  · obtain ⟨_, _, _, h1, _, h6⟩ := why_ok h
    simp only [h, true_and, if_true]
    unfold doneTo
    by_cases h1 : o.kind = 1
    · simp only [h1, if_true]; exact insAt_length _ _ _
    · simp only [h1, if_false]
      by_cases h2 : o.kind = 2
      · simp only [h2, if_true]; exact delAt_length _ _ (lowN_lt (h6 h1))
      · simp only [h2, if_false]
        split <;> exact List.length_set
  · simp [h]
theorem done_other {v : Int} {l : List Bk} (hs : Srt l) (o : Opr) {x : Bk} (hx : x ∈ l) (hn : x.name ≠ o.who) : x ∈ doL v l o := by
  unfold doL
  split
  · rename_i h
    obtain ⟨_, _, _, h1, _, h6⟩ := why_ok h
    unfold doneTo
    split
    · exact mem_ins.2 (.inr hx)
    · rename_i hk
      have hh := h6 hk
      have hw : o.who = o.name := by simp [Opr.who, hk]
      rw [hw] at hn
      split
      · exact (mem_del hs (lowN_lt hh)).2 ⟨hx, by rw [nm_low hh]; exact hn⟩
      · split
        · exact (mem_set hs (lowN_lt hh) (by rw [nm_low hh]; exact (gotN_in hh).2)).2 (.inr ⟨hx, by rw [nm_low hh]; exact hn⟩)
        · exact (mem_set hs (lowN_lt hh) (by rw [nm_low hh]; exact (gotN_in hh).2)).2 (.inr ⟨hx, by rw [nm_low hh]; exact hn⟩)
  · exact hx
theorem RdO.up {w : World} {A : Option Addr} {n : Nat} {l : List Opr} (h : RdO w w.heap.size A n l) (ob : Obj) : RdO (w.alloc ob) (w.alloc ob).heap.size A n l := (h.to ((Below.refl _ _).alloc (Nat.le_refl _) ob) (Nat.le_refl _)).more (by simp)
theorem RdO.go {W w1 : World} {A : Option Addr} {n : Nat} {l : List Opr} (h : RdO W W.heap.size A n l) (hb : Below W.heap.size W w1) : RdO w1 w1.heap.size A n l := (h.below hb).more hb.size
theorem below_more {w W w1 : World} (h : Below w.heap.size w W) (hb : Below W.heap.size W w1) : Below w.heap.size w w1 := below2 h hb
/-- an op lies at a place -/
def OpAt (W : World) (b oo : Nat) (o : Opr) : Prop := b < W.heap.size ∧ ∀ j, j < 30 → W.cell? ⟨b, oo + j, none⟩ = o.arr[j]?
theorem OpAt.go {W w1 : World} {b oo : Nat} {o : Opr} (h : OpAt W b oo o) (hb : Below W.heap.size W w1) : OpAt w1 b oo o :=
  ⟨Nat.lt_of_lt_of_le h.1 hb.size, fun j hj => (hb.cell (p := ⟨b, oo + j, none⟩) h.1).trans (h.2 j hj)⟩
theorem OpAt.facts {W : World} {b oo : Nat} {o : Opr} (h : OpAt W b oo o) :
    W.cell? ⟨b, oo, none⟩ = some (.int .i64 o.kind) ∧ W.cell? ⟨b, oo + 1, none⟩ = some (.string (textOf o.bk.name)) ∧ W.cell? ⟨b, oo + 28, none⟩ = some (.string (textOf o.name)) ∧ W.cell? ⟨b, oo + 29, none⟩ = some (.float .f64 o.w) ∧
    Has W b oo 30 ∧ cellsAt W b oo 30 = o.arr ∧ Has W b (oo + 1) 27 ∧ cellsAt W b (oo + 1) 27 = o.bk.arr := by
  obtain ⟨hb, h⟩ := h
  have h0 := h 0 (by omega)
  have h1 := h 1 (by omega)
  have h2 := h 28 (by omega)
  have h3 := h 29 (by omega)
  rw [Opr.arr_0] at h0
  rw [Opr.arr_1] at h1
  rw [Opr.arr_28] at h2
  rw [Opr.arr_29] at h3
  obtain ⟨a1, a2⟩ := cellsAt_eq (c := o.arr) (Opr.arr_size o) h
  obtain ⟨b1, b2⟩ := cellsAt_eq (W := W) (b := b) (o := oo + 1) (n := 27) (c := o.bk.arr) (Bk.arr_size _) (fun j hj => by
    rw [← Opr.arr_bk o j hj, ← h (j + 1) (by omega)]; congr 2; omega)
  exact ⟨h0, h1, h2, h3, a1, a2, b1, b2⟩
theorem RdK.setOther {w : World} {A : Option Addr} {n : Nat} {l : List Bk} (h : RdK w w.heap.size A n l) {p : Addr} (u : Value) (hp : ∀ a, A = some a → p.block < a.block) : RdK (w.setCell p u) (w.setCell p u).heap.size A n l := by
  obtain ⟨h1, h2, h3⟩ := h
  refine ⟨h1, ⟨h2.1, fun hn => ?_⟩, h3⟩
  obtain ⟨a, e, hb, hc⟩ := h2.2 hn
  refine ⟨a, e, by simpa [World.setCell] using hb, fun j u' hu => ?_⟩
  rw [World.cell?_setCell_other _ _ _ _ (fun e2 => by have := hp a e; rw [e2, add_block] at this; omega)]
  exact hc j u' hu
/-- a pool is answered, in memory of the call's own -/
def PoolD (w : World) (v : Int) (n : Nat) (l : List Bk) (er : Int) (e : Ending) (w' : World) : Prop :=
  ∃ A c, e = .returned (.tuple #[.agg #[.int .i64 v, .slice A n c], .int .i64 er]) ∧ RdK w' w'.heap.size A n l ∧ (∀ a, A = some a → w.heap.size ≤ a.block) ∧ Below w.heap.size w w'
theorem doD_any (l : List Bk) (hs : Srt l) (v : Int) (hv : -9223372036854775808 ≤ v ∧ v < 9223372036854775807) (o : Opr) (hf : o.bk.fine) (hw : o.w < 18446744073709551616) (A : Option Addr) (n c : Nat) (w : World) (hR : RdK w w.heap.size A n l) (hn : l.length ≤ 100000) (v' : Int) (l' : List Bk) (n' : Nat) (er : Int)
    (h1 : doV v l o = v') (h2 : doL v l o = l') (h3 : l'.length = n') (h4 : whyNot v l o = er) :
    Calls Tryz.prog 27 #[.agg #[.int .i64 v, .slice A n c], .agg o.arr] w (PoolD w v' n' l' er) := by
  subst h1 h2 h3 h4
  obtain rfl := hR.1
  refine (do_any l hs v hv o hf hw A c w hR hn).mono fun e w' h => ?_
  obtain ⟨A', c', he, ho, hb⟩ := h
  refine ⟨A', c', he, own_reads ho, fun a ha => ?_, hb⟩
  have := (ho.lt a.block (by rw [ha]; rfl)).1
  exact this
theorem plain_or (x : Nat) : wPlain x = 0 ∨ wPlain x = x := by unfold wPlain; split <;> simp
theorem plain_ok {x : Nat} (h : wOk x = true) : wOk (wPlain x) = true := by
  rcases plain_or x with h1 | h1 <;> rw [h1]
  · decide +kernel
  · exact h
theorem plain_lt {x : Nat} (h : x < 18446744073709551616) : wPlain x < 18446744073709551616 := by
  rcases plain_or x with h1 | h1 <;> rw [h1]
  · decide
  · exact h
theorem plain_plain (x : Nat) : wPlain (wPlain x) = wPlain x := by
  unfold wPlain
  by_cases h : (ord x 0 == some .eq) = true
  · simp only [h, if_true]
    split <;> rfl
  · simp only [h]
    simp [h]
theorem plain_pos (x : Nat) : wPos (wPlain x) = true := by unfold wPos; rw [plain_plain]; exact same_refl _
theorem put_plain {x : Nat} (h : wPos x = true) : wPut x = wPut (wPlain x) := by
  unfold wPos wSame at h
  simp only [beq_iff_eq] at h
  simp only [wPut, h]
theorem fair_toW {x : Bk} {u : Nat} (h : x.fair = true) (hu : wOk u = true) : (x.toW u).fair = true := by
  unfold Bk.fair at h ⊢
  simp only [Bool.and_eq_true] at h ⊢
  exact ⟨⟨⟨⟨h.1.1.1.1, h.1.1.1.2⟩, h.1.1.2⟩, h.1.2⟩, hu⟩
theorem fair_w {x : Bk} (h : x.fair = true) : wOk x.w = true := by
  unfold Bk.fair at h
  simp only [Bool.and_eq_true] at h
  exact h.2
theorem done_right {v : Int} {l : List Bk} {o : Opr} (hr : pRight v l = true) (hf : ∀ x ∈ l, x.fine) (hof : o.bk.fine) (how : o.w < 18446744073709551616) (h : whyNot v l o = 0) :
    pRight (v + 1) (doL v l o) = true ∧ ∀ x ∈ doL v l o, x.fine := by
  obtain ⟨h1, h2, h3, h4, h5⟩ := pRight_iff.1 hr
  obtain ⟨w1, w2, w3, w4, w5, w6⟩ := why_ok h
  have hl := done_len (v := v) (l := l) o
  have hs := done_srt (v := v) h5 o
  have key : ∀ x ∈ doL v l o, (x.fair = true ∧ wPos x.w = true) ∧ x.fine := by
    unfold doL
    rw [if_pos h]
    unfold doneTo
    split
    · rename_i hk
      intro x hx
      rcases mem_ins.1 hx with rfl | hx
      · have hb := (w4 hk).1
        exact ⟨⟨fair_toW hb (plain_ok (fair_w hb)), plain_pos _⟩, hof.1, plain_lt hof.2⟩
      · exact ⟨h4 x hx, hf x hx⟩
    · rename_i hk
      have hh := w6 hk
      have hin := gotN_in hh
      have hnm := nm_low hh
      split
      · intro x hx
        have := ((mem_del h5 (lowN_lt hh)).1 hx).1
        exact ⟨h4 x this, hf x this⟩
      · split
        · rename_i hk3
          intro x hx
          rcases (mem_set h5 (lowN_lt hh) (z := (gotN l o.name).toW (wPlain o.w)) (by rw [hnm]; exact hin.2)).1 hx with rfl | ⟨hx, _⟩
          · exact ⟨⟨fair_toW (h4 _ hin.1).1 (plain_ok (w5 hk3)), plain_pos _⟩, (hf _ hin.1).1, plain_lt how⟩
          · exact ⟨h4 x hx, hf x hx⟩
        · intro x hx
          rcases (mem_set h5 (lowN_lt hh) (z := (gotN l o.name).toD (o.kind == 4)) (by rw [hnm]; exact hin.2)).1 hx with rfl | ⟨hx, _⟩
          · have e1 : ((gotN l o.name).toD (o.kind == 4)).fair = (gotN l o.name).fair := rfl
            have e2 : ((gotN l o.name).toD (o.kind == 4)).w = (gotN l o.name).w := rfl
            rw [e1, e2]
            exact ⟨h4 _ hin.1, (hf (gotN l o.name) hin.1 : (gotN l o.name).fine)⟩
          · exact ⟨h4 x hx, hf x hx⟩
  refine ⟨pRight_iff.2 ⟨by omega, by omega, ?_, fun x hx => (key x hx).1, hs⟩, fun x hx => (key x hx).2⟩
  rw [hl]
  split
  · rename_i hk
    have := (w4 hk.2).2.2
    omega
  · split <;> omega
/-- what one is to have behind what is done -/
theorem done_any_right {v : Int} {l : List Bk} {o : Opr} (hr : pRight v l = true) (hf : ∀ x ∈ l, x.fine) (hof : o.bk.fine) (how : o.w < 18446744073709551616) :
    pRight (doV v l o) (doL v l o) = true ∧ ∀ x ∈ doL v l o, x.fine := by
  by_cases h : whyNot v l o = 0
  · have := done_right hr hf hof how h
    rwa [show doV v l o = v + 1 by simp [doV, h]]
  · rw [show doV v l o = v by simp [doV, h], show doL v l o = l by simp [doL, h]]
    exact ⟨hr, hf⟩

end Go.Proofs.YtmpemeemlhmaaaaGreat
