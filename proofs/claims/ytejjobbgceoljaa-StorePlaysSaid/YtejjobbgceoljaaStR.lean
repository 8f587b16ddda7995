/- The program's store: Sync, Remove. -/
import Derived.Test.YtejjobbgceoljaaStQ
import Derived.Test.YtejjobbgceoljaaQr
set_option linter.unusedSimpArgs false
set_option linter.unusedVariables false
namespace Go.Proofs.Ytejjobbgceoljaa
open Go.RowKit

theorem ends_ne {why fu : Int} {dn : Bool} (h : why ≠ 0) : (endsF why fu dn).1 ≠ 0 := by
  cases dn
  · rw [ends_why h]; exact h
  · rw [ends_down]; intro h; cases h
theorem put_syn {L : List Fi} {x : Fi} (h : lookF L x.name = some x) (hS : SrtF L) (k : Int) : sumF (putF { x with syn := k } L) = sumF L := by
  have := sumF_put { x with syn := k } L hS
  rw [show ({ x with syn := k } : Fi).name = x.name from rfl, h] at this
  dsimp only at this
  omega
set_option maxRecDepth 100000 in
set_option maxHeartbeats 2000000 in
theorem sync_any (F : List Nat) (p : Nat) (q fu : Int) (dn : Bool) (L : List Fi) (s : List UInt8) (w : World) (hS : PgS F w p q L fu dn) (hs : s.length ≤ 100000) (r : Int × Int × Bool) (hr : endsF (whyAt L s) fu dn = r) :
    Calls Try.prog 26 #[.pointer (some ⟨p, 0, none⟩), .string (textOf s)] w (PgP F w p q (synF L s r) r.2.1 r.2.2 (.int .i64 r.1)) := by
  have TH := Lib.hid (there_any F p q fu dn L s w hS hs)
  have MA := Lib.hid (may_pg F p q fu (whyAt L s) dn L w hS r hr)
  have HR := Lib.hid hr
  obtain ⟨why, hwhy⟩ : ∃ why, whyAt L s = why := ⟨_, rfl⟩
  rw [hwhy] at TH MA
  have HW := Lib.hid hwhy
  clear hS hr hwhy
  by_cases hr0 : r.1 = 0
  · have hz1 : (r.1 == 0) = true := by simpa using hr0
    have hz2 : (r.1 != 0) = false := by simpa using hr0
    have hz3 : decide (r.1 = 0) = true := by simpa using hr0
    have HR0 := Lib.hid hr0
    clear hr0
    go_enter Try.func26, Try.ntmps26
    go_wp2_with fail
    refine TH.out.mono ?_
    rintro e w1 ⟨rfl, rfl⟩
    go_wp2_with fail
    refine MA.out.mono ?_
    rintro e w2 ⟨rfl, hS2, hf2⟩
    obtain ⟨M, l, hX⟩ := hS2.open_
    have HX := Lib.hid hX
    have HF2 := Lib.hid hf2
    obtain ⟨f1, f2, f3, f4⟩ := hX.2.2.2.1.facts
    have HM := Lib.hid hX.2.2.2.2.1
    rcases look_whyAt hX.1 s with ⟨_, hw, _, ha⟩ | ⟨t, hlk, hw, hlF, ha, ht⟩
    · exact absurd HR0.out (by rw [← HR.out]; exact ends_ne (by rw [hw]; decide))
    · obtain ⟨l1, l2, rfl, hnm⟩ := look_split hlk
      have HY := Lib.hid (show ptrV (atP (l1 ++ ([t] ++ l2)) s) = .pointer (some ⟨t.fb, 0, none⟩) by rw [ha]; rfl)
      obtain ⟨g1, g2, g3, g4⟩ := (hX.2.2.2.2.2.1 t ht).1.facts
      have hl2 := (hX.2.2.2.2.2.1 t ht).1.lt
      have hp2 := hX.fst
      have HT := Lib.hid (hX.2.2.2.2.2.1 t ht)
      have HLF := Lib.hid hlF
      have HNM := Lib.hid hnm
      clear hX hf2 hS2 hw ha hlk hlF ht hnm
      go_wp2_with (at_lookup; refine wpList_look rfl _ _ rfl M _ _ rfl HM.out s hs rfl _ HY.out ?_)
      go_ret
      have hA := HX.out.apart
      have hG := HX.out.2.2.2.2.2.2.1
      have hnf : t.fb ≠ p := fun e => hA.2.1 (by rw [← e]; simp [Pl.foot])
      have hnM : M ≠ t.fb := fun e => hA.2.2.1 (by rw [e]; simp [Pl.foot])
      have hLs := HLF.out
      rw [← HNM.out] at hLs
      have hsum := put_syn hLs hG.1 (t.x.b.length : Nat)
      have hBt := HT.out.1.set_same 1 (.int .i64 (t.x.b.length : Nat))
      rw [fbC_set1] at hBt
      have hown := own_set_ne HT.out.2 (p := ⟨t.fb, 1, none⟩) (fun e => by
        have hnd := hA.2.2.2.1
        unfold Pl.foot at hnd
        cases hAd : t.A with
        | none => rw [hAd] at e; cases e
        | some a => rw [hAd] at e hnd; injection e with e; simp [e] at hnd) (.int .i64 (t.x.b.length : Nat))
      obtain ⟨F', k1, k2, k3⟩ := HX.out.file (r' := { t with x := { t.x with syn := (t.x.b.length : Nat) } }) (w' := w2.setCell ⟨t.fb, 1, none⟩ (.int .i64 (t.x.b.length : Nat))) (sz' := sumF L)
        ((Frm.refl _ _).set _ _ (.inl (by simp [Pl.foot]))) (HX.out.2.2.2.1.set_other _ _ hnf) (Below.heap_setCell _ _ _ _ hnM) ⟨hBt, hown⟩ hA.2.2.2.1 (fun k hk => .inl hk) rfl rfl ⟨by simp, by simp⟩ rfl (by rw [hsum]; exact hG.2.2.1) HX.out.2.2.2.2.2.2.2
      refine ⟨by rw [HR0.out]; rfl, F', ?_, HF2.out.trans' k2, fun b hb => (k3 b hb).imp id (fun h => Nat.le_trans HF2.out.size h)⟩
      have := k1.shut (by rw [hsum])
      unfold synF
      rw [if_pos HR0.out, HLF.out]
      exact this
  · have hz1 : (r.1 == 0) = false := by simpa using hr0
    have hz2 : (r.1 != 0) = true := by simpa using hr0
    have hz3 : decide (r.1 = 0) = false := by simpa using hr0
    have SY := Lib.hid (show synF L s r = L by unfold synF; rw [if_neg hr0])
    clear hr0
    go_enter Try.func26, Try.ntmps26
    go_wp2_with fail
    refine TH.out.mono ?_
    rintro e w1 ⟨rfl, rfl⟩
    go_wp2_with fail
    refine MA.out.mono ?_
    intro e w2 hM2
    obtain ⟨rfl, _⟩ := id hM2
    have FIN := Lib.hid hM2
    clear hM2
    go_wp2
    go_ret
    rw [SY.out]
    exact FIN.out.pg
theorem cut_sum {L : List Fi} {x : Fi} (h : lookF L x.name = some x) (hS : SrtF L) : sumF (cutF x.name L) + x.b.length = sumF L := by
  obtain ⟨h1, u1, u2, h2, h3⟩ := List.find?_eq_some_iff_append.1 h
  subst h2
  rw [cut_mid hS, sumF_app, sumF_app, sumF_cons]
  omega
set_option maxRecDepth 100000 in
set_option maxHeartbeats 2000000 in
theorem remove_any (F : List Nat) (p : Nat) (q fu : Int) (dn : Bool) (L : List Fi) (s : List UInt8) (w : World) (hS : PgS F w p q L fu dn) (hs : s.length ≤ 100000) (r : Int × Int × Bool) (hr : endsF (whyAt L s) fu dn = r) :
    Calls Try.prog 27 #[.pointer (some ⟨p, 0, none⟩), .string (textOf s)] w (PgP F w p q (remF L s r) r.2.1 r.2.2 (.int .i64 r.1)) := by
  have TH := Lib.hid (there_any F p q fu dn L s w hS hs)
  have MA := Lib.hid (may_pg F p q fu (whyAt L s) dn L w hS r hr)
  have HR := Lib.hid hr
  obtain ⟨why, hwhy⟩ : ∃ why, whyAt L s = why := ⟨_, rfl⟩
  rw [hwhy] at TH MA
  have HW := Lib.hid hwhy
  clear hS hr hwhy
  by_cases hr0 : r.1 = 0
  · have hz1 : (r.1 == 0) = true := by simpa using hr0
    have hz2 : (r.1 != 0) = false := by simpa using hr0
    have hz3 : decide (r.1 = 0) = true := by simpa using hr0
    have HR0 := Lib.hid hr0
    clear hr0
    go_enter Try.func27, Try.ntmps27
    go_wp2_with fail
    refine TH.out.mono ?_
    rintro e w1 ⟨rfl, rfl⟩
    go_wp2_with fail
    refine MA.out.mono ?_
    rintro e w2 ⟨rfl, hS2, hf2⟩
    obtain ⟨M, l, hX⟩ := hS2.open_
    have HX := Lib.hid hX
    have HF2 := Lib.hid hf2
    obtain ⟨f1, f2, f3, f4⟩ := hX.2.2.2.1.facts
    have HM := Lib.hid hX.2.2.2.2.1
    rcases look_whyAt hX.1 s with ⟨_, hw, _, ha⟩ | ⟨t, hlk, hw, hlF, ha, ht⟩
    · exact absurd HR0.out (by rw [← HR.out]; exact ends_ne (by rw [hw]; decide))
    · obtain ⟨l1, l2, rfl, hnm⟩ := look_split hlk
      have HY := Lib.hid (show atP (l1 ++ ([t] ++ l2)) s = some t.fb from ha)
      have hlook : (Instr.lookup 60 (.map (some M)) (.string (textOf s)) false).run Try.prog w2.drew = .ok (.pointer (some ⟨t.fb, 0, none⟩)) w2.drew := by
        have := run_look (w := w2.drew) M _ _ (HM.out.agree rfl) s hs
        rw [HY.out] at this
        exact this
      obtain ⟨g1, g2, g3, g4⟩ := (hX.2.2.2.2.2.1 t ht).1.facts
      have hl2 := (hX.2.2.2.2.2.1 t ht).1.lt
      have hp2 := hX.fst
      have hb : t.x.b.length ≤ sumF L := sumF_mem (by rw [← hX.1]; exact List.mem_map.2 ⟨t, ht, rfl⟩)
      have hsb : (sumF L : Int) ≤ 1073741824 := by have := hX.2.2.2.2.2.2.1.2.2; omega
      have HLF := Lib.hid hlF
      have HNM := Lib.hid hnm
      clear hX hf2 hS2 hw ha hlk hlF ht hnm
      go_wp2
      go_region
      have B3 := HX.out.2.2.2.1.drew.set_same 1 (.int .i64 ((sumF L : Int) - (t.x.b.length : Nat)))
      rw [stC_set1] at B3
      have hA := HX.out.apart
      have G3 := Lib.hid ((Frm.refl [p, M] w2).set ⟨p, 1, none⟩ (.int .i64 ((sumF L : Int) - (t.x.b.length : Nat))) (.inl (by simp)) |>.drewN 1)
      have HM3 := Lib.hid (HM.out.agree (W' := (w2.setCell ⟨p, 1, none⟩ (.int .i64 ((sumF L : Int) - (t.x.b.length : Nat)))).drew) (Below.heap_setCell w2 _ _ M (fun e => hA.1 e.symm)))
      have hs3 : (w2.setCell ⟨p, 1, none⟩ (.int .i64 ((sumF L : Int) - (t.x.b.length : Nat)))).drew.heap.size = w2.heap.size := by simp [World.setCell]
      obtain ⟨w3, hw3⟩ : ∃ w3, (w2.setCell ⟨p, 1, none⟩ (.int .i64 ((sumF L : Int) - (t.x.b.length : Nat)))).drew = w3 := ⟨_, rfl⟩
      replace B3 : Box w3 p (stC q ((sumF L : Int) - (t.x.b.length : Nat)) M r.2.1 r.2.2) := by rw [← hw3]; exact B3
      replace G3 := Lib.hid (show Frm [p, M] w2 w3 by rw [← hw3]; exact G3.out)
      rw [hw3] at HM3 hs3 ⊢
      have B3' := Lib.hid B3
      clear f1 f2 f3 f4 g1 g2 g3 g4 hlook hw3 hA
      obtain ⟨f1, f2, f3, f4⟩ := B3.facts
      clear B3
      go_wp2_with (at_delete; refine wpList_del rfl _ _ rfl M _ _ rfl HM3.out s hs rfl ?_; intro w4 hH4 hg4; have H4 := Lib.hid hH4; have G4 := Lib.hid hg4; clear hH4 hg4 f1 f2 f3 f4)
      go_ret
      have hA := HX.out.apart
      have hG := HX.out.2.2.2.2.2.2.1
      have hLs := HLF.out
      rw [← HNM.out] at hLs
      have hsum := cut_sum hLs hG.1
      rw [HNM.out] at hsum
      have hs4 := G4.out.size
      obtain ⟨F', k1, k2, k3⟩ := HX.out.del (w' := w4) (sz' := (sumF L : Int) - (t.x.b.length : Nat)) (L' := cutF s L)
        ((G3.out.grown G4.out (fun j hj => .inl (by injection hj with hj; simp [hj]))).more (fun g hg => by simp at hg; rcases hg with rfl | rfl <;> simp)) (B3'.out.grown G4.out (fun e => hA.1 (by injection e))) (fun g hg => by
          have := H4.out g (fun u => by rw [hg u, HNM.out])
          rw [HY.out] at this
          exact this) (by rw [HNM.out]) HX.out.2.2.2.2.2.2.2
      refine ⟨by rw [HR0.out]; rfl, F', ?_, HF2.out.trans' k2, fun b hb => (k3 b hb).imp id (fun h => Nat.le_trans HF2.out.size h)⟩
      have := k1.shut (by omega)
      unfold remF
      rw [if_pos HR0.out]
      exact this
  · have hz1 : (r.1 == 0) = false := by simpa using hr0
    have hz2 : (r.1 != 0) = true := by simpa using hr0
    have hz3 : decide (r.1 = 0) = false := by simpa using hr0
    have SY := Lib.hid (show remF L s r = L by unfold remF; rw [if_neg hr0])
    clear hr0
    go_enter Try.func27, Try.ntmps27
    go_wp2_with fail
    refine TH.out.mono ?_
    rintro e w1 ⟨rfl, rfl⟩
    go_wp2_with fail
    refine MA.out.mono ?_
    intro e w2 hM2
    obtain ⟨rfl, _⟩ := id hM2
    have FIN := Lib.hid hM2
    clear hM2
    go_wp2
    go_ret
    rw [SY.out]
    exact FIN.out.pg
end Go.Proofs.Ytejjobbgceoljaa
