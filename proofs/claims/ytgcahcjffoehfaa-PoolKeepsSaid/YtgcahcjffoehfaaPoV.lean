/- What is done to a pool: the program's way, where it is done. -/
import Derived.Test.YtgcahcjffoehfaaPoU
set_option linter.unusedSimpArgs false
set_option linter.unusedVariables false
namespace Go.Proofs.Ytgcahcjffoehfaa
open Go.RowKit

theorem lowN_le (l : List Bk) (s : List UInt8) : lowN l s ≤ l.length := by
  unfold lowN
  exact (List.takeWhile_sublist _).length_le
set_option maxHeartbeats 400000 in
set_option maxRecDepth 100000 in
theorem do_add (l : List Bk) (hs : Srt l) (v : Int) (hv : -9223372036854775808 ≤ v ∧ v < 9223372036854775807) (o : Opr) (hf : o.bk.fine) (hw : o.w < 18446744073709551616) (hwhy : whyNot v l o = 0) (h1 : o.kind = 1) (A : Option Addr) (c : Nat) (w : World) (hR : RdK w w.heap.size A l.length l) (hn : l.length ≤ 100000) :
    Calls Try.prog 19 #[.agg #[.int .i64 v, .slice A l.length c], .agg o.arr] w (PoolP w (v + 1) (insAt l (lowN l o.bk.name) (o.bk.toW (wPlain o.bk.w))) 0) := by
  have HS := Lib.hid hs
  have HR1 := Lib.hid (fun ob ob' ob2 => (((hR.alloc (Nat.le_refl _) ob).alloc (by simp) ob').alloc (by simp; omega) ob2).more (B' := (((w.alloc ob).alloc ob').alloc ob2).heap.size) (by simp; omega))
  have HB0 := Lib.hid (fun ob ob' ob2 => ((((Below.refl w.heap.size w).alloc (Nat.le_refl _) ob).alloc (by simp) ob').alloc (by simp; omega) ob2 : Below w.heap.size w (((w.alloc ob).alloc ob').alloc ob2)))
  have hwy := fun A c W (hR : RdK W W.heap.size A l.length l) => why_any l hs v o hf hw A c W hR (by omega)
  rw [hwhy] at hwy
  have HWY := Lib.hid hwy
  clear hR hs hwy hwhy
  obtain ⟨hv1, hv2⟩ := hv
  go_enter Try.func19, Try.ntmps19
  go_wp2_with fail
  refine (clone_all l A c _ (HR1.out _ _ _) hn).mono ?_
  rintro e w1 ⟨A1, c1, rfl, ho1, hb1⟩
  have b0 := (((Box.new w _ _).alloc _).alloc _).below hb1 (by simp; omega)
  have b1 := ((Box.new1 w _ _ _).alloc _).below hb1 (by simp)
  have b2 := (Box.new2 w _ _ _ _).below hb1 (by simp)
  have hz1 : w.heap.size + 2 < w1.heap.size := b2.lt
  have O1 := Lib.hid (own_less ho1 (show w.heap.size + 3 ≤ _ by simp))
  have HB1 := Lib.hid ((HB0.out _ _ _).trans (hb1.mono (by simp; omega)))
  clear ho1 hb1
  obtain ⟨x1, x2, x3, x4⟩ := b0.facts
  obtain ⟨y1, y2, y3, y4⟩ := b1.facts
  have B0 := Lib.hid b0
  have B1 := Lib.hid b1
  have B2 := Lib.hid b2
  clear b0 b1 b2
  go_wp2_with fail
  refine (HWY.out A1 c1 _ (own_reads (own_set O1.out (by simp) _))).mono ?_
  rintro e w2 ⟨rfl, hb2⟩
  have hsz : (w1.setCell ⟨w.heap.size, 1, none⟩ (Value.slice A1 l.length c1)).heap.size = w1.heap.size := by simp [World.setCell]
  have b0 := (B0.out.set_same 1 (Value.slice A1 l.length c1)).below hb2 (by rw [hsz]; omega)
  have b1 := (B1.out.set_other ⟨w.heap.size, 1, none⟩ (Value.slice A1 l.length c1) (by simp)).below hb2 (by rw [hsz]; omega)
  have b2 := (B2.out.set_other ⟨w.heap.size, 1, none⟩ (Value.slice A1 l.length c1) (by simp)).below hb2 (by rw [hsz]; omega)
  have O2 := Lib.hid (own_below (own_set O1.out (by simp) _) hb2)
  have HB2 := Lib.hid ((HB1.out.setCell (Nat.le_refl _) _).trans (hb2.mono (by rw [hsz]; omega)))
  have hz2 : w.heap.size + 2 < w2.heap.size := b2.lt
  have hz21 : w.heap.size + 1 < w2.heap.size := b1.lt
  have hz20 : w.heap.size < w2.heap.size := b0.lt
  clear hb2 hsz x1 x2 x3 x4 y1 y2 y3 y4 hz1 HB1 O1 HR1 HWY
  obtain ⟨x1, x2, x3, x4⟩ := b0.facts
  obtain ⟨y1, y2, y3, y4⟩ := b1.facts
  have B0 := Lib.hid b0
  have B1 := Lib.hid b1
  have B2 := Lib.hid b2
  clear b0 b1 b2
  go_wp2_with fail
  refine (plain_any _ _).mono ?_
  rintro e w' ⟨rfl, rfl⟩
  go_wp2_with fail
  refine (at_any l HS.out o.bk.name (v + 1) A1 c1 _ (own_reads (own_alloc (own_set O2.out (by simp) _) _)) (by omega)).mono ?_
  rintro e w3 ⟨rfl, hb3⟩
  have hsz : ((w2.setCell ⟨w.heap.size, 0, none⟩ (Value.int .i64 (v + 1))).alloc (.cells (o.bk.toW (wPlain o.bk.w)).arr 36)).heap.size = w2.heap.size + 1 := by simp [World.setCell]
  have b0 := ((B0.out.set_same 0 (Value.int .i64 (v + 1))).alloc (.cells (o.bk.toW (wPlain o.bk.w)).arr 36)).below hb3 (by rw [hsz]; omega)
  have b2 := ((B2.out.set_other ⟨w.heap.size, 0, none⟩ (Value.int .i64 (v + 1)) (by simp)).alloc (.cells (o.bk.toW (wPlain o.bk.w)).arr 36)).below hb3 (by rw [hsz]; omega)
  have b3 := (Box.new (w2.setCell ⟨w.heap.size, 0, none⟩ (Value.int .i64 (v + 1))) (o.bk.toW (wPlain o.bk.w)).arr 36).below hb3 (by simp)
  rw [show (w2.setCell ⟨w.heap.size, 0, none⟩ (Value.int .i64 (v + 1))).heap.size = w2.heap.size by simp [World.setCell]] at b3
  have O3 := Lib.hid (own_below (own_alloc (own_set O2.out (by simp) _) (.cells (o.bk.toW (wPlain o.bk.w)).arr 36)) hb3)
  have HB3 := Lib.hid (((HB2.out.setCell (Nat.le_refl _) (Value.int .i64 (v + 1))).alloc (by simp [World.setCell]; omega) (.cells (o.bk.toW (wPlain o.bk.w)).arr 36)).trans (hb3.mono (by rw [hsz]; omega)))
  have hz3 : w2.heap.size < w3.heap.size := b3.lt
  clear hb3 hsz x1 x2 x3 x4 y1 y2 y3 y4 HB2 O2
  obtain ⟨x1, x2, x3, x4⟩ := b0.facts
  obtain ⟨z1, z2, z3, z4⟩ := b3.facts
  have B0 := Lib.hid b0
  have B2 := Lib.hid b2
  have B3 := Lib.hid b3
  clear b0 b2 b3
  go_wp2_with fail
  have hli : lowN l o.bk.name ≤ l.length := lowN_le l _
  have hrow : ∀ k, (Value.slice A1 l.length c1).ownBlock = some k → w.heap.size + 3 ≤ k := fun k hk => (O3.out.lt k hk).1
  refine (insert_any l (o.bk.toW (wPlain o.bk.w)) (lowN l o.bk.name) hli (w.heap.size + 3) c1 w3.heap.size A1 _ ⟨own_alloc O3.out _, heap_alloc_new w3 _, fun g hg => ?_, by simp; omega, hn⟩).mono ?_
  · have := (O3.out.lt g.block (by rw [hg]; rfl)).2
    omega
  rintro e w4 ⟨A4, c4, rfl, ho4, hg4⟩
  have b0 := (B0.out.alloc (.cells (o.bk.toW (wPlain o.bk.w)).arr 36)).grown hg4 (fun e => by have := hrow _ e.symm; omega)
  have b2 := (B2.out.alloc (.cells (o.bk.toW (wPlain o.bk.w)).arr 36)).grown hg4 (fun e => by have := hrow _ e.symm; omega)
  have O4 := Lib.hid ho4
  have hz4 : w.heap.size + 2 < w4.heap.size := b2.lt
  have HB4 := Lib.hid ((HB3.out.alloc (by omega) (.cells (o.bk.toW (wPlain o.bk.w)).arr 36)).grown hg4 (by simp; omega) (fun k hk => by have := hrow k hk; omega))
  have hil := insAt_length l (lowN l o.bk.name) (o.bk.toW (wPlain o.bk.w))
  obtain ⟨l4, hl4⟩ : ∃ l4, l4 = insAt l (lowN l o.bk.name) (o.bk.toW (wPlain o.bk.w)) := ⟨_, rfl⟩
  rw [← hl4] at ho4 O4 ⊢
  have HL4 := Lib.hid hl4
  clear hg4 ho4 x1 x2 x3 x4 z1 z2 z3 z4 HB3 O3 hl4 hil
  obtain ⟨x1, x2, x3, x4⟩ := b0.facts
  obtain ⟨y1, y2, y3, y4⟩ := b2.facts
  have B0 := Lib.hid b0
  have B2 := Lib.hid b2
  clear b0 b2
  go_wp2_with fail
  have b2 := (B2.out.set_other ⟨w.heap.size, 1, none⟩ (.slice A4 l4.length c4) (by simp)).set_same 0 (.int .i64 (v + 1)) |>.set_same 1 (.slice A4 l4.length c4)
  obtain ⟨z1, z2, z3, z4⟩ := b2.facts
  have hl4 := HL4.out
  subst hl4
  have hZ := z3 0 2 (Nat.le_refl _)
  refine bodyPost_ret (ret_pool rfl _ _ _ _ rfl (by rw [hZ]; trivial)) rfl ⟨A4, c4, ?_, own_less (base := w.heap.size + 3) (own_set (own_set (own_set O4.out (show w.heap.size < w.heap.size + 3 by omega) _) (show w.heap.size + 2 < w.heap.size + 3 by omega) _) (show w.heap.size + 2 < w.heap.size + 3 by omega) _) (by omega), ((HB4.out.setCell (Nat.le_refl _) _).setCell (show w.heap.size ≤ w.heap.size + 2 by omega) _).setCell (show w.heap.size ≤ w.heap.size + 2 by omega) _⟩
  rw [z4 0 2 (Nat.le_refl _)]
  rfl
end Go.Proofs.Ytgcahcjffoehfaa
