/- What is done to a pool: the program's way, where it is done to one that is there. -/
import Derived.Test.YtgcahcjffoehfaaPoV
set_option linter.unusedSimpArgs false
set_option linter.unusedVariables false
namespace Go.Proofs.Ytgcahcjffoehfaa
open Go.RowKit

theorem lowN_lt {l : List Bk} {s : List UInt8} (h : hasN l s = true) : lowN l s < l.length := by
  unfold hasN at h
  simp at h
  exact h.1
set_option maxHeartbeats 400000 in
set_option maxRecDepth 100000 in
theorem do_del (l : List Bk) (hs : Srt l) (v : Int) (hv : -9223372036854775808 ≤ v ∧ v < 9223372036854775807) (o : Opr) (hf : o.bk.fine) (hw : o.w < 18446744073709551616) (hwhy : whyNot v l o = 0) (h1 : o.kind = 2) (hn0 : hasN l o.name = true) (A : Option Addr) (c : Nat) (w : World) (hR : RdK w w.heap.size A l.length l) (hn : l.length ≤ 100000) :
    Calls Try.prog 19 #[.agg #[.int .i64 v, .slice A l.length c], .agg o.arr] w (PoolP w (v + 1) (delAt l (lowN l o.name)) 0) := by
  have HS := Lib.hid hs
  have HR1 := Lib.hid (fun ob ob' ob2 => (((hR.alloc (Nat.le_refl _) ob).alloc (by simp) ob').alloc (by simp; omega) ob2).more (B' := (((w.alloc ob).alloc ob').alloc ob2).heap.size) (by simp; omega))
  have HB0 := Lib.hid (fun ob ob' ob2 => ((((Below.refl w.heap.size w).alloc (Nat.le_refl _) ob).alloc (by simp) ob').alloc (by simp; omega) ob2 : Below w.heap.size w (((w.alloc ob).alloc ob').alloc ob2)))
  have hwy := fun A c W (hR : RdK W W.heap.size A l.length l) => why_any l hs v o hf hw A c W hR (by omega)
  rw [hwhy] at hwy
  have HWY := Lib.hid hwy
  clear hR hs hwy hwhy
  obtain ⟨hv1, hv2⟩ := hv
  have hli := lowN_lt hn0
  have hin : ((lowN l o.name : Nat) : Int) < (l.length : Nat) := by omega
  clear hn0
  go_enter Try.func19, Try.ntmps19
  go_wp2_with fail
  refine (clone_all l A c _ (HR1.out _ _ _) hn).mono ?_
  rintro e w1 ⟨A1, c1, rfl, ho1, hb1⟩
  have b0 := (((Box.new w _ _).alloc _).alloc _).below hb1 (by simp; omega)
  have b1 := ((Box.new1 w _ _ _).alloc _).below hb1 (by simp)
  have b2 := (Box.new2 w _ _ _ _).below hb1 (by simp)
  have hz1 : w.heap.size + 2 < w1.heap.size := b2.lt
  have O1 := Lib.hid (own_less ho1 (show w.heap.size + 3 ≤ _ by simp))
  have HB1 := Lib.hid ((HB0.out _ _ _).trans (hb1.mono (by simp; omega)))
  clear ho1 hb1
  obtain ⟨x1, x2, x3, x4⟩ := b0.facts
  obtain ⟨y1, y2, y3, y4⟩ := b1.facts
  have B0 := Lib.hid b0
  have B1 := Lib.hid b1
  have B2 := Lib.hid b2
  clear b0 b1 b2
  go_wp2_with fail
  refine (HWY.out A1 c1 _ (own_reads (own_set O1.out (by simp) _))).mono ?_
  rintro e w2 ⟨rfl, hb2⟩
  have hsz : (w1.setCell ⟨w.heap.size, 1, none⟩ (Value.slice A1 l.length c1)).heap.size = w1.heap.size := by simp [World.setCell]
  have b0 := (B0.out.set_same 1 (Value.slice A1 l.length c1)).below hb2 (by rw [hsz]; omega)
  have b1 := (B1.out.set_other ⟨w.heap.size, 1, none⟩ (Value.slice A1 l.length c1) (by simp)).below hb2 (by rw [hsz]; omega)
  have b2 := (B2.out.set_other ⟨w.heap.size, 1, none⟩ (Value.slice A1 l.length c1) (by simp)).below hb2 (by rw [hsz]; omega)
  have O2 := Lib.hid (own_below (own_set O1.out (by simp) _) hb2)
  have HB2 := Lib.hid ((HB1.out.setCell (Nat.le_refl _) _).trans (hb2.mono (by rw [hsz]; omega)))
  have hz2 : w.heap.size + 2 < w2.heap.size := b2.lt
  have hz21 : w.heap.size + 1 < w2.heap.size := b1.lt
  have hz20 : w.heap.size < w2.heap.size := b0.lt
  clear hb2 hsz x1 x2 x3 x4 y1 y2 y3 y4 hz1 HB1 O1 HR1 HWY
  obtain ⟨x1, x2, x3, x4⟩ := b0.facts
  obtain ⟨y1, y2, y3, y4⟩ := b1.facts
  have B0 := Lib.hid b0
  have B1 := Lib.hid b1
  have B2 := Lib.hid b2
  clear b0 b1 b2
  go_wp2_with fail
  refine (at_any l HS.out o.name (v + 1) A1 c1 _ (own_reads (own_set O2.out (by simp) _)) (by omega)).mono ?_
  rintro e w3 ⟨rfl, hb3⟩
  have hsz : (w2.setCell ⟨w.heap.size, 0, none⟩ (Value.int .i64 (v + 1))).heap.size = w2.heap.size := by simp [World.setCell]
  have b0 := (B0.out.set_same 0 (Value.int .i64 (v + 1))).below hb3 (by rw [hsz]; omega)
  have b1 := (B1.out.set_other ⟨w.heap.size, 0, none⟩ (Value.int .i64 (v + 1)) (by simp)).below hb3 (by rw [hsz]; omega)
  have b2 := (B2.out.set_other ⟨w.heap.size, 0, none⟩ (Value.int .i64 (v + 1)) (by simp)).below hb3 (by rw [hsz]; omega)
  have ho3 := own_below (own_set O2.out (show w.heap.size < w.heap.size + 3 by omega) (Value.int .i64 (v + 1))) hb3
  have HB3 := Lib.hid ((HB2.out.setCell (Nat.le_refl _) (Value.int .i64 (v + 1))).trans (hb3.mono (by rw [hsz]; omega)))
  obtain ⟨g, hA1⟩ : ∃ g, A1 = some ⟨g, 0, none⟩ := by
    rcases ho3.2 with ⟨hv, h0⟩ | ⟨g, cap, cur, hv, _⟩
    · omega
    · injection hv with e1 _ _
      exact ⟨g, e1⟩
  subst hA1
  have hgb : w.heap.size + 3 ≤ g := (ho3.lt g rfl).1
  have hgl : g < w3.heap.size := (ho3.lt g rfl).2
  obtain ⟨bb, oo, hbo, _, hcc⟩ := (own_reads ho3).cell hli
  injection hbo with hbo
  injection hbo with e1 e2
  subst e1 e2
  have O3 := Lib.hid ho3
  have hz3 : w.heap.size < w3.heap.size := b0.lt
  have hz31 : w.heap.size + 1 < w3.heap.size := b1.lt
  have hz32 : w.heap.size + 2 < w3.heap.size := b2.lt
  clear hb3 hsz x1 x2 x3 x4 y1 y2 y3 y4 HB2 O2 ho3
  obtain ⟨x1, x2, x3, x4⟩ := b0.facts
  obtain ⟨y1, y2, y3, y4⟩ := b1.facts
  obtain ⟨u1, u2, u3, u4⟩ := b2.facts
  have B0 := Lib.hid b0
  have B2 := Lib.hid b2
  clear b0 b1 b2
  clear hcc
  go_wp2_with fail
  rcases O3.out.2 with ⟨hv, h0⟩ | ⟨g', cap, cur, hv, q2, q3, q4, q5, q6, q7⟩
  · cases hv
  injection hv with e1 e2 e3
  injection e1 with e1
  injection e1 with e1
  subst e1 e3
  refine (delete_any l (lowN l o.name) hli (w.heap.size + 3) g c1 cur _ q2 q3 q4 q5 q6 q7 hn).mono ?_
  rintro e w4 ⟨A4, c4, rfl, ho4, hg4⟩
  have b0 := B0.out.grown hg4 (fun e => by injection e with e; omega)
  have b2 := B2.out.grown hg4 (fun e => by injection e with e; omega)
  have hz4 : w.heap.size + 2 < w4.heap.size := b2.lt
  have HB4 := Lib.hid (HB3.out.grown hg4 (by omega) (fun k hk => by injection hk with hk; omega))
  obtain ⟨l4, hl4⟩ : ∃ l4, l4 = delAt l (lowN l o.name) := ⟨_, rfl⟩
  rw [← hl4] at ho4 ⊢
  have O4 := Lib.hid ho4
  have HL4 := Lib.hid hl4
  clear hg4 ho4 x1 x2 x3 x4 y1 y2 y3 y4 u1 u2 u3 u4 HB3 O3 hl4 q3 q6 q7
  obtain ⟨x1, x2, x3, x4⟩ := b0.facts
  obtain ⟨y1, y2, y3, y4⟩ := b2.facts
  have B0 := Lib.hid b0
  have B2 := Lib.hid b2
  clear b0 b2
  go_wp2_with fail
  have b2 := (B2.out.set_other ⟨w.heap.size, 1, none⟩ (.slice A4 l4.length c4) (by simp)).set_same 0 (.int .i64 (v + 1)) |>.set_same 1 (.slice A4 l4.length c4)
  obtain ⟨z1, z2, z3, z4⟩ := b2.facts
  have hl4 := HL4.out
  subst hl4
  have hZ := z3 0 2 (Nat.le_refl _)
  refine bodyPost_ret (ret_pool rfl _ _ _ _ rfl (by rw [hZ]; trivial)) rfl ⟨A4, c4, ?_, own_less (base := w.heap.size + 3) (own_set (own_set (own_set O4.out (show w.heap.size < w.heap.size + 3 by omega) _) (show w.heap.size + 2 < w.heap.size + 3 by omega) _) (show w.heap.size + 2 < w.heap.size + 3 by omega) _) (by omega), ((HB4.out.setCell (Nat.le_refl _) _).setCell (show w.heap.size ≤ w.heap.size + 2 by omega) _).setCell (show w.heap.size ≤ w.heap.size + 2 by omega) _⟩
  rw [z4 0 2 (Nat.le_refl _)]
  rfl
set_option maxHeartbeats 400000 in
set_option maxRecDepth 100000 in
theorem do_weight (l : List Bk) (hs : Srt l) (v : Int) (hv : -9223372036854775808 ≤ v ∧ v < 9223372036854775807) (o : Opr) (hf : o.bk.fine) (hw : o.w < 18446744073709551616) (hwhy : whyNot v l o = 0) (h1 : o.kind = 3) (hn0 : hasN l o.name = true) (A : Option Addr) (c : Nat) (w : World) (hR : RdK w w.heap.size A l.length l) (hn : l.length ≤ 100000) :
    Calls Try.prog 19 #[.agg #[.int .i64 v, .slice A l.length c], .agg o.arr] w (PoolP w (v + 1) (l.set (lowN l o.name) ((gotN l o.name).toW (wPlain o.w))) 0) := by
  have HS := Lib.hid hs
  have HR1 := Lib.hid (fun ob ob' ob2 => (((hR.alloc (Nat.le_refl _) ob).alloc (by simp) ob').alloc (by simp; omega) ob2).more (B' := (((w.alloc ob).alloc ob').alloc ob2).heap.size) (by simp; omega))
  have HB0 := Lib.hid (fun ob ob' ob2 => ((((Below.refl w.heap.size w).alloc (Nat.le_refl _) ob).alloc (by simp) ob').alloc (by simp; omega) ob2 : Below w.heap.size w (((w.alloc ob).alloc ob').alloc ob2)))
  have hwy := fun A c W (hR : RdK W W.heap.size A l.length l) => why_any l hs v o hf hw A c W hR (by omega)
  rw [hwhy] at hwy
  have HWY := Lib.hid hwy
  clear hR hs hwy hwhy
  obtain ⟨hv1, hv2⟩ := hv
  have hli := lowN_lt hn0
  have hin : ((lowN l o.name : Nat) : Int) < (l.length : Nat) := by omega
  have HG := Lib.hid (gotN_yes hn0)
  clear hn0
  go_enter Try.func19, Try.ntmps19
  go_wp2_with fail
  refine (clone_all l A c _ (HR1.out _ _ _) hn).mono ?_
  rintro e w1 ⟨A1, c1, rfl, ho1, hb1⟩
  have b0 := (((Box.new w _ _).alloc _).alloc _).below hb1 (by simp; omega)
  have b1 := ((Box.new1 w _ _ _).alloc _).below hb1 (by simp)
  have b2 := (Box.new2 w _ _ _ _).below hb1 (by simp)
  have hz1 : w.heap.size + 2 < w1.heap.size := b2.lt
  have O1 := Lib.hid (own_less ho1 (show w.heap.size + 3 ≤ _ by simp))
  have HB1 := Lib.hid ((HB0.out _ _ _).trans (hb1.mono (by simp; omega)))
  clear ho1 hb1
  obtain ⟨x1, x2, x3, x4⟩ := b0.facts
  obtain ⟨y1, y2, y3, y4⟩ := b1.facts
  have B0 := Lib.hid b0
  have B1 := Lib.hid b1
  have B2 := Lib.hid b2
  clear b0 b1 b2
  go_wp2_with fail
  refine (HWY.out A1 c1 _ (own_reads (own_set O1.out (by simp) _))).mono ?_
  rintro e w2 ⟨rfl, hb2⟩
  have hsz : (w1.setCell ⟨w.heap.size, 1, none⟩ (Value.slice A1 l.length c1)).heap.size = w1.heap.size := by simp [World.setCell]
  have b0 := (B0.out.set_same 1 (Value.slice A1 l.length c1)).below hb2 (by rw [hsz]; omega)
  have b1 := (B1.out.set_other ⟨w.heap.size, 1, none⟩ (Value.slice A1 l.length c1) (by simp)).below hb2 (by rw [hsz]; omega)
  have b2 := (B2.out.set_other ⟨w.heap.size, 1, none⟩ (Value.slice A1 l.length c1) (by simp)).below hb2 (by rw [hsz]; omega)
  have O2 := Lib.hid (own_below (own_set O1.out (by simp) _) hb2)
  have HB2 := Lib.hid ((HB1.out.setCell (Nat.le_refl _) _).trans (hb2.mono (by rw [hsz]; omega)))
  have hz2 : w.heap.size + 2 < w2.heap.size := b2.lt
  have hz21 : w.heap.size + 1 < w2.heap.size := b1.lt
  have hz20 : w.heap.size < w2.heap.size := b0.lt
  clear hb2 hsz x1 x2 x3 x4 y1 y2 y3 y4 hz1 HB1 O1 HR1 HWY
  obtain ⟨x1, x2, x3, x4⟩ := b0.facts
  obtain ⟨y1, y2, y3, y4⟩ := b1.facts
  have B0 := Lib.hid b0
  have B1 := Lib.hid b1
  have B2 := Lib.hid b2
  clear b0 b1 b2
  go_wp2_with fail
  refine (at_any l HS.out o.name (v + 1) A1 c1 _ (own_reads (own_set O2.out (by simp) _)) (by omega)).mono ?_
  rintro e w3 ⟨rfl, hb3⟩
  have hsz : (w2.setCell ⟨w.heap.size, 0, none⟩ (Value.int .i64 (v + 1))).heap.size = w2.heap.size := by simp [World.setCell]
  have b0 := (B0.out.set_same 0 (Value.int .i64 (v + 1))).below hb3 (by rw [hsz]; omega)
  have b1 := (B1.out.set_other ⟨w.heap.size, 0, none⟩ (Value.int .i64 (v + 1)) (by simp)).below hb3 (by rw [hsz]; omega)
  have b2 := (B2.out.set_other ⟨w.heap.size, 0, none⟩ (Value.int .i64 (v + 1)) (by simp)).below hb3 (by rw [hsz]; omega)
  have ho3 := own_below (own_set O2.out (show w.heap.size < w.heap.size + 3 by omega) (Value.int .i64 (v + 1))) hb3
  have HB3 := Lib.hid ((HB2.out.setCell (Nat.le_refl _) (Value.int .i64 (v + 1))).trans (hb3.mono (by rw [hsz]; omega)))
  obtain ⟨g, hA1⟩ : ∃ g, A1 = some ⟨g, 0, none⟩ := by
    rcases ho3.2 with ⟨hv, h0⟩ | ⟨g, cap, cur, hv, _⟩
    · omega
    · injection hv with e1 _ _
      exact ⟨g, e1⟩
  subst hA1
  have hgb : w.heap.size + 3 ≤ g := (ho3.lt g rfl).1
  have hgl : g < w3.heap.size := (ho3.lt g rfl).2
  obtain ⟨bb, oo, hbo, _, hcc⟩ := (own_reads ho3).cell hli
  injection hbo with hbo
  injection hbo with e1 e2
  subst e1 e2
  have O3 := Lib.hid ho3
  have hz3 : w.heap.size < w3.heap.size := b0.lt
  have hz31 : w.heap.size + 1 < w3.heap.size := b1.lt
  have hz32 : w.heap.size + 2 < w3.heap.size := b2.lt
  clear hb3 hsz x1 x2 x3 x4 y1 y2 y3 y4 HB2 O2 ho3
  have hcl : w3.cell? ⟨g, lowN l o.name * 27 + 25, none⟩ = some (.float .f64 (gotN l o.name).w) := by
    have := hcc 25 (by omega)
    rw [Nat.zero_add] at this
    rw [this, ← HG.out]
    exact Bk.arr_25 _
  have hfr : w3.frozen? ⟨g, lowN l o.name * 27 + 25, none⟩ = false := by
    rcases O3.out.2 with ⟨hv, h0⟩ | ⟨g', cap, cur, hv, q2, q3, q4, q5, q6, q7⟩
    · cases hv
    injection hv with e1 e2 e3
    injection e1 with e1
    injection e1 with e1
    subst e1
    simp [World.frozen?, q3]
  clear hcc
  obtain ⟨x1, x2, x3, x4⟩ := b0.facts
  obtain ⟨y1, y2, y3, y4⟩ := b1.facts
  obtain ⟨u1, u2, u3, u4⟩ := b2.facts
  have B0 := Lib.hid b0
  have B2 := Lib.hid b2
  clear b0 b1 b2
  go_wp2_with fail
  refine (plain_any _ _).mono ?_
  rintro e w' ⟨rfl, rfl⟩
  go_wp2_with fail
  have O4 := Lib.hid (own_put O3.out (lowN l o.name * 27 + 25) (by omega) (.float .f64 (wPlain o.w)))
  have hxs : (cellsBk l).set (lowN l o.name * 27 + 25) (.float .f64 (wPlain o.w)) = cellsBk (l.set (lowN l o.name) ((gotN l o.name).toW (wPlain o.w))) :=
    cellsBk_ext l (lowN l o.name) hli _ 25 (by omega) _ (by rw [← HG.out]; exact (Bk.set_w (gotN l o.name) _).symm)
  rw [hxs] at O4
  have b2 := ((B2.out.set_other ⟨g, lowN l o.name * 27 + 25, none⟩ (.float .f64 (wPlain o.w)) (by show g ≠ _; omega)).set_same 0 (.int .i64 (v + 1))).set_same 1 (.slice (some ⟨g, 0, none⟩) l.length c1)
  obtain ⟨z1, z2, z3, z4⟩ := b2.facts
  have hZ := z3 0 2 (Nat.le_refl _)
  have hlen : (l.set (lowN l o.name) ((gotN l o.name).toW (wPlain o.w))).length = l.length := List.length_set
  refine bodyPost_ret (ret_pool rfl _ _ _ _ rfl (by rw [hZ]; trivial)) rfl ⟨some ⟨g, 0, none⟩, c1, ?_, ?_, ((HB3.out.setCell (show w.heap.size ≤ g by omega) _).setCell (show w.heap.size ≤ w.heap.size + 2 by omega) _).setCell (show w.heap.size ≤ w.heap.size + 2 by omega) _⟩
  · rw [z4 0 2 (Nat.le_refl _), hlen]
    rfl
  · rw [hlen]
    exact own_less (base := w.heap.size + 3) (own_set (own_set O4.out (show w.heap.size + 2 < w.heap.size + 3 by omega) _) (show w.heap.size + 2 < w.heap.size + 3 by omega) _) (by omega)
set_option maxHeartbeats 400000 in
set_option maxRecDepth 100000 in
theorem do_drain (l : List Bk) (hs : Srt l) (v : Int) (hv : -9223372036854775808 ≤ v ∧ v < 9223372036854775807) (o : Opr) (hf : o.bk.fine) (hw : o.w < 18446744073709551616) (hwhy : whyNot v l o = 0) (h1 : o.kind = 4) (hn0 : hasN l o.name = true) (A : Option Addr) (c : Nat) (w : World) (hR : RdK w w.heap.size A l.length l) (hn : l.length ≤ 100000) :
    Calls Try.prog 19 #[.agg #[.int .i64 v, .slice A l.length c], .agg o.arr] w (PoolP w (v + 1) (l.set (lowN l o.name) ((gotN l o.name).toD true)) 0) := by
  have HS := Lib.hid hs
  have HR1 := Lib.hid (fun ob ob' ob2 => (((hR.alloc (Nat.le_refl _) ob).alloc (by simp) ob').alloc (by simp; omega) ob2).more (B' := (((w.alloc ob).alloc ob').alloc ob2).heap.size) (by simp; omega))
  have HB0 := Lib.hid (fun ob ob' ob2 => ((((Below.refl w.heap.size w).alloc (Nat.le_refl _) ob).alloc (by simp) ob').alloc (by simp; omega) ob2 : Below w.heap.size w (((w.alloc ob).alloc ob').alloc ob2)))
  have hwy := fun A c W (hR : RdK W W.heap.size A l.length l) => why_any l hs v o hf hw A c W hR (by omega)
  rw [hwhy] at hwy
  have HWY := Lib.hid hwy
  clear hR hs hwy hwhy
  obtain ⟨hv1, hv2⟩ := hv
  have hli := lowN_lt hn0
  have hin : ((lowN l o.name : Nat) : Int) < (l.length : Nat) := by omega
  have HG := Lib.hid (gotN_yes hn0)
  clear hn0
  go_enter Try.func19, Try.ntmps19
  go_wp2_with fail
  refine (clone_all l A c _ (HR1.out _ _ _) hn).mono ?_
  rintro e w1 ⟨A1, c1, rfl, ho1, hb1⟩
  have b0 := (((Box.new w _ _).alloc _).alloc _).below hb1 (by simp; omega)
  have b1 := ((Box.new1 w _ _ _).alloc _).below hb1 (by simp)
  have b2 := (Box.new2 w _ _ _ _).below hb1 (by simp)
  have hz1 : w.heap.size + 2 < w1.heap.size := b2.lt
  have O1 := Lib.hid (own_less ho1 (show w.heap.size + 3 ≤ _ by simp))
  have HB1 := Lib.hid ((HB0.out _ _ _).trans (hb1.mono (by simp; omega)))
  clear ho1 hb1
  obtain ⟨x1, x2, x3, x4⟩ := b0.facts
  obtain ⟨y1, y2, y3, y4⟩ := b1.facts
  have B0 := Lib.hid b0
  have B1 := Lib.hid b1
  have B2 := Lib.hid b2
  clear b0 b1 b2
  go_wp2_with fail
  refine (HWY.out A1 c1 _ (own_reads (own_set O1.out (by simp) _))).mono ?_
  rintro e w2 ⟨rfl, hb2⟩
  have hsz : (w1.setCell ⟨w.heap.size, 1, none⟩ (Value.slice A1 l.length c1)).heap.size = w1.heap.size := by simp [World.setCell]
  have b0 := (B0.out.set_same 1 (Value.slice A1 l.length c1)).below hb2 (by rw [hsz]; omega)
  have b1 := (B1.out.set_other ⟨w.heap.size, 1, none⟩ (Value.slice A1 l.length c1) (by simp)).below hb2 (by rw [hsz]; omega)
  have b2 := (B2.out.set_other ⟨w.heap.size, 1, none⟩ (Value.slice A1 l.length c1) (by simp)).below hb2 (by rw [hsz]; omega)
  have O2 := Lib.hid (own_below (own_set O1.out (by simp) _) hb2)
  have HB2 := Lib.hid ((HB1.out.setCell (Nat.le_refl _) _).trans (hb2.mono (by rw [hsz]; omega)))
  have hz2 : w.heap.size + 2 < w2.heap.size := b2.lt
  have hz21 : w.heap.size + 1 < w2.heap.size := b1.lt
  have hz20 : w.heap.size < w2.heap.size := b0.lt
  clear hb2 hsz x1 x2 x3 x4 y1 y2 y3 y4 hz1 HB1 O1 HR1 HWY
  obtain ⟨x1, x2, x3, x4⟩ := b0.facts
  obtain ⟨y1, y2, y3, y4⟩ := b1.facts
  have B0 := Lib.hid b0
  have B1 := Lib.hid b1
  have B2 := Lib.hid b2
  clear b0 b1 b2
  go_wp2_with fail
  refine (at_any l HS.out o.name (v + 1) A1 c1 _ (own_reads (own_set O2.out (by simp) _)) (by omega)).mono ?_
  rintro e w3 ⟨rfl, hb3⟩
  have hsz : (w2.setCell ⟨w.heap.size, 0, none⟩ (Value.int .i64 (v + 1))).heap.size = w2.heap.size := by simp [World.setCell]
  have b0 := (B0.out.set_same 0 (Value.int .i64 (v + 1))).below hb3 (by rw [hsz]; omega)
  have b1 := (B1.out.set_other ⟨w.heap.size, 0, none⟩ (Value.int .i64 (v + 1)) (by simp)).below hb3 (by rw [hsz]; omega)
  have b2 := (B2.out.set_other ⟨w.heap.size, 0, none⟩ (Value.int .i64 (v + 1)) (by simp)).below hb3 (by rw [hsz]; omega)
  have ho3 := own_below (own_set O2.out (show w.heap.size < w.heap.size + 3 by omega) (Value.int .i64 (v + 1))) hb3
  have HB3 := Lib.hid ((HB2.out.setCell (Nat.le_refl _) (Value.int .i64 (v + 1))).trans (hb3.mono (by rw [hsz]; omega)))
  obtain ⟨g, hA1⟩ : ∃ g, A1 = some ⟨g, 0, none⟩ := by
    rcases ho3.2 with ⟨hv, h0⟩ | ⟨g, cap, cur, hv, _⟩
    · omega
    · injection hv with e1 _ _
      exact ⟨g, e1⟩
  subst hA1
  have hgb : w.heap.size + 3 ≤ g := (ho3.lt g rfl).1
  have hgl : g < w3.heap.size := (ho3.lt g rfl).2
  obtain ⟨bb, oo, hbo, _, hcc⟩ := (own_reads ho3).cell hli
  injection hbo with hbo
  injection hbo with e1 e2
  subst e1 e2
  have O3 := Lib.hid ho3
  have hz3 : w.heap.size < w3.heap.size := b0.lt
  have hz31 : w.heap.size + 1 < w3.heap.size := b1.lt
  have hz32 : w.heap.size + 2 < w3.heap.size := b2.lt
  clear hb3 hsz x1 x2 x3 x4 y1 y2 y3 y4 HB2 O2 ho3
  have hcl : w3.cell? ⟨g, lowN l o.name * 27 + 26, none⟩ = some (.bool (gotN l o.name).drain) := by
    have := hcc 26 (by omega)
    rw [Nat.zero_add] at this
    rw [this, ← HG.out]
    exact Bk.arr_26 _
  have hfr : w3.frozen? ⟨g, lowN l o.name * 27 + 26, none⟩ = false := by
    rcases O3.out.2 with ⟨hv, h0⟩ | ⟨g', cap, cur, hv, q2, q3, q4, q5, q6, q7⟩
    · cases hv
    injection hv with e1 e2 e3
    injection e1 with e1
    injection e1 with e1
    subst e1
    simp [World.frozen?, q3]
  clear hcc
  obtain ⟨x1, x2, x3, x4⟩ := b0.facts
  obtain ⟨y1, y2, y3, y4⟩ := b1.facts
  obtain ⟨u1, u2, u3, u4⟩ := b2.facts
  have B0 := Lib.hid b0
  have B2 := Lib.hid b2
  clear b0 b1 b2
  go_wp2_with fail
  have O4 := Lib.hid (own_put O3.out (lowN l o.name * 27 + 26) (by omega) (.bool true))
  have hxs : (cellsBk l).set (lowN l o.name * 27 + 26) (.bool true) = cellsBk (l.set (lowN l o.name) ((gotN l o.name).toD true)) :=
    cellsBk_ext l (lowN l o.name) hli _ 26 (by omega) _ (by rw [← HG.out]; exact (Bk.set_d (gotN l o.name) _).symm)
  rw [hxs] at O4
  have b2 := ((B2.out.set_other ⟨g, lowN l o.name * 27 + 26, none⟩ (.bool true) (by show g ≠ _; omega)).set_same 0 (.int .i64 (v + 1))).set_same 1 (.slice (some ⟨g, 0, none⟩) l.length c1)
  obtain ⟨z1, z2, z3, z4⟩ := b2.facts
  have hZ := z3 0 2 (Nat.le_refl _)
  have hlen : (l.set (lowN l o.name) ((gotN l o.name).toD true)).length = l.length := List.length_set
  refine bodyPost_ret (ret_pool rfl _ _ _ _ rfl (by rw [hZ]; trivial)) rfl ⟨some ⟨g, 0, none⟩, c1, ?_, ?_, ((HB3.out.setCell (show w.heap.size ≤ g by omega) _).setCell (show w.heap.size ≤ w.heap.size + 2 by omega) _).setCell (show w.heap.size ≤ w.heap.size + 2 by omega) _⟩
  · rw [z4 0 2 (Nat.le_refl _), hlen]
    rfl
  · rw [hlen]
    exact own_less (base := w.heap.size + 3) (own_set (own_set O4.out (show w.heap.size + 2 < w.heap.size + 3 by omega) _) (show w.heap.size + 2 < w.heap.size + 3 by omega) _) (by omega)
set_option maxHeartbeats 400000 in
set_option maxRecDepth 100000 in
theorem do_back (l : List Bk) (hs : Srt l) (v : Int) (hv : -9223372036854775808 ≤ v ∧ v < 9223372036854775807) (o : Opr) (hf : o.bk.fine) (hw : o.w < 18446744073709551616) (hwhy : whyNot v l o = 0) (h1 : o.kind = 5) (hn0 : hasN l o.name = true) (A : Option Addr) (c : Nat) (w : World) (hR : RdK w w.heap.size A l.length l) (hn : l.length ≤ 100000) :
    Calls Try.prog 19 #[.agg #[.int .i64 v, .slice A l.length c], .agg o.arr] w (PoolP w (v + 1) (l.set (lowN l o.name) ((gotN l o.name).toD false)) 0) := by
  have HS := Lib.hid hs
  have HR1 := Lib.hid (fun ob ob' ob2 => (((hR.alloc (Nat.le_refl _) ob).alloc (by simp) ob').alloc (by simp; omega) ob2).more (B' := (((w.alloc ob).alloc ob').alloc ob2).heap.size) (by simp; omega))
  have HB0 := Lib.hid (fun ob ob' ob2 => ((((Below.refl w.heap.size w).alloc (Nat.le_refl _) ob).alloc (by simp) ob').alloc (by simp; omega) ob2 : Below w.heap.size w (((w.alloc ob).alloc ob').alloc ob2)))
  have hwy := fun A c W (hR : RdK W W.heap.size A l.length l) => why_any l hs v o hf hw A c W hR (by omega)
  rw [hwhy] at hwy
  have HWY := Lib.hid hwy
  clear hR hs hwy hwhy
  obtain ⟨hv1, hv2⟩ := hv
  have hli := lowN_lt hn0
  have hin : ((lowN l o.name : Nat) : Int) < (l.length : Nat) := by omega
  have HG := Lib.hid (gotN_yes hn0)
  clear hn0
  go_enter Try.func19, Try.ntmps19
  go_wp2_with fail
  refine (clone_all l A c _ (HR1.out _ _ _) hn).mono ?_
  rintro e w1 ⟨A1, c1, rfl, ho1, hb1⟩
  have b0 := (((Box.new w _ _).alloc _).alloc _).below hb1 (by simp; omega)
  have b1 := ((Box.new1 w _ _ _).alloc _).below hb1 (by simp)
  have b2 := (Box.new2 w _ _ _ _).below hb1 (by simp)
  have hz1 : w.heap.size + 2 < w1.heap.size := b2.lt
  have O1 := Lib.hid (own_less ho1 (show w.heap.size + 3 ≤ _ by simp))
  have HB1 := Lib.hid ((HB0.out _ _ _).trans (hb1.mono (by simp; omega)))
  clear ho1 hb1
  obtain ⟨x1, x2, x3, x4⟩ := b0.facts
  obtain ⟨y1, y2, y3, y4⟩ := b1.facts
  have B0 := Lib.hid b0
  have B1 := Lib.hid b1
  have B2 := Lib.hid b2
  clear b0 b1 b2
  go_wp2_with fail
  refine (HWY.out A1 c1 _ (own_reads (own_set O1.out (by simp) _))).mono ?_
  rintro e w2 ⟨rfl, hb2⟩
  have hsz : (w1.setCell ⟨w.heap.size, 1, none⟩ (Value.slice A1 l.length c1)).heap.size = w1.heap.size := by simp [World.setCell]
  have b0 := (B0.out.set_same 1 (Value.slice A1 l.length c1)).below hb2 (by rw [hsz]; omega)
  have b1 := (B1.out.set_other ⟨w.heap.size, 1, none⟩ (Value.slice A1 l.length c1) (by simp)).below hb2 (by rw [hsz]; omega)
  have b2 := (B2.out.set_other ⟨w.heap.size, 1, none⟩ (Value.slice A1 l.length c1) (by simp)).below hb2 (by rw [hsz]; omega)
  have O2 := Lib.hid (own_below (own_set O1.out (by simp) _) hb2)
  have HB2 := Lib.hid ((HB1.out.setCell (Nat.le_refl _) _).trans (hb2.mono (by rw [hsz]; omega)))
  have hz2 : w.heap.size + 2 < w2.heap.size := b2.lt
  have hz21 : w.heap.size + 1 < w2.heap.size := b1.lt
  have hz20 : w.heap.size < w2.heap.size := b0.lt
  clear hb2 hsz x1 x2 x3 x4 y1 y2 y3 y4 hz1 HB1 O1 HR1 HWY
  obtain ⟨x1, x2, x3, x4⟩ := b0.facts
  obtain ⟨y1, y2, y3, y4⟩ := b1.facts
  have B0 := Lib.hid b0
  have B1 := Lib.hid b1
  have B2 := Lib.hid b2
  clear b0 b1 b2
  go_wp2_with fail
  refine (at_any l HS.out o.name (v + 1) A1 c1 _ (own_reads (own_set O2.out (by simp) _)) (by omega)).mono ?_
  rintro e w3 ⟨rfl, hb3⟩
  have hsz : (w2.setCell ⟨w.heap.size, 0, none⟩ (Value.int .i64 (v + 1))).heap.size = w2.heap.size := by simp [World.setCell]
  have b0 := (B0.out.set_same 0 (Value.int .i64 (v + 1))).below hb3 (by rw [hsz]; omega)
  have b1 := (B1.out.set_other ⟨w.heap.size, 0, none⟩ (Value.int .i64 (v + 1)) (by simp)).below hb3 (by rw [hsz]; omega)
  have b2 := (B2.out.set_other ⟨w.heap.size, 0, none⟩ (Value.int .i64 (v + 1)) (by simp)).below hb3 (by rw [hsz]; omega)
  have ho3 := own_below (own_set O2.out (show w.heap.size < w.heap.size + 3 by omega) (Value.int .i64 (v + 1))) hb3
  have HB3 := Lib.hid ((HB2.out.setCell (Nat.le_refl _) (Value.int .i64 (v + 1))).trans (hb3.mono (by rw [hsz]; omega)))
  obtain ⟨g, hA1⟩ : ∃ g, A1 = some ⟨g, 0, none⟩ := by
    rcases ho3.2 with ⟨hv, h0⟩ | ⟨g, cap, cur, hv, _⟩
    · omega
    · injection hv with e1 _ _
      exact ⟨g, e1⟩
  subst hA1
  have hgb : w.heap.size + 3 ≤ g := (ho3.lt g rfl).1
  have hgl : g < w3.heap.size := (ho3.lt g rfl).2
  obtain ⟨bb, oo, hbo, _, hcc⟩ := (own_reads ho3).cell hli
  injection hbo with hbo
  injection hbo with e1 e2
  subst e1 e2
  have O3 := Lib.hid ho3
  have hz3 : w.heap.size < w3.heap.size := b0.lt
  have hz31 : w.heap.size + 1 < w3.heap.size := b1.lt
  have hz32 : w.heap.size + 2 < w3.heap.size := b2.lt
  clear hb3 hsz x1 x2 x3 x4 y1 y2 y3 y4 HB2 O2 ho3
  have hcl : w3.cell? ⟨g, lowN l o.name * 27 + 26, none⟩ = some (.bool (gotN l o.name).drain) := by
    have := hcc 26 (by omega)
    rw [Nat.zero_add] at this
    rw [this, ← HG.out]
    exact Bk.arr_26 _
  have hfr : w3.frozen? ⟨g, lowN l o.name * 27 + 26, none⟩ = false := by
    rcases O3.out.2 with ⟨hv, h0⟩ | ⟨g', cap, cur, hv, q2, q3, q4, q5, q6, q7⟩
    · cases hv
    injection hv with e1 e2 e3
    injection e1 with e1
    injection e1 with e1
    subst e1
    simp [World.frozen?, q3]
  clear hcc
  obtain ⟨x1, x2, x3, x4⟩ := b0.facts
  obtain ⟨y1, y2, y3, y4⟩ := b1.facts
  obtain ⟨u1, u2, u3, u4⟩ := b2.facts
  have B0 := Lib.hid b0
  have B2 := Lib.hid b2
  clear b0 b1 b2
  go_wp2_with fail
  have O4 := Lib.hid (own_put O3.out (lowN l o.name * 27 + 26) (by omega) (.bool false))
  have hxs : (cellsBk l).set (lowN l o.name * 27 + 26) (.bool false) = cellsBk (l.set (lowN l o.name) ((gotN l o.name).toD false)) :=
    cellsBk_ext l (lowN l o.name) hli _ 26 (by omega) _ (by rw [← HG.out]; exact (Bk.set_d (gotN l o.name) _).symm)
  rw [hxs] at O4
  have b2 := ((B2.out.set_other ⟨g, lowN l o.name * 27 + 26, none⟩ (.bool false) (by show g ≠ _; omega)).set_same 0 (.int .i64 (v + 1))).set_same 1 (.slice (some ⟨g, 0, none⟩) l.length c1)
  obtain ⟨z1, z2, z3, z4⟩ := b2.facts
  have hZ := z3 0 2 (Nat.le_refl _)
  have hlen : (l.set (lowN l o.name) ((gotN l o.name).toD false)).length = l.length := List.length_set
  refine bodyPost_ret (ret_pool rfl _ _ _ _ rfl (by rw [hZ]; trivial)) rfl ⟨some ⟨g, 0, none⟩, c1, ?_, ?_, ((HB3.out.setCell (show w.heap.size ≤ g by omega) _).setCell (show w.heap.size ≤ w.heap.size + 2 by omega) _).setCell (show w.heap.size ≤ w.heap.size + 2 by omega) _⟩
  · rw [z4 0 2 (Nat.le_refl _), hlen]
    rfl
  · rw [hlen]
    exact own_less (base := w.heap.size + 3) (own_set (own_set O4.out (show w.heap.size + 2 < w.heap.size + 3 by omega) _) (show w.heap.size + 2 < w.heap.size + 3 by omega) _) (by omega)
end Go.Proofs.Ytgcahcjffoehfaa
