/- What is added to a pool: the document's way. -/
import Derived.Test.YtgcahcjffoehfaaPlB
import Derived.Test.YtgcahcjffoehfaaPoM
import Derived.Test.YtgcahcjffoehfaaPoG
import Derived.Deep.QuietTactic
import Derived.BigQuiet
import Derived.Test.YtgcahcjffoehfaaPoAw
set_option linter.unusedSimpArgs false
set_option linter.unusedVariables false
namespace Go.Proofs.Ytgcahcjffoehfaa
open Go.RowKit

theorem take_snocG {α : Type} (l : List α) (i : Nat) (y : α) (h : l[i]? = some y) : l.take i ++ [y] = l.take (i + 1) := by
  have hi : i < l.length := (List.getElem?_eq_some_iff.1 h).1
  have hy := (List.getElem?_eq_some_iff.1 h).2
  rw [List.take_succ_eq_append_getElem hi, hy]
theorem getD_some (l : List Bk) (i : Nat) (hi : i < l.length) : l[i]? = some (l.getD i noBk) := by
  rw [List.getD_eq_getElem?_getD, List.getElem?_eq_getElem hi]; rfl
theorem insAt_take_lt (l : List Bk) (k : Nat) (x : Bk) (i : Nat) (hk : k < i) (hi : i < l.length) : (insAt l k x).take (i + 1) ++ [l.getD i noBk] = (insAt l k x).take (i + 1 + 1) := by
  refine take_snocG _ _ _ ?_
  rw [insAt_get l k x (by omega), if_neg (by omega), if_neg (by omega), Nat.add_sub_cancel]
  exact getD_some l i hi
theorem insAt_take_le (l : List Bk) (k : Nat) (x : Bk) (i : Nat) (hi : i ≤ k) (hk : k ≤ l.length) : (insAt l k x).take i = l.take i := by
  unfold insAt
  rw [List.take_append_of_le_length (by rw [List.length_take]; omega), List.take_take, Nat.min_eq_left hi]
theorem insAt_take_at (l : List Bk) (k : Nat) (x : Bk) (hk : k ≤ l.length) : l.take k ++ [x] = (insAt l k x).take (k + 1) := by
  rw [← insAt_take_le l k x k (Nat.le_refl _) hk]
  refine take_snocG _ _ _ ?_
  rw [insAt_get l k x hk, if_neg (by omega), if_pos rfl]
theorem insAt_take_next (l : List Bk) (k : Nat) (x : Bk) (hk : k < l.length) : (insAt l k x).take (k + 1) ++ [l.getD k noBk] = (insAt l k x).take (k + 1 + 1) := by
  refine take_snocG _ _ _ ?_
  rw [insAt_get l k x (by omega), if_neg (by omega), if_neg (by omega), Nat.add_sub_cancel]
  exact getD_some l k hk
theorem insAt_whole (l : List Bk) (k : Nat) (x : Bk) (hk : k ≤ l.length) : (insAt l k x).take (l.length + 1) = insAt l k x := List.take_of_length_le (by rw [insAt_length]; omega)
theorem take_snocBk (l : List Bk) (i : Nat) (hi : i < l.length) : l.take i ++ [l.getD i noBk] = l.take (i + 1) := by
  rw [List.take_succ_eq_append_getElem hi, List.getD_eq_getElem?_getD, List.getElem?_eq_getElem hi]; rfl
theorem cellsBk_snoc (l : List Bk) (x : Bk) : cellsBk l ++ x.arr.toList = cellsBk (l ++ [x]) := by rw [cellsBk_append, cellsBk_cons]; simp [cellsBk]
/-- where the loop of add stands behind i rounds -/
def AddR (l : List Bk) (k : Nat) (x : Bk) (i : Nat) (d : Bool) (m : Nat) (out : List Bk) : Prop :=
  (i ≤ k ∧ d = false ∧ m = i ∧ out = l.take i) ∨ (k < i ∧ d = true ∧ m = i + 1 ∧ out = (insAt l k x).take (i + 1))
end Go.Proofs.Ytgcahcjffoehfaa

/-! What is added to a pool: the document's way. -/
namespace Go.Proofs.Ytgcahcjffoehfaa
open Go.RowKit

theorem refFindP_any (l : List Bk) (hs : Srt l) (s : List UInt8) (v : Int) (A : Option Addr) (n c : Nat) (w : World) (hR : RdK w w.heap.size A n l) (hn : l.length ≤ 100000) (k : Int) (hk : posN l s = k) :
    Calls Try.prog 42 #[.agg #[.int .i64 v, .slice A n c], .string (textOf s)] w fun e w' => e = .returned (.int .i64 k) ∧ Below w.heap.size w w' := by
  subst hk
  obtain rfl := hR.1
  exact refFind_any l hs s v A c w hR (by omega)
theorem fairK_any (x : Bk) (w : World) (hf : x.fine) (K : Bool) (hK : x.fair = K) :
    Calls Try.prog 31 #[.agg x.arr] w fun e w' => e = .returned (.bool K) ∧ Below w.heap.size w w' := by
  subst hK
  exact fair_bk x w hf.1 hf.2
theorem row_rd (w : World) (z : Bk) : Rd (w.alloc (.cells z.arr 36)) (w.heap.size + 1) 27 (some ⟨w.heap.size, 0, none⟩) 1 z.arr.toList :=
  ⟨by rw [Array.length_toList, Bk.arr_size], fun _ => ⟨_, rfl, Nat.lt_succ_self _, src_row _ _ z.arr _ _ (heap_alloc_new w (.cells z.arr 36))⟩⟩
set_option maxHeartbeats 2000000 in
set_option maxRecDepth 100000 in
theorem refAdd_unfair (l : List Bk) (hs : Srt l) (v : Int) (hv : -9223372036854775808 ≤ v ∧ v < 9223372036854775807) (x : Bk) (hf : x.fine) (A : Option Addr) (n c : Nat) (w : World) (hR : RdK w w.heap.size A n l) (hn : l.length ≤ 100000) (hfa : x.fair = false) :
    Calls Try.prog 40 #[.agg #[.int .i64 v, .slice A n c], .agg x.arr] w (PoolC w v n l 1) := by
  have RB := Lib.hid hR
  have HNL := Lib.hid hR.1
  have R0 := Lib.hid (fun ob ob' ob2 => ((hR.up ob).up ob').up ob2)
  have HB0 := Lib.hid (fun ob ob' ob2 => ((((Below.refl w.heap.size w).alloc (Nat.le_refl _) ob).alloc (by simp) ob').alloc (by simp; omega) ob2 : Below w.heap.size w (((w.alloc ob).alloc ob').alloc ob2)))
  have hnle : n ≤ 100000 := by have := hR.1; omega
  have HS := Lib.hid hs
  obtain ⟨hv1, hv2⟩ := hv
  have FA := Lib.hid (fun W => fairK_any x W hf false hfa)
  clear hR hs
  go_enter Try.func40, Try.ntmps40
  go_wp2_with fail
  refine (FA.out _).mono ?_
  rintro e w1 ⟨rfl, hb1⟩
  have Bp := Lib.hid ((((Box.new w _ _).alloc _).alloc _).go hb1)
  have Bx := Lib.hid (((Box.new1 w _ _ _).alloc _).go hb1)
  have Br := Lib.hid ((Box.new2 w _ _ _ _).go hb1)
  have Rp := Lib.hid ((R0.out _ _ _).go hb1)
  have HB0 := Lib.hid (call0 (HB0.out _ _ _) hb1)
  clear hb1
  obtain ⟨xp1, xp2, xp3, xp4⟩ := Bp.out.facts
  have lp := Bp.out.lt
  obtain ⟨xx1, xx2, xx3, xx4⟩ := Bx.out.facts
  have lx := Bx.out.lt
  obtain ⟨xr1, xr2, xr3, xr4⟩ := Br.out.facts
  have lr := Br.out.lt
  go_wp2_with fail
  have b2 := (Br.out.set_same 0 (.int .i64 v)).set_same 1 (.slice A n c)
  obtain ⟨z1, z2, z3, z4⟩ := b2.facts
  have hZ := z3 0 2 (Nat.le_refl _)
  have HBF := (HB0.out.setCell (show w.heap.size ≤ w.heap.size + 2 by omega) (p := ⟨w.heap.size + 2, 0, none⟩) (.int .i64 v)).setCell (show w.heap.size ≤ w.heap.size + 2 by omega) (p := ⟨w.heap.size + 2, 1, none⟩) (.slice A n c)
  refine bodyPost_ret (ret_pool rfl _ _ _ _ rfl (by rw [hZ]; trivial)) rfl ⟨A, c, ?_, (RB.out.below HBF).more HBF.size, HBF⟩
  rw [z4 0 2 (Nat.le_refl _)]
  rfl

set_option maxHeartbeats 2000000 in
set_option maxRecDepth 100000 in
theorem refAdd_twice (l : List Bk) (hs : Srt l) (v : Int) (hv : -9223372036854775808 ≤ v ∧ v < 9223372036854775807) (x : Bk) (hf : x.fine) (A : Option Addr) (n c : Nat) (w : World) (hR : RdK w w.heap.size A n l) (hn : l.length ≤ 100000) (hfa : x.fair = true) (hha : hasN l x.name = true) :
    Calls Try.prog 40 #[.agg #[.int .i64 v, .slice A n c], .agg x.arr] w (PoolC w v n l 6) := by
  have RB := Lib.hid hR
  have HNL := Lib.hid hR.1
  have R0 := Lib.hid (fun ob ob' ob2 => ((hR.up ob).up ob').up ob2)
  have HB0 := Lib.hid (fun ob ob' ob2 => ((((Below.refl w.heap.size w).alloc (Nat.le_refl _) ob).alloc (by simp) ob').alloc (by simp; omega) ob2 : Below w.heap.size w (((w.alloc ob).alloc ob').alloc ob2)))
  have hnle : n ≤ 100000 := by have := hR.1; omega
  have HS := Lib.hid hs
  obtain ⟨hv1, hv2⟩ := hv
  have FA := Lib.hid (fun W => fairK_any x W hf true hfa)
  have FI := Lib.hid (fun A n c W (h : RdK W W.heap.size A n l) => refFindP_any l HS.out x.name v A n c W h hn ((lowN l x.name : Nat)) (by simp [posN, hha]))
  clear hR hs
  go_enter Try.func40, Try.ntmps40
  go_wp2_with fail
  refine (FA.out _).mono ?_
  rintro e w1 ⟨rfl, hb1⟩
  have Bp := Lib.hid ((((Box.new w _ _).alloc _).alloc _).go hb1)
  have Bx := Lib.hid (((Box.new1 w _ _ _).alloc _).go hb1)
  have Br := Lib.hid ((Box.new2 w _ _ _ _).go hb1)
  have Rp := Lib.hid ((R0.out _ _ _).go hb1)
  have HB0 := Lib.hid (call0 (HB0.out _ _ _) hb1)
  clear hb1
  obtain ⟨xp1, xp2, xp3, xp4⟩ := Bp.out.facts
  have lp := Bp.out.lt
  obtain ⟨xx1, xx2, xx3, xx4⟩ := Bx.out.facts
  have lx := Bx.out.lt
  obtain ⟨xr1, xr2, xr3, xr4⟩ := Br.out.facts
  have lr := Br.out.lt
  go_wp2_with fail
  refine (FI.out A n c _ Rp.out).mono ?_
  rintro e w2 ⟨rfl, hb1⟩
  have Bp := Lib.hid ((Bp.out).go hb1)
  have Bx := Lib.hid ((Bx.out).go hb1)
  have Br := Lib.hid ((Br.out).go hb1)
  have Rp := Lib.hid ((Rp.out).go hb1)
  have HB0 := Lib.hid (call0 HB0.out hb1)
  clear hb1
  clear xp1 xp2 xp3 xp4 lp
  clear xx1 xx2 xx3 xx4 lx
  clear xr1 xr2 xr3 xr4 lr
  obtain ⟨xp1, xp2, xp3, xp4⟩ := Bp.out.facts
  have lp := Bp.out.lt
  obtain ⟨xx1, xx2, xx3, xx4⟩ := Bx.out.facts
  have lx := Bx.out.lt
  obtain ⟨xr1, xr2, xr3, xr4⟩ := Br.out.facts
  have lr := Br.out.lt
  go_wp2_with fail
  have b2 := (Br.out.set_same 0 (.int .i64 v)).set_same 1 (.slice A n c)
  obtain ⟨z1, z2, z3, z4⟩ := b2.facts
  have hZ := z3 0 2 (Nat.le_refl _)
  have HBF := (HB0.out.setCell (show w.heap.size ≤ w.heap.size + 2 by omega) (p := ⟨w.heap.size + 2, 0, none⟩) (.int .i64 v)).setCell (show w.heap.size ≤ w.heap.size + 2 by omega) (p := ⟨w.heap.size + 2, 1, none⟩) (.slice A n c)
  refine bodyPost_ret (ret_pool rfl _ _ _ _ rfl (by rw [hZ]; trivial)) rfl ⟨A, c, ?_, (RB.out.below HBF).more HBF.size, HBF⟩
  rw [z4 0 2 (Nat.le_refl _)]
  rfl

set_option maxHeartbeats 2000000 in
set_option maxRecDepth 100000 in
theorem refAdd_full (l : List Bk) (hs : Srt l) (v : Int) (hv : -9223372036854775808 ≤ v ∧ v < 9223372036854775807) (x : Bk) (hf : x.fine) (A : Option Addr) (n c : Nat) (w : World) (hR : RdK w w.heap.size A n l) (hn : l.length ≤ 100000) (hfa : x.fair = true) (hha : hasN l x.name = false) (hl : 1024 ≤ n) :
    Calls Try.prog 40 #[.agg #[.int .i64 v, .slice A n c], .agg x.arr] w (PoolC w v n l 7) := by
  have RB := Lib.hid hR
  have HNL := Lib.hid hR.1
  have R0 := Lib.hid (fun ob ob' ob2 => ((hR.up ob).up ob').up ob2)
  have HB0 := Lib.hid (fun ob ob' ob2 => ((((Below.refl w.heap.size w).alloc (Nat.le_refl _) ob).alloc (by simp) ob').alloc (by simp; omega) ob2 : Below w.heap.size w (((w.alloc ob).alloc ob').alloc ob2)))
  have hnle : n ≤ 100000 := by have := hR.1; omega
  have HS := Lib.hid hs
  obtain ⟨hv1, hv2⟩ := hv
  have FA := Lib.hid (fun W => fairK_any x W hf true hfa)
  have FI := Lib.hid (fun A n c W (h : RdK W W.heap.size A n l) => refFindP_any l HS.out x.name v A n c W h hn (-1) (by simp [posN, hha]))
  have hl' : (1024 : Int) ≤ (n : Nat) := by omega
  clear hR hs
  go_enter Try.func40, Try.ntmps40
  go_wp2_with fail
  refine (FA.out _).mono ?_
  rintro e w1 ⟨rfl, hb1⟩
  have Bp := Lib.hid ((((Box.new w _ _).alloc _).alloc _).go hb1)
  have Bx := Lib.hid (((Box.new1 w _ _ _).alloc _).go hb1)
  have Br := Lib.hid ((Box.new2 w _ _ _ _).go hb1)
  have Rp := Lib.hid ((R0.out _ _ _).go hb1)
  have HB0 := Lib.hid (call0 (HB0.out _ _ _) hb1)
  clear hb1
  obtain ⟨xp1, xp2, xp3, xp4⟩ := Bp.out.facts
  have lp := Bp.out.lt
  obtain ⟨xx1, xx2, xx3, xx4⟩ := Bx.out.facts
  have lx := Bx.out.lt
  obtain ⟨xr1, xr2, xr3, xr4⟩ := Br.out.facts
  have lr := Br.out.lt
  go_wp2_with fail
  refine (FI.out A n c _ Rp.out).mono ?_
  rintro e w2 ⟨rfl, hb1⟩
  have Bp := Lib.hid ((Bp.out).go hb1)
  have Bx := Lib.hid ((Bx.out).go hb1)
  have Br := Lib.hid ((Br.out).go hb1)
  have Rp := Lib.hid ((Rp.out).go hb1)
  have HB0 := Lib.hid (call0 HB0.out hb1)
  clear hb1
  clear xp1 xp2 xp3 xp4 lp
  clear xx1 xx2 xx3 xx4 lx
  clear xr1 xr2 xr3 xr4 lr
  obtain ⟨xp1, xp2, xp3, xp4⟩ := Bp.out.facts
  have lp := Bp.out.lt
  obtain ⟨xx1, xx2, xx3, xx4⟩ := Bx.out.facts
  have lx := Bx.out.lt
  obtain ⟨xr1, xr2, xr3, xr4⟩ := Br.out.facts
  have lr := Br.out.lt
  go_wp2_with fail
  have b2 := (Br.out.set_same 0 (.int .i64 v)).set_same 1 (.slice A n c)
  obtain ⟨z1, z2, z3, z4⟩ := b2.facts
  have hZ := z3 0 2 (Nat.le_refl _)
  have HBF := (HB0.out.setCell (show w.heap.size ≤ w.heap.size + 2 by omega) (p := ⟨w.heap.size + 2, 0, none⟩) (.int .i64 v)).setCell (show w.heap.size ≤ w.heap.size + 2 by omega) (p := ⟨w.heap.size + 2, 1, none⟩) (.slice A n c)
  refine bodyPost_ret (ret_pool rfl _ _ _ _ rfl (by rw [hZ]; trivial)) rfl ⟨A, c, ?_, (RB.out.below HBF).more HBF.size, HBF⟩
  rw [z4 0 2 (Nat.le_refl _)]
  rfl

set_option maxHeartbeats 2000000 in
set_option maxRecDepth 100000 in
theorem refAdd_old (l : List Bk) (hs : Srt l) (v : Int) (hv : -9223372036854775808 ≤ v ∧ v < 9223372036854775807) (x : Bk) (hf : x.fine) (A : Option Addr) (n c : Nat) (w : World) (hR : RdK w w.heap.size A n l) (hn : l.length ≤ 100000) (hfa : x.fair = true) (hha : hasN l x.name = false) (hl : n < 1024) (hvv : 1099511627776 ≤ v) :
    Calls Try.prog 40 #[.agg #[.int .i64 v, .slice A n c], .agg x.arr] w (PoolC w v n l 7) := by
  have RB := Lib.hid hR
  have HNL := Lib.hid hR.1
  have R0 := Lib.hid (fun ob ob' ob2 => ((hR.up ob).up ob').up ob2)
  have HB0 := Lib.hid (fun ob ob' ob2 => ((((Below.refl w.heap.size w).alloc (Nat.le_refl _) ob).alloc (by simp) ob').alloc (by simp; omega) ob2 : Below w.heap.size w (((w.alloc ob).alloc ob').alloc ob2)))
  have hnle : n ≤ 100000 := by have := hR.1; omega
  have HS := Lib.hid hs
  obtain ⟨hv1, hv2⟩ := hv
  have FA := Lib.hid (fun W => fairK_any x W hf true hfa)
  have FI := Lib.hid (fun A n c W (h : RdK W W.heap.size A n l) => refFindP_any l HS.out x.name v A n c W h hn (-1) (by simp [posN, hha]))
  have hl' : decide ((1024 : Int) ≤ (n : Nat)) = false := by simp; omega
  clear hR hs
  go_enter Try.func40, Try.ntmps40
  go_wp2_with fail
  refine (FA.out _).mono ?_
  rintro e w1 ⟨rfl, hb1⟩
  have Bp := Lib.hid ((((Box.new w _ _).alloc _).alloc _).go hb1)
  have Bx := Lib.hid (((Box.new1 w _ _ _).alloc _).go hb1)
  have Br := Lib.hid ((Box.new2 w _ _ _ _).go hb1)
  have Rp := Lib.hid ((R0.out _ _ _).go hb1)
  have HB0 := Lib.hid (call0 (HB0.out _ _ _) hb1)
  clear hb1
  obtain ⟨xp1, xp2, xp3, xp4⟩ := Bp.out.facts
  have lp := Bp.out.lt
  obtain ⟨xx1, xx2, xx3, xx4⟩ := Bx.out.facts
  have lx := Bx.out.lt
  obtain ⟨xr1, xr2, xr3, xr4⟩ := Br.out.facts
  have lr := Br.out.lt
  go_wp2_with fail
  refine (FI.out A n c _ Rp.out).mono ?_
  rintro e w2 ⟨rfl, hb1⟩
  have Bp := Lib.hid ((Bp.out).go hb1)
  have Bx := Lib.hid ((Bx.out).go hb1)
  have Br := Lib.hid ((Br.out).go hb1)
  have Rp := Lib.hid ((Rp.out).go hb1)
  have HB0 := Lib.hid (call0 HB0.out hb1)
  clear hb1
  clear xp1 xp2 xp3 xp4 lp
  clear xx1 xx2 xx3 xx4 lx
  clear xr1 xr2 xr3 xr4 lr
  obtain ⟨xp1, xp2, xp3, xp4⟩ := Bp.out.facts
  have lp := Bp.out.lt
  obtain ⟨xx1, xx2, xx3, xx4⟩ := Bx.out.facts
  have lx := Bx.out.lt
  obtain ⟨xr1, xr2, xr3, xr4⟩ := Br.out.facts
  have lr := Br.out.lt
  go_wp2_with fail
  have b2 := (Br.out.set_same 0 (.int .i64 v)).set_same 1 (.slice A n c)
  obtain ⟨z1, z2, z3, z4⟩ := b2.facts
  have hZ := z3 0 2 (Nat.le_refl _)
  have HBF := (HB0.out.setCell (show w.heap.size ≤ w.heap.size + 2 by omega) (p := ⟨w.heap.size + 2, 0, none⟩) (.int .i64 v)).setCell (show w.heap.size ≤ w.heap.size + 2 by omega) (p := ⟨w.heap.size + 2, 1, none⟩) (.slice A n c)
  refine bodyPost_ret (ret_pool rfl _ _ _ _ rfl (by rw [hZ]; trivial)) rfl ⟨A, c, ?_, (RB.out.below HBF).more HBF.size, HBF⟩
  rw [z4 0 2 (Nat.le_refl _)]
  rfl

set_option maxHeartbeats 2000000 in
set_option maxRecDepth 100000 in
theorem refAdd_main (l : List Bk) (hs : Srt l) (v : Int) (hv : -9223372036854775808 ≤ v ∧ v < 9223372036854775807) (x : Bk) (hf : x.fine) (A : Option Addr) (n c : Nat) (w : World) (hR : RdK w w.heap.size A n l) (hn : l.length ≤ 100000) (hfa : x.fair = true) (hha : hasN l x.name = false) (hl : n < 1024) (hvv : v < 1099511627776) :
    Calls Try.prog 40 #[.agg #[.int .i64 v, .slice A n c], .agg x.arr] w (PoolC w (v + 1) (n + 1) (insAt l (lowN l x.name) (x.toW (wPlain x.w))) 0) := by
  have RB := Lib.hid hR
  have HNL := Lib.hid hR.1
  have R0 := Lib.hid (fun ob ob' ob2 => ((hR.up ob).up ob').up ob2)
  have HB0 := Lib.hid (fun ob ob' ob2 => ((((Below.refl w.heap.size w).alloc (Nat.le_refl _) ob).alloc (by simp) ob').alloc (by simp; omega) ob2 : Below w.heap.size w (((w.alloc ob).alloc ob').alloc ob2)))
  have hnle : n ≤ 100000 := by have := hR.1; omega
  have HS := Lib.hid hs
  obtain ⟨hv1, hv2⟩ := hv
  have FA := Lib.hid (fun W => fairK_any x W hf true hfa)
  have FI := Lib.hid (fun A n c W (h : RdK W W.heap.size A n l) => refFindP_any l HS.out x.name v A n c W h hn (-1) (by simp [posN, hha]))
  have hl' : decide ((1024 : Int) ≤ (n : Nat)) = false := by simp; omega
  have hv' : decide (1099511627776 ≤ v) = false := by simp; omega
  clear hR hs
  go_enter Try.func40, Try.ntmps40
  go_wp2_with fail
  refine (FA.out _).mono ?_
  rintro e w1 ⟨rfl, hb1⟩
  have Bp := Lib.hid ((((Box.new w _ _).alloc _).alloc _).go hb1)
  have Bx := Lib.hid (((Box.new1 w _ _ _).alloc _).go hb1)
  have Br := Lib.hid ((Box.new2 w _ _ _ _).go hb1)
  have Rp := Lib.hid ((R0.out _ _ _).go hb1)
  have HB0 := Lib.hid (call0 (HB0.out _ _ _) hb1)
  clear hb1
  obtain ⟨xp1, xp2, xp3, xp4⟩ := Bp.out.facts
  have lp := Bp.out.lt
  obtain ⟨xx1, xx2, xx3, xx4⟩ := Bx.out.facts
  have lx := Bx.out.lt
  obtain ⟨xr1, xr2, xr3, xr4⟩ := Br.out.facts
  have lr := Br.out.lt
  go_wp2_with fail
  refine (FI.out A n c _ Rp.out).mono ?_
  rintro e w2 ⟨rfl, hb1⟩
  have Bp := Lib.hid ((Bp.out).go hb1)
  have Bx := Lib.hid ((Bx.out).go hb1)
  have Br := Lib.hid ((Br.out).go hb1)
  have Rp := Lib.hid ((Rp.out).go hb1)
  have HB0 := Lib.hid (call0 HB0.out hb1)
  clear hb1
  clear xp1 xp2 xp3 xp4 lp
  clear xx1 xx2 xx3 xx4 lx
  clear xr1 xr2 xr3 xr4 lr
  obtain ⟨xp1, xp2, xp3, xp4⟩ := Bp.out.facts
  have lp := Bp.out.lt
  obtain ⟨xx1, xx2, xx3, xx4⟩ := Bx.out.facts
  have lx := Bx.out.lt
  obtain ⟨xr1, xr2, xr3, xr4⟩ := Br.out.facts
  have lr := Br.out.lt
  go_wp2_with fail
  refine (refPlain_any _ _).mono ?_
  rintro e w' ⟨rfl, rfl⟩
  go_wp2_with fail
  have hsz2 : (w2.setCell ⟨w.heap.size + 1, 25, none⟩ (Value.float .f64 (wPlain x.w))).heap.size = w2.heap.size := by simp [World.setCell]
  have hw2 : w.heap.size + 2 < w2.heap.size := Br.out.lt
  obtain ⟨y, hy⟩ : ∃ y, y = x.toW (wPlain x.w) := ⟨_, rfl⟩
  have bp := Bp.out.set_other ⟨w.heap.size + 1, 25, none⟩ (.float .f64 (wPlain x.w)) (by simp)
  have br := Br.out.set_other ⟨w.heap.size + 1, 25, none⟩ (.float .f64 (wPlain x.w)) (by simp)
  have bx := Bx.out.set_same 25 (.float .f64 (wPlain x.w))
  rw [Bk.set_w, ← hy] at bx
  have HB0 := Lib.hid (HB0.out.setCell (show w.heap.size ≤ w.heap.size + 1 by omega) (p := ⟨w.heap.size + 1, 25, none⟩) (.float .f64 (wPlain x.w)))
  have Bp := Lib.hid bp
  have Br := Lib.hid br
  have Bx := Lib.hid bx
  have hyn : y.name = x.name := by rw [hy]; rfl
  have HY := Lib.hid hy
  clear bp br bx hy Rp
  clear xp1 xp2 xp3 xp4 lp
  clear xx1 xx2 xx3 xx4 lx
  clear xr1 xr2 xr3 xr4 lr
  have hbase : w.heap.size + 3 ≤ w2.heap.size := by omega
  obtain ⟨k, hk⟩ : ∃ k, k = lowN l x.name := ⟨_, rfl⟩
  have hkn : k ≤ n := by rw [hk, ← HNL.out]; exact lowN_le l _
  have HKL := Lib.hid (show k ≤ l.length by rw [hk]; exact lowN_le l _)
  have HLO := Lib.hid (show ∀ i, i < n → (i < k → cmpS (nm l i) x.name < 0) ∧ (k ≤ i → cmpS x.name (nm l i) < 0) from fun i hi => by
    have hl := HNL.out
    refine ⟨fun h => ?_, fun h => ?_⟩
    · rw [hk] at h; exact (low_split l x.name).1 i h
    · have hm : l[i]'(by omega) ∈ l.drop (lowN l x.name) := by
        rw [← hk]
        exact List.mem_iff_getElem.2 ⟨i - k, by rw [List.length_drop]; omega, by rw [List.getElem_drop]; congr 1; omega⟩
      have := low_after HS.out x.name hha hm
      rwa [nm_get l i (by omega)])
  have HK := Lib.hid hk
  clear hk hha
  obtain ⟨i0, hi0, hz0, hz1, hzb⟩ := infoBk
  have HI0 := Lib.hid hi0
  have HZ0 := Lib.hid hz0
  have HZ1 := Lib.hid hz1
  have HZ2 := Lib.hid (show (Value.agg noBk.arr).cells.size = 27 by simp [Value.cells, Bk.arr_size])
  clear hi0 hz0 hz1
  obtain ⟨wB, hwB⟩ : ∃ wB : World, wB = w2.setCell ⟨w.heap.size + 1, 25, none⟩ (Value.float .f64 (wPlain x.w)) := ⟨_, rfl⟩
  rw [← hwB] at Bp Br Bx HB0 hsz2 ⊢
  clear hwB
  rw [← hsz2] at hbase hw2
  clear hsz2
  go_loopw [6, 7, 8] (fun s6 s7 s8 wr => ∃ (i : Nat) (d : Bool) (O : Option Addr) (cap m : Nat) (out : List Bk), i ≤ n ∧ s6 = .slice O m cap ∧ s7 = .bool d ∧ s8 = .int .i64 i ∧ AddR l k y i d m out ∧ wr.ownsRow (w.heap.size + 3) 36 27 (.slice O m cap) m (cellsBk out) ∧ Below (w.heap.size + 3) wB wr) (fun _ _ s8 _ => n - (intOf s8).toNat)
  case atStart => exact ⟨0, false, none, 0, 0, [], by omega, rfl, rfl, rfl, .inl ⟨by omega, rfl, rfl, by simp⟩, World.ownsRow_nil _ _ _ _, Below.refl _ _⟩
  case round =>
    obtain ⟨i, d, O, cap, m, out, hin, rfl, rfl, rfl, hadd, ho, hb⟩ := hrel
    have bp := Bp.out.below hb (by omega)
    have bx := Bx.out.below hb (by omega)
    have br := Br.out.below hb (by omega)
    have HBW := Lib.hid (HB0.out.trans (hb.mono (by omega)))
    have HBB := Lib.hid hb
    have hsz := hb.size
    have HO := Lib.hid ho
    have OW := Lib.hid (fun q ob => (World.ownsRow.alloc (w := wr.drewN q) ho ob))
    have HADD := Lib.hid hadd
    clear hb ho hadd
    by_cases hlt : i < n
    · have hi : (i : Int) < n := by omega
      obtain ⟨b, oo, rfl, hbb, hh, hcl⟩ := (RB.out.below HBW.out).at_ hlt
      obtain ⟨b2, o2, hbo, _, hnm0⟩ := (RB.out.below HBW.out).name hlt
      injection hbo with hbo
      injection hbo with e1 e2
      subst e1 e2
      obtain ⟨hlo1, hlo2⟩ := HLO.out i hlt
      have HTS := Lib.hid (take_snocBk l i (by rw [HNL.out]; exact hlt))
      have HTL := Lib.hid (fun h => insAt_take_lt l k y i h (by rw [HNL.out]; exact hlt))
      obtain ⟨xi, hxi⟩ : ∃ xi, xi = l.getD i noBk := ⟨_, rfl⟩
      have HXI := Lib.hid hxi
      rw [show nm l i = (l.getD i noBk).name from rfl, ← hxi] at hnm0 hlo1 hlo2
      rw [← hxi] at hcl
      clear hxi
      have hbs : b < wr.heap.size := by omega
      have HH := Lib.hid hh
      have HCL := Lib.hid hcl
      obtain ⟨xp1, xp2, xp3, xp4⟩ := bp.facts
      obtain ⟨xx1, xx2, xx3, xx4⟩ := bx.facts
      have lp := bp.lt
      have lx := bx.lt
      have BP := Lib.hid bp
      have BX := Lib.hid bx
      clear bp bx br
      have hml : m ≤ 100001 := by rcases HADD.out with ⟨_, _, h, _⟩ | ⟨_, _, h, _⟩ <;> omega
      have H63 := Lib.hid (show m + 1 ≤ maxLen by unfold maxLen; omega)
      have HBY := Lib.hid (show (m + 1) * i0.bytes ≤ 140737488355328 from Nat.le_trans (Nat.mul_le_mul (show m + 1 ≤ 100002 by omega) hzb) (by omega))
      have H632 := Lib.hid (show m + 1 + 1 ≤ maxLen by unfold maxLen; omega)
      have HBY2 := Lib.hid (show (m + 1 + 1) * i0.bytes ≤ 140737488355328 from Nat.le_trans (Nat.mul_le_mul (show m + 1 + 1 ≤ 100003 by omega) hzb) (by omega))
      have HBS := Lib.hid (fun q ob => show w.heap.size + 3 ≤ ((wr.drewN q).alloc ob).heap.size by simp; omega)
      have HROW := Lib.hid (fun q (z : Bk) => (⟨by rw [Array.length_toList, Bk.arr_size], fun _ => ⟨_, rfl, Nat.lt_succ_self _, src_row _ _ z.arr _ _ (heap_alloc_new (wr.drewN q) (.cells z.arr 36))⟩⟩ : Rd ((wr.drewN q).alloc (.cells z.arr 36)) (wr.heap.size + 1) 27 (some ⟨wr.heap.size, 0, none⟩) 1 z.arr.toList))
      have HONE := Lib.hid (fun (z : Bk) (v : Value) (hv : v ∈ z.arr.toList) => (Array.all_eq_true_iff_forall_mem.1 (Bk.arr_one z) v (by simpa using hv) : v.oneCell' = true))
      have HGR := Lib.hid (fun q ob w1 (hg : ((wr.drewN q).alloc ob).grownBy w1 (Value.slice O m cap).ownBlock) => ((below_drewN HBB.out q).alloc (by simp; omega) ob).grown hg (by simp; omega) (fun k hk => (HO.out.lt k hk).1))
      rcases HADD.out with ⟨hik, rfl, hm, hout⟩ | ⟨hik, rfl, hm, hout⟩
      · rcases Nat.lt_or_eq_of_le hik with hik | hik
        · have hbl : Op.bytesLess xi.name x.name = true := by
            rw [bytesLess_is]; simpa using hlo1 hik
          have HM := Lib.hid hm
          have HOUT := Lib.hid hout
          have hikk := Lib.hid hik
          clear hlo1 hlo2 hik hm hout
          go_wp2_with fail
          go_quiet (fail)
          go_wp2_with (at_builtin; refine wpList_app_rd _ rfl (.tmp 57) (.tmp 63) _ rfl (w.heap.size + 3) 36 i0 (.agg noBk.arr) 27 i0.bytes Try.underlying22 HI0.out HZ0.out HZ1.out rfl HZ2.out (Nat.succ_pos _) (.slice O m cap) m (cellsBk out) rfl (OW.out _ _) (wr.heap.size + 1) (some ⟨wr.heap.size, 0, none⟩) 1 1 xi.arr.toList rfl (HROW.out _ xi) (HONE.out xi) H63.out HBY.out (HBS.out _ _) ?_; intro v1 w1 hown1 hg1 hat1; have O1 := Lib.hid hown1; have G1 := Lib.hid (HGR.out _ _ _ hg1); clear hown1 hg1 hat1)
          obtain ⟨O', cap', rfl, _, _⟩ := own_form O1.out
          go_roundw
          case rel => exact ⟨i + 1, false, O', cap', m + 1, out ++ [xi], by omega, rfl, rfl, by go_num, .inl ⟨hikk.out, rfl, by rw [HM.out], by rw [HOUT.out, HXI.out]; exact HTS.out⟩, by have := O1.out; rw [cellsBk_snoc] at this; exact this, G1.out⟩
          case measure => simp [intOf] <;> omega
        · have hl2 := hlo2 (by omega)
          have hbl : Op.bytesLess xi.name x.name = false := by
            rw [bytesLess_is, cmpS_swap]; simp; omega
          have hbn : (xi.name == x.name) = false := by
            rw [beq_eq_false_iff_ne]; intro h; rw [h, cmpS_self] at hl2; omega
          clear hl2
          have HM := Lib.hid hm
          have HOUT := Lib.hid hout
          have hikk := Lib.hid hik
          clear hlo1 hlo2 hik hm hout
          go_wp2_with fail
          go_quiet (fail)
          go_wp2_with (first
            | (at_builtin; refine wpList_app_rd _ rfl (.tmp 53) (.tmp 55) _ rfl (w.heap.size + 3) 36 i0 (.agg noBk.arr) 27 i0.bytes Try.underlying22 HI0.out HZ0.out HZ1.out rfl HZ2.out (Nat.succ_pos _) (.slice O m cap) m (cellsBk out) rfl (OW.out _ _) (wr.heap.size + 1) (some ⟨wr.heap.size, 0, none⟩) 1 1 y.arr.toList rfl (HROW.out _ y) (HONE.out y) H63.out HBY.out (HBS.out _ _) ?_
               intro v1 w1 hown1 hg1 hat1
               have O1 := Lib.hid hown1
               have hG := HGR.out _ _ _ hg1
               have G1 := Lib.hid hG
               obtain ⟨O', cap', hv1, _, _⟩ := own_form hown1
               subst hv1
               have O1 := Lib.hid hown1
               obtain ⟨p1, p2, p3, p4⟩ := (Bp.out.below hG (by omega)).facts
               have lp1 := (Bp.out.below hG (by omega)).lt
               have hbW := HB0.out.trans (hG.mono (by omega))
               obtain ⟨b3, o3, hbo, _, hh1, hcl1⟩ := (RB.out.below hbW).at_ hlt
               injection hbo with hbo
               injection hbo with e1 e2
               subst e1 e2
               rw [← HXI.out] at hcl1
               have lb1 : b < w1.heap.size := by have := hbW.size; omega
               have HS1 := Lib.hid (show wB.heap.size ≤ w1.heap.size from hG.size)
               clear hown1 hg1 hat1 hG hbW)
            | (at_builtin; refine wpList_app_rd _ rfl (.tmp 57) (.tmp 63) _ rfl (w.heap.size + 3) 36 i0 (.agg noBk.arr) 27 i0.bytes Try.underlying22 HI0.out HZ0.out HZ1.out rfl HZ2.out (Nat.succ_pos _) (.slice O' (m + 1) cap') (m + 1) (cellsBk out ++ y.arr.toList) rfl (O1.out.alloc _) (w1.heap.size + 1) (some ⟨w1.heap.size, 0, none⟩) 1 1 xi.arr.toList rfl (row_rd w1 xi) (HONE.out xi) H632.out HBY2.out (by simp; have := HS1.out; omega) ?_
               intro v2 w3 hown2 hg2 hat2
               have O2 := Lib.hid hown2
               have G2 := Lib.hid ((G1.out.alloc (by have := HS1.out; omega) (.cells xi.arr 36)).grown hg2 (by simp; have := HS1.out; omega) (fun k hk => (O1.out.lt k hk).1))
               clear hown2 hg2 hat2))
          obtain ⟨O2', cap2', rfl, _, _⟩ := own_form O2.out
          go_roundw
          case rel => exact ⟨i + 1, true, O2', cap2', m + 1 + 1, out ++ [y] ++ [xi], by omega, rfl, rfl, by go_num, .inr ⟨by have := hikk.out; omega, rfl, by rw [HM.out], by rw [HOUT.out, HXI.out, hikk.out, insAt_take_at l k y HKL.out, insAt_take_next l k y (by rw [HNL.out, ← hikk.out]; exact hlt)]⟩, by have := O2.out; rw [cellsBk_snoc, cellsBk_snoc] at this; exact this, G2.out⟩
          case measure => simp [intOf] <;> omega
      · have HM := Lib.hid hm
        have HOUT := Lib.hid hout
        have hikk := Lib.hid hik
        clear hlo1 hlo2 hik hm hout
        go_wp2_with fail
        go_quiet (fail)
        go_wp2_with (at_builtin; refine wpList_app_rd _ rfl (.tmp 57) (.tmp 63) _ rfl (w.heap.size + 3) 36 i0 (.agg noBk.arr) 27 i0.bytes Try.underlying22 HI0.out HZ0.out HZ1.out rfl HZ2.out (Nat.succ_pos _) (.slice O m cap) m (cellsBk out) rfl (OW.out _ _) (wr.heap.size + 1) (some ⟨wr.heap.size, 0, none⟩) 1 1 xi.arr.toList rfl (HROW.out _ xi) (HONE.out xi) H63.out HBY.out (HBS.out _ _) ?_; intro v1 w1 hown1 hg1 hat1; have O1 := Lib.hid hown1; have G1 := Lib.hid (HGR.out _ _ _ hg1); clear hown1 hg1 hat1)
        obtain ⟨O', cap', rfl, _, _⟩ := own_form O1.out
        go_roundw
        case rel => exact ⟨i + 1, true, O', cap', m + 1, out ++ [xi], by omega, rfl, rfl, by go_num, .inr ⟨by have := hikk.out; omega, rfl, by rw [HM.out], by rw [HOUT.out, HXI.out]; exact HTL.out hikk.out⟩, by have := O1.out; rw [cellsBk_snoc] at this; exact this, G1.out⟩
        case measure => simp [intOf] <;> omega
    · obtain rfl : i = n := by omega
      have hd : decide ((i : Int) < i) = false := by simp
      have hlen := insAt_length l k y
      rw [HNL.out] at hlen
      have HLEN := Lib.hid hlen
      clear hlen
      rcases HADD.out with ⟨hik, rfl, hm, hout⟩ | ⟨hik, rfl, hm, hout⟩
      · have hki : k = i := by omega
        have HKI := Lib.hid hki
        have HM := Lib.hid hm
        have HOUT := Lib.hid hout
        have H63 := Lib.hid (show m + 1 ≤ maxLen by unfold maxLen; omega)
        have HBY := Lib.hid (show (m + 1) * i0.bytes ≤ 140737488355328 from Nat.le_trans (Nat.mul_le_mul (show m + 1 ≤ 100002 by omega) hzb) (by omega))
        have HGR := Lib.hid (fun ob w1 (hg : (wr.alloc ob).grownBy w1 (Value.slice O m cap).ownBlock) => (HBB.out.alloc (by omega) ob).grown hg (by simp; omega) (fun k hk => (HO.out.lt k hk).1))
        have BX := Lib.hid bx
        obtain ⟨xp1, xp2, xp3, xp4⟩ := bp.facts
        obtain ⟨xx1, xx2, xx3, xx4⟩ := bx.facts
        have lp := bp.lt
        have lx := bx.lt
        clear bp bx br hki hm hout hik
        go_wp2_with (at_builtin; refine wpList_app_rd _ rfl (.tmp 67) (.tmp 69) _ rfl (w.heap.size + 3) 36 i0 (.agg noBk.arr) 27 i0.bytes Try.underlying22 HI0.out HZ0.out HZ1.out rfl HZ2.out (Nat.succ_pos _) (.slice O m cap) m (cellsBk out) rfl (HO.out.alloc _) (wr.heap.size + 1) (some ⟨wr.heap.size, 0, none⟩) 1 1 y.arr.toList rfl (row_rd wr y) (fun v hv => (Array.all_eq_true_iff_forall_mem.1 (Bk.arr_one y) v (by simpa using hv))) H63.out HBY.out (by simp; omega) ?_; intro v1 w1 hown1 hg1 hat1; have hG := HGR.out _ _ hg1; obtain ⟨O', cap', hv1, _, _⟩ := own_form hown1; subst hv1; have O1 := Lib.hid hown1; have G1 := Lib.hid hG; obtain ⟨q1, q2, q3, q4⟩ := (Bp.out.below hG (by omega)).facts; obtain ⟨r1, r2, r3, r4⟩ := (Br.out.below hG (by omega)).facts; have lq := (Bp.out.below hG (by omega)).lt; have lr := (Br.out.below hG (by omega)).lt; clear hown1 hg1 hat1 hG)
        have hown : w1.ownsRow (w.heap.size + 3) 36 27 (.slice O' (i + 1) cap') (i + 1) (cellsBk (insAt l k y)) := by
          have h1 := O1.out
          rw [cellsBk_snoc, HOUT.out] at h1
          have h2 := HM.out
          have h3 : l.take i ++ [y] = insAt l k y := by
            rw [← HKI.out, insAt_take_at l k y HKL.out]
            have := insAt_whole l k y HKL.out
            rwa [HNL.out, ← HKI.out] at this
          rw [h3] at h1
          subst h2
          exact h1
        have hm := HM.out.symm
        subst hm
        have b2 := ((Br.out.below G1.out (by omega)).set_same 0 (.int .i64 (v + 1))).set_same 1 (.slice O' (i + 1) cap')
        obtain ⟨z1, z2, z3, z4⟩ := b2.facts
        have hZ := z3 0 2 (Nat.le_refl _)
        have hbF := ((HB0.out.trans (G1.out.mono (by omega))).setCell (show w.heap.size ≤ w.heap.size + 2 by omega) (p := ⟨w.heap.size + 2, 0, none⟩) (.int .i64 (v + 1))).setCell (show w.heap.size ≤ w.heap.size + 2 by omega) (p := ⟨w.heap.size + 2, 1, none⟩) (.slice O' (i + 1) cap')
        have hoF := own_set (own_set hown (show w.heap.size + 2 < w.heap.size + 3 by omega) (p := ⟨w.heap.size + 2, 0, none⟩) (.int .i64 (v + 1))) (show w.heap.size + 2 < w.heap.size + 3 by omega) (p := ⟨w.heap.size + 2, 1, none⟩) (.slice O' (i + 1) cap')
        rw [← HLEN.out] at hoF
        have hrF := own_reads hoF
        rw [HLEN.out, HK.out, HY.out] at hrF
        refine bodyPost_ret (ret_pool rfl _ _ _ _ rfl (by rw [hZ]; trivial)) rfl ⟨O', cap', ?_, hrF, hbF⟩
        rw [z4 0 2 (Nat.le_refl _)]
        rfl
      · have HM := Lib.hid hm
        have HOUT := Lib.hid hout
        have hown : wr.ownsRow (w.heap.size + 3) 36 27 (.slice O (i + 1) cap) (i + 1) (cellsBk (insAt l k y)) := by
          have h1 := HO.out
          rw [hout] at h1
          have := insAt_whole l k y HKL.out
          rw [HNL.out] at this
          rw [this] at h1
          subst hm
          exact h1
        have HOWN := Lib.hid hown
        subst hm
        obtain ⟨xp1, xp2, xp3, xp4⟩ := bp.facts
        obtain ⟨r1, r2, r3, r4⟩ := br.facts
        have lp := bp.lt
        have lr := br.lt
        have G1 := HBB
        clear bp bx br hown hik hout
        go_wp2_with fail
        have hown := HOWN.out
        have b2 := ((Br.out.below G1.out (by omega)).set_same 0 (.int .i64 (v + 1))).set_same 1 (.slice O (i + 1) cap)
        obtain ⟨z1, z2, z3, z4⟩ := b2.facts
        have hZ := z3 0 2 (Nat.le_refl _)
        have hbF := ((HB0.out.trans (G1.out.mono (by omega))).setCell (show w.heap.size ≤ w.heap.size + 2 by omega) (p := ⟨w.heap.size + 2, 0, none⟩) (.int .i64 (v + 1))).setCell (show w.heap.size ≤ w.heap.size + 2 by omega) (p := ⟨w.heap.size + 2, 1, none⟩) (.slice O (i + 1) cap)
        have hoF := own_set (own_set hown (show w.heap.size + 2 < w.heap.size + 3 by omega) (p := ⟨w.heap.size + 2, 0, none⟩) (.int .i64 (v + 1))) (show w.heap.size + 2 < w.heap.size + 3 by omega) (p := ⟨w.heap.size + 2, 1, none⟩) (.slice O (i + 1) cap)
        rw [← HLEN.out] at hoF
        have hrF := own_reads hoF
        rw [HLEN.out, HK.out, HY.out] at hrF
        refine bodyPost_ret (ret_pool rfl _ _ _ _ rfl (by rw [hZ]; trivial)) rfl ⟨O, cap, ?_, hrF, hbF⟩
        rw [z4 0 2 (Nat.le_refl _)]
        rfl
  

theorem refAdd_any (l : List Bk) (hs : Srt l) (v : Int) (hv : -9223372036854775808 ≤ v ∧ v < 9223372036854775807) (x : Bk) (hf : x.fine) (A : Option Addr) (n c : Nat) (w : World) (hR : RdK w w.heap.size A n l) (hn : l.length ≤ 100000) :
    Calls Try.prog 40 #[.agg #[.int .i64 v, .slice A n c], .agg x.arr] w (PoolC w (doV v l (Opr.mk 1 x [] 0)) (doL v l (Opr.mk 1 x [] 0)).length (doL v l (Opr.mk 1 x [] 0)) (whyNot v l (Opr.mk 1 x [] 0))) := by
  have hnl := hR.1
  have hwho : (Opr.mk 1 x [] 0).who = x.name := rfl
  have no : ∀ er, whyNot v l (Opr.mk 1 x [] 0) = er → er ≠ 0 → doV v l (Opr.mk 1 x [] 0) = v ∧ doL v l (Opr.mk 1 x [] 0) = l := fun er h h0 => ⟨by simp [doV, h, h0], by simp [doL, h, h0]⟩
  cases hfa : x.fair
  · have hw : whyNot v l (Opr.mk 1 x [] 0) = 1 := by simp [whyNot, hfa]
    obtain ⟨e1, e2⟩ := no 1 hw (by decide)
    rw [hw, e1, e2, hnl]
    exact refAdd_unfair l hs v hv x hf A n c w hR hn hfa
  cases hha : hasN l x.name
  rotate_left
  · have hw : whyNot v l (Opr.mk 1 x [] 0) = 6 := by simp [whyNot, hfa, hwho, hha]
    obtain ⟨e1, e2⟩ := no 6 hw (by decide)
    rw [hw, e1, e2, hnl]
    exact refAdd_twice l hs v hv x hf A n c w hR hn hfa hha
  rcases Nat.lt_or_ge n 1024 with hl | hl
  rotate_left
  · have hw : whyNot v l (Opr.mk 1 x [] 0) = 7 := by simp [whyNot, hfa, hwho, hha]; omega
    obtain ⟨e1, e2⟩ := no 7 hw (by decide)
    rw [hw, e1, e2, hnl]
    exact refAdd_full l hs v hv x hf A n c w hR hn hfa hha hl
  have hl' : ¬ 1024 ≤ l.length := by omega
  rcases Int.lt_or_le v 1099511627776 with hvv | hvv
  · have hw : whyNot v l (Opr.mk 1 x [] 0) = 0 := by simp [whyNot, hfa, hwho, hha, hl']; omega
    have e1 : doV v l (Opr.mk 1 x [] 0) = v + 1 := by simp [doV, hw]
    have e2 : doL v l (Opr.mk 1 x [] 0) = insAt l (lowN l x.name) (x.toW (wPlain x.w)) := by simp [doL, hw, doneTo]
    rw [hw, e1, e2, insAt_length, hnl]
    exact refAdd_main l hs v hv x hf A n c w hR hn hfa hha hl hvv
  · have hw : whyNot v l (Opr.mk 1 x [] 0) = 7 := by simp [whyNot, hfa, hwho, hha, hl']; omega
    obtain ⟨e1, e2⟩ := no 7 hw (by decide)
    rw [hw, e1, e2, hnl]
    exact refAdd_old l hs v hv x hf A n c w hR hn hfa hha hl hvv
end Go.Proofs.Ytgcahcjffoehfaa

/-! What is done to a pool: the document's way. -/
namespace Go.Proofs.Ytgcahcjffoehfaa
open Go.RowKit

theorem why_one {v : Int} {l : List Bk} {o : Opr} (h : o.kind = 1) : whyNot v l o = whyNot v l (Opr.mk 1 o.bk [] 0) := by simp [whyNot, Opr.who, h]
theorem doL_one {v : Int} {l : List Bk} {o : Opr} (h : o.kind = 1) : doL v l o = doL v l (Opr.mk 1 o.bk [] 0) := by simp [doL, why_one h, doneTo, h]
theorem doV_one {v : Int} {l : List Bk} {o : Opr} (h : o.kind = 1) : doV v l o = doV v l (Opr.mk 1 o.bk [] 0) := by simp [doV, why_one h]
theorem okK_any (x : Nat) (hx : x < 18446744073709551616) (w : World) (K : Bool) (hK : wOk x = K) : Calls Try.prog 41 #[.float .f64 x] w fun e w' => e = .returned (.bool K) ∧ w = w' := by
  subst hK; exact ref14right_any x hx w
theorem RdK.setBox {w : World} {A : Option Addr} {n b : Nat} {l : List Bk} {c : Array Value} (h : RdK w w.heap.size A n l) (hb : Box w b c) (hc : c.size < 27) (j : Nat) (u : Value) : RdK (w.setCell ⟨b, j, none⟩ u) (w.setCell ⟨b, j, none⟩ u).heap.size A n l := by
  have hcell := fun hn : 0 < n => h.cell (k := 0) hn
  obtain ⟨h1, h2, h3⟩ := h
  refine ⟨h1, ⟨h2.1, fun hn => ?_⟩, h3⟩
  obtain ⟨a, e, hlt, hc'⟩ := h2.2 hn
  have hne : a.block ≠ b := by
    obtain ⟨b', o', e', _, hcc⟩ := hcell hn
    rw [e] at e'
    injection e' with e'
    rintro rfl
    have h26 := hcc 26 (by omega)
    rw [Bk.arr_26] at h26
    rw [e'] at hb
    rw [hb.facts.1, Array.getElem?_eq_none (by omega)] at h26
    cases h26
  refine ⟨a, e, by simpa [World.setCell] using hlt, fun i u' hu => ?_⟩
  rw [World.cell?_setCell_other _ _ _ _ (fun e2 => hne (by have := congrArg Addr.block e2; rw [add_block] at this; first | exact this | exact this.symm))]
  exact hc' i u' hu
set_option maxHeartbeats 2000000 in
set_option maxRecDepth 100000 in
theorem refDo_none2 (l : List Bk) (hs : Srt l) (v : Int) (hv : -9223372036854775808 ≤ v ∧ v < 9223372036854775807) (o : Opr) (hf : o.bk.fine) (how : o.w < 18446744073709551616) (A : Option Addr) (n c : Nat) (w : World) (hR : RdK w w.heap.size A n l) (hn : l.length ≤ 100000) (hk : o.kind = 2) (hha : hasN l o.name = false) :
    Calls Try.prog 20 #[.agg #[.int .i64 v, .slice A n c], .agg o.arr] w (PoolC w v n l 5) := by
  have RB := Lib.hid hR
  have HNL := Lib.hid hR.1
  have R0 := Lib.hid (fun ob ob' ob2 => ((hR.up ob).up ob').up ob2)
  have HB0 := Lib.hid (fun ob ob' ob2 => ((((Below.refl w.heap.size w).alloc (Nat.le_refl _) ob).alloc (by simp) ob').alloc (by simp; omega) ob2 : Below w.heap.size w (((w.alloc ob).alloc ob').alloc ob2)))
  have hnle : n ≤ 100000 := by have := hR.1; omega
  have HS := Lib.hid hs
  have HBF0 := Lib.hid (fun ob ob' ob2 => show Below w.heap.size w (((w.alloc ob).alloc ob').alloc ob2) from (((Below.refl w.heap.size w).alloc (Nat.le_refl _) ob).alloc (by simp) ob').alloc (by simp; omega) ob2)
  obtain ⟨hv1, hv2⟩ := hv
  have FI := Lib.hid (fun A n c W (h : RdK W W.heap.size A n l) => refFindP_any l HS.out o.name v A n c W h hn (-1) (by simp [posN, hha]))
  clear hR hs
  go_enter Try.func20, Try.ntmps20
  go_wp2_with fail
  refine (FI.out A n c _ (R0.out _ _ _)).mono ?_
  rintro e w1 ⟨rfl, hb1⟩
  have Bp := Lib.hid ((((Box.new w _ _).alloc _).alloc _).go hb1)
  have Bo := Lib.hid (((Box.new1 w _ _ _).alloc _).go hb1)
  have Br := Lib.hid ((Box.new2 w _ _ _ _).go hb1)
  have Rp := Lib.hid ((R0.out _ _ _).go hb1)
  have HB0 := Lib.hid (call0 (HB0.out _ _ _) hb1)
  clear hb1
  obtain ⟨xp1, xp2, xp3, xp4⟩ := Bp.out.facts
  have lp := Bp.out.lt
  obtain ⟨xo1, xo2, xo3, xo4⟩ := Bo.out.facts
  have lo := Bo.out.lt
  obtain ⟨xr1, xr2, xr3, xr4⟩ := Br.out.facts
  have lr := Br.out.lt
  go_wp2_with fail
  have b2 := (Br.out.set_same 0 (.int .i64 v)).set_same 1 (.slice A n c)
  obtain ⟨z1, z2, z3, z4⟩ := b2.facts
  have hZ := z3 0 2 (Nat.le_refl _)
  have HBF := (HB0.out.setCell (show w.heap.size ≤ w.heap.size + 2 by omega) (p := ⟨w.heap.size + 2, 0, none⟩) (.int .i64 v)).setCell (show w.heap.size ≤ w.heap.size + 2 by omega) (p := ⟨w.heap.size + 2, 1, none⟩) (.slice A n c)
  refine bodyPost_ret (ret_pool rfl _ _ _ _ rfl (by rw [hZ]; trivial)) rfl ⟨A, c, ?_, (RB.out.below HBF).more HBF.size, HBF⟩
  rw [z4 0 2 (Nat.le_refl _)]
  rfl

set_option maxHeartbeats 2000000 in
set_option maxRecDepth 100000 in
theorem refDo_none4 (l : List Bk) (hs : Srt l) (v : Int) (hv : -9223372036854775808 ≤ v ∧ v < 9223372036854775807) (o : Opr) (hf : o.bk.fine) (how : o.w < 18446744073709551616) (A : Option Addr) (n c : Nat) (w : World) (hR : RdK w w.heap.size A n l) (hn : l.length ≤ 100000) (hk : o.kind = 4) (hha : hasN l o.name = false) :
    Calls Try.prog 20 #[.agg #[.int .i64 v, .slice A n c], .agg o.arr] w (PoolC w v n l 5) := by
  have RB := Lib.hid hR
  have HNL := Lib.hid hR.1
  have R0 := Lib.hid (fun ob ob' ob2 => ((hR.up ob).up ob').up ob2)
  have HB0 := Lib.hid (fun ob ob' ob2 => ((((Below.refl w.heap.size w).alloc (Nat.le_refl _) ob).alloc (by simp) ob').alloc (by simp; omega) ob2 : Below w.heap.size w (((w.alloc ob).alloc ob').alloc ob2)))
  have hnle : n ≤ 100000 := by have := hR.1; omega
  have HS := Lib.hid hs
  have HBF0 := Lib.hid (fun ob ob' ob2 => show Below w.heap.size w (((w.alloc ob).alloc ob').alloc ob2) from (((Below.refl w.heap.size w).alloc (Nat.le_refl _) ob).alloc (by simp) ob').alloc (by simp; omega) ob2)
  obtain ⟨hv1, hv2⟩ := hv
  have FI := Lib.hid (fun A n c W (h : RdK W W.heap.size A n l) => refFindP_any l HS.out o.name v A n c W h hn (-1) (by simp [posN, hha]))
  clear hR hs
  go_enter Try.func20, Try.ntmps20
  go_wp2_with fail
  refine (FI.out A n c _ (R0.out _ _ _)).mono ?_
  rintro e w1 ⟨rfl, hb1⟩
  have Bp := Lib.hid ((((Box.new w _ _).alloc _).alloc _).go hb1)
  have Bo := Lib.hid (((Box.new1 w _ _ _).alloc _).go hb1)
  have Br := Lib.hid ((Box.new2 w _ _ _ _).go hb1)
  have Rp := Lib.hid ((R0.out _ _ _).go hb1)
  have HB0 := Lib.hid (call0 (HB0.out _ _ _) hb1)
  clear hb1
  obtain ⟨xp1, xp2, xp3, xp4⟩ := Bp.out.facts
  have lp := Bp.out.lt
  obtain ⟨xo1, xo2, xo3, xo4⟩ := Bo.out.facts
  have lo := Bo.out.lt
  obtain ⟨xr1, xr2, xr3, xr4⟩ := Br.out.facts
  have lr := Br.out.lt
  go_wp2_with fail
  have b2 := (Br.out.set_same 0 (.int .i64 v)).set_same 1 (.slice A n c)
  obtain ⟨z1, z2, z3, z4⟩ := b2.facts
  have hZ := z3 0 2 (Nat.le_refl _)
  have HBF := (HB0.out.setCell (show w.heap.size ≤ w.heap.size + 2 by omega) (p := ⟨w.heap.size + 2, 0, none⟩) (.int .i64 v)).setCell (show w.heap.size ≤ w.heap.size + 2 by omega) (p := ⟨w.heap.size + 2, 1, none⟩) (.slice A n c)
  refine bodyPost_ret (ret_pool rfl _ _ _ _ rfl (by rw [hZ]; trivial)) rfl ⟨A, c, ?_, (RB.out.below HBF).more HBF.size, HBF⟩
  rw [z4 0 2 (Nat.le_refl _)]
  rfl

set_option maxHeartbeats 2000000 in
set_option maxRecDepth 100000 in
theorem refDo_none5 (l : List Bk) (hs : Srt l) (v : Int) (hv : -9223372036854775808 ≤ v ∧ v < 9223372036854775807) (o : Opr) (hf : o.bk.fine) (how : o.w < 18446744073709551616) (A : Option Addr) (n c : Nat) (w : World) (hR : RdK w w.heap.size A n l) (hn : l.length ≤ 100000) (hk : o.kind = 5) (hha : hasN l o.name = false) :
    Calls Try.prog 20 #[.agg #[.int .i64 v, .slice A n c], .agg o.arr] w (PoolC w v n l 5) := by
  have RB := Lib.hid hR
  have HNL := Lib.hid hR.1
  have R0 := Lib.hid (fun ob ob' ob2 => ((hR.up ob).up ob').up ob2)
  have HB0 := Lib.hid (fun ob ob' ob2 => ((((Below.refl w.heap.size w).alloc (Nat.le_refl _) ob).alloc (by simp) ob').alloc (by simp; omega) ob2 : Below w.heap.size w (((w.alloc ob).alloc ob').alloc ob2)))
  have hnle : n ≤ 100000 := by have := hR.1; omega
  have HS := Lib.hid hs
  have HBF0 := Lib.hid (fun ob ob' ob2 => show Below w.heap.size w (((w.alloc ob).alloc ob').alloc ob2) from (((Below.refl w.heap.size w).alloc (Nat.le_refl _) ob).alloc (by simp) ob').alloc (by simp; omega) ob2)
  obtain ⟨hv1, hv2⟩ := hv
  have FI := Lib.hid (fun A n c W (h : RdK W W.heap.size A n l) => refFindP_any l HS.out o.name v A n c W h hn (-1) (by simp [posN, hha]))
  clear hR hs
  go_enter Try.func20, Try.ntmps20
  go_wp2_with fail
  refine (FI.out A n c _ (R0.out _ _ _)).mono ?_
  rintro e w1 ⟨rfl, hb1⟩
  have Bp := Lib.hid ((((Box.new w _ _).alloc _).alloc _).go hb1)
  have Bo := Lib.hid (((Box.new1 w _ _ _).alloc _).go hb1)
  have Br := Lib.hid ((Box.new2 w _ _ _ _).go hb1)
  have Rp := Lib.hid ((R0.out _ _ _).go hb1)
  have HB0 := Lib.hid (call0 (HB0.out _ _ _) hb1)
  clear hb1
  obtain ⟨xp1, xp2, xp3, xp4⟩ := Bp.out.facts
  have lp := Bp.out.lt
  obtain ⟨xo1, xo2, xo3, xo4⟩ := Bo.out.facts
  have lo := Bo.out.lt
  obtain ⟨xr1, xr2, xr3, xr4⟩ := Br.out.facts
  have lr := Br.out.lt
  go_wp2_with fail
  have b2 := (Br.out.set_same 0 (.int .i64 v)).set_same 1 (.slice A n c)
  obtain ⟨z1, z2, z3, z4⟩ := b2.facts
  have hZ := z3 0 2 (Nat.le_refl _)
  have HBF := (HB0.out.setCell (show w.heap.size ≤ w.heap.size + 2 by omega) (p := ⟨w.heap.size + 2, 0, none⟩) (.int .i64 v)).setCell (show w.heap.size ≤ w.heap.size + 2 by omega) (p := ⟨w.heap.size + 2, 1, none⟩) (.slice A n c)
  refine bodyPost_ret (ret_pool rfl _ _ _ _ rfl (by rw [hZ]; trivial)) rfl ⟨A, c, ?_, (RB.out.below HBF).more HBF.size, HBF⟩
  rw [z4 0 2 (Nat.le_refl _)]
  rfl

set_option maxHeartbeats 2000000 in
set_option maxRecDepth 100000 in
theorem refDo_arglo (l : List Bk) (hs : Srt l) (v : Int) (hv : -9223372036854775808 ≤ v ∧ v < 9223372036854775807) (o : Opr) (hf : o.bk.fine) (how : o.w < 18446744073709551616) (A : Option Addr) (n c : Nat) (w : World) (hR : RdK w w.heap.size A n l) (hn : l.length ≤ 100000) (hk : o.kind < 1) :
    Calls Try.prog 20 #[.agg #[.int .i64 v, .slice A n c], .agg o.arr] w (PoolC w v n l 1) := by
  have RB := Lib.hid hR
  have HNL := Lib.hid hR.1
  have R0 := Lib.hid (fun ob ob' ob2 => ((hR.up ob).up ob').up ob2)
  have HB0 := Lib.hid (fun ob ob' ob2 => ((((Below.refl w.heap.size w).alloc (Nat.le_refl _) ob).alloc (by simp) ob').alloc (by simp; omega) ob2 : Below w.heap.size w (((w.alloc ob).alloc ob').alloc ob2)))
  have hnle : n ≤ 100000 := by have := hR.1; omega
  have HS := Lib.hid hs
  have HBF0 := Lib.hid (fun ob ob' ob2 => show Below w.heap.size w (((w.alloc ob).alloc ob').alloc ob2) from (((Below.refl w.heap.size w).alloc (Nat.le_refl _) ob).alloc (by simp) ob').alloc (by simp; omega) ob2)
  obtain ⟨hv1, hv2⟩ := hv
  have g1 : (o.kind == 1) = false := by rw [beq_eq_false_iff_ne]; omega
  clear hR hs
  go_enter Try.func20, Try.ntmps20
  go_wp2_with fail
  obtain ⟨A1, A2, A3, A4⟩ := (Box.new2 w (.cells #[.int .i64 v, .slice A n c] 24) (.cells o.arr 38) #[.int .i64 v, .slice A n c] 24).facts
  have hZ := A3 0 2 (Nat.le_refl _)
  refine bodyPost_ret (ret_pool rfl _ _ _ _ rfl (by rw [hZ]; trivial)) rfl ⟨A, c, ?_, R0.out _ _ _, HB0.out _ _ _⟩
  rw [A4 0 2 (Nat.le_refl _)]
  rfl

set_option maxHeartbeats 2000000 in
set_option maxRecDepth 100000 in
theorem refDo_arghi (l : List Bk) (hs : Srt l) (v : Int) (hv : -9223372036854775808 ≤ v ∧ v < 9223372036854775807) (o : Opr) (hf : o.bk.fine) (how : o.w < 18446744073709551616) (A : Option Addr) (n c : Nat) (w : World) (hR : RdK w w.heap.size A n l) (hn : l.length ≤ 100000) (hk : 5 < o.kind) :
    Calls Try.prog 20 #[.agg #[.int .i64 v, .slice A n c], .agg o.arr] w (PoolC w v n l 1) := by
  have RB := Lib.hid hR
  have HNL := Lib.hid hR.1
  have R0 := Lib.hid (fun ob ob' ob2 => ((hR.up ob).up ob').up ob2)
  have HB0 := Lib.hid (fun ob ob' ob2 => ((((Below.refl w.heap.size w).alloc (Nat.le_refl _) ob).alloc (by simp) ob').alloc (by simp; omega) ob2 : Below w.heap.size w (((w.alloc ob).alloc ob').alloc ob2)))
  have hnle : n ≤ 100000 := by have := hR.1; omega
  have HS := Lib.hid hs
  have HBF0 := Lib.hid (fun ob ob' ob2 => show Below w.heap.size w (((w.alloc ob).alloc ob').alloc ob2) from (((Below.refl w.heap.size w).alloc (Nat.le_refl _) ob).alloc (by simp) ob').alloc (by simp; omega) ob2)
  obtain ⟨hv1, hv2⟩ := hv
  have g1 : (o.kind == 1) = false := by rw [beq_eq_false_iff_ne]; omega
  have g2 : decide (o.kind < 1) = false := by simp; omega
  have g3 : ¬ o.kind < 1 := by omega
  clear hR hs
  go_enter Try.func20, Try.ntmps20
  go_wp2_with fail
  obtain ⟨A1, A2, A3, A4⟩ := (Box.new2 w (.cells #[.int .i64 v, .slice A n c] 24) (.cells o.arr 38) #[.int .i64 v, .slice A n c] 24).facts
  have hZ := A3 0 2 (Nat.le_refl _)
  refine bodyPost_ret (ret_pool rfl _ _ _ _ rfl (by rw [hZ]; trivial)) rfl ⟨A, c, ?_, R0.out _ _ _, HB0.out _ _ _⟩
  rw [A4 0 2 (Nat.le_refl _)]
  rfl

set_option maxHeartbeats 2000000 in
set_option maxRecDepth 100000 in
theorem refDo_arg3 (l : List Bk) (hs : Srt l) (v : Int) (hv : -9223372036854775808 ≤ v ∧ v < 9223372036854775807) (o : Opr) (hf : o.bk.fine) (how : o.w < 18446744073709551616) (A : Option Addr) (n c : Nat) (w : World) (hR : RdK w w.heap.size A n l) (hn : l.length ≤ 100000) (hk : o.kind = 3) (hok : wOk o.w = false) :
    Calls Try.prog 20 #[.agg #[.int .i64 v, .slice A n c], .agg o.arr] w (PoolC w v n l 1) := by
  have RB := Lib.hid hR
  have HNL := Lib.hid hR.1
  have R0 := Lib.hid (fun ob ob' ob2 => ((hR.up ob).up ob').up ob2)
  have HB0 := Lib.hid (fun ob ob' ob2 => ((((Below.refl w.heap.size w).alloc (Nat.le_refl _) ob).alloc (by simp) ob').alloc (by simp; omega) ob2 : Below w.heap.size w (((w.alloc ob).alloc ob').alloc ob2)))
  have hnle : n ≤ 100000 := by have := hR.1; omega
  have HS := Lib.hid hs
  have HBF0 := Lib.hid (fun ob ob' ob2 => show Below w.heap.size w (((w.alloc ob).alloc ob').alloc ob2) from (((Below.refl w.heap.size w).alloc (Nat.le_refl _) ob).alloc (by simp) ob').alloc (by simp; omega) ob2)
  obtain ⟨hv1, hv2⟩ := hv
  have OK := Lib.hid (fun W => okK_any o.w how W false hok)
  clear hR hs
  go_enter Try.func20, Try.ntmps20
  go_wp2_with fail
  refine (OK.out _).mono ?_
  rintro e w' ⟨rfl, rfl⟩
  go_wp2_with fail
  obtain ⟨A1, A2, A3, A4⟩ := (Box.new2 w (.cells #[.int .i64 v, .slice A n c] 24) (.cells o.arr 38) #[.int .i64 v, .slice A n c] 24).facts
  have hZ := A3 0 2 (Nat.le_refl _)
  refine bodyPost_ret (ret_pool rfl _ _ _ _ rfl (by rw [hZ]; trivial)) rfl ⟨A, c, ?_, R0.out _ _ _, HB0.out _ _ _⟩
  rw [A4 0 2 (Nat.le_refl _)]
  rfl

set_option maxHeartbeats 2000000 in
set_option maxRecDepth 100000 in
theorem refDo_none3 (l : List Bk) (hs : Srt l) (v : Int) (hv : -9223372036854775808 ≤ v ∧ v < 9223372036854775807) (o : Opr) (hf : o.bk.fine) (how : o.w < 18446744073709551616) (A : Option Addr) (n c : Nat) (w : World) (hR : RdK w w.heap.size A n l) (hn : l.length ≤ 100000) (hk : o.kind = 3) (hok : wOk o.w = true) (hha : hasN l o.name = false) :
    Calls Try.prog 20 #[.agg #[.int .i64 v, .slice A n c], .agg o.arr] w (PoolC w v n l 5) := by
  have RB := Lib.hid hR
  have HNL := Lib.hid hR.1
  have R0 := Lib.hid (fun ob ob' ob2 => ((hR.up ob).up ob').up ob2)
  have HB0 := Lib.hid (fun ob ob' ob2 => ((((Below.refl w.heap.size w).alloc (Nat.le_refl _) ob).alloc (by simp) ob').alloc (by simp; omega) ob2 : Below w.heap.size w (((w.alloc ob).alloc ob').alloc ob2)))
  have hnle : n ≤ 100000 := by have := hR.1; omega
  have HS := Lib.hid hs
  have HBF0 := Lib.hid (fun ob ob' ob2 => show Below w.heap.size w (((w.alloc ob).alloc ob').alloc ob2) from (((Below.refl w.heap.size w).alloc (Nat.le_refl _) ob).alloc (by simp) ob').alloc (by simp; omega) ob2)
  obtain ⟨hv1, hv2⟩ := hv
  have OK := Lib.hid (fun W => okK_any o.w how W true hok)
  have FI := Lib.hid (fun A n c W (h : RdK W W.heap.size A n l) => refFindP_any l HS.out o.name v A n c W h hn (-1) (by simp [posN, hha]))
  clear hR hs
  go_enter Try.func20, Try.ntmps20
  go_wp2_with fail
  refine (OK.out _).mono ?_
  rintro e w' ⟨rfl, rfl⟩
  go_wp2_with fail
  refine (FI.out A n c _ (R0.out _ _ _)).mono ?_
  rintro e w1 ⟨rfl, hb1⟩
  have Bp := Lib.hid ((((Box.new w _ _).alloc _).alloc _).go hb1)
  have Bo := Lib.hid (((Box.new1 w _ _ _).alloc _).go hb1)
  have Br := Lib.hid ((Box.new2 w _ _ _ _).go hb1)
  have Rp := Lib.hid ((R0.out _ _ _).go hb1)
  have HB0 := Lib.hid (call0 (HB0.out _ _ _) hb1)
  clear hb1
  obtain ⟨xp1, xp2, xp3, xp4⟩ := Bp.out.facts
  have lp := Bp.out.lt
  obtain ⟨xo1, xo2, xo3, xo4⟩ := Bo.out.facts
  have lo := Bo.out.lt
  obtain ⟨xr1, xr2, xr3, xr4⟩ := Br.out.facts
  have lr := Br.out.lt
  go_wp2_with fail
  have b2 := (Br.out.set_same 0 (.int .i64 v)).set_same 1 (.slice A n c)
  obtain ⟨z1, z2, z3, z4⟩ := b2.facts
  have hZ := z3 0 2 (Nat.le_refl _)
  have HBF := (HB0.out.setCell (show w.heap.size ≤ w.heap.size + 2 by omega) (p := ⟨w.heap.size + 2, 0, none⟩) (.int .i64 v)).setCell (show w.heap.size ≤ w.heap.size + 2 by omega) (p := ⟨w.heap.size + 2, 1, none⟩) (.slice A n c)
  refine bodyPost_ret (ret_pool rfl _ _ _ _ rfl (by rw [hZ]; trivial)) rfl ⟨A, c, ?_, (RB.out.below HBF).more HBF.size, HBF⟩
  rw [z4 0 2 (Nat.le_refl _)]
  rfl

set_option maxHeartbeats 2000000 in
set_option maxRecDepth 100000 in
theorem refDo_twice4 (l : List Bk) (hs : Srt l) (v : Int) (hv : -9223372036854775808 ≤ v ∧ v < 9223372036854775807) (o : Opr) (hf : o.bk.fine) (how : o.w < 18446744073709551616) (A : Option Addr) (n c : Nat) (w : World) (hR : RdK w w.heap.size A n l) (hn : l.length ≤ 100000) (hk : o.kind = 4) (hha : hasN l o.name = true) (hd : (gotN l o.name).drain = true) :
    Calls Try.prog 20 #[.agg #[.int .i64 v, .slice A n c], .agg o.arr] w (PoolC w v n l 6) := by
  have RB := Lib.hid hR
  have HNL := Lib.hid hR.1
  have R0 := Lib.hid (fun ob ob' ob2 => ((hR.up ob).up ob').up ob2)
  have HB0 := Lib.hid (fun ob ob' ob2 => ((((Below.refl w.heap.size w).alloc (Nat.le_refl _) ob).alloc (by simp) ob').alloc (by simp; omega) ob2 : Below w.heap.size w (((w.alloc ob).alloc ob').alloc ob2)))
  have hnle : n ≤ 100000 := by have := hR.1; omega
  have HS := Lib.hid hs
  have HBF0 := Lib.hid (fun ob ob' ob2 => show Below w.heap.size w (((w.alloc ob).alloc ob').alloc ob2) from (((Below.refl w.heap.size w).alloc (Nat.le_refl _) ob).alloc (by simp) ob').alloc (by simp; omega) ob2)
  obtain ⟨hv1, hv2⟩ := hv
  have FI := Lib.hid (fun A n c W (h : RdK W W.heap.size A n l) => refFindP_any l HS.out o.name v A n c W h hn ((lowN l o.name : Nat)) (by simp [posN, hha]))
  have HD := Lib.hid hd
  have hlt : lowN l o.name < n := by
      rw [← HNL.out]
      simp [hasN] at hha
      omega
  obtain ⟨b, oo, rfl, hbb, hh, hcl⟩ := RB.out.at_ hlt
  have HLT := Lib.hid hlt
  have HHA := Lib.hid hha
  clear hlt hh hcl hbb hha
  clear hR hs hd
  go_enter Try.func20, Try.ntmps20
  go_wp2_with fail
  refine (FI.out _ n c _ (R0.out _ _ _)).mono ?_
  rintro e w1 ⟨rfl, hb1⟩
  have Bp := Lib.hid ((((Box.new w _ _).alloc _).alloc _).go hb1)
  have Bo := Lib.hid (((Box.new1 w _ _ _).alloc _).go hb1)
  have Br := Lib.hid ((Box.new2 w _ _ _ _).go hb1)
  have Rp := Lib.hid ((R0.out _ _ _).go hb1)
  have HB0 := Lib.hid (call0 (HB0.out _ _ _) hb1)
  clear hb1
  obtain ⟨xp1, xp2, xp3, xp4⟩ := Bp.out.facts
  have lp := Bp.out.lt
  obtain ⟨xo1, xo2, xo3, xo4⟩ := Bo.out.facts
  have lo := Bo.out.lt
  obtain ⟨xr1, xr2, xr3, xr4⟩ := Br.out.facts
  have lr := Br.out.lt
  obtain ⟨b', o', hbo, hbb, hh, hcl⟩ := Rp.out.at_ HLT.out
  injection hbo with hbo
  injection hbo with e1 e2
  subst e1 e2
  have hdr : w1.cell? ⟨b, oo + lowN l o.name * 27 + 26, none⟩ = some (.bool (gotN l o.name).drain) := by
    obtain ⟨b', o', hbo, _, hc⟩ := Rp.out.cell HLT.out
    injection hbo with hbo
    injection hbo with e1 e2
    subst e1 e2
    rw [hc 26 (by omega), Bk.arr_26, gotN_yes HHA.out]
  obtain ⟨m, hm⟩ : ∃ m, m = lowN l o.name := ⟨_, rfl⟩
  have hmn : m < n := by rw [hm]; exact HLT.out
  have HM := Lib.hid hm
  rw [← hm] at hdr hh hcl ⊢
  obtain ⟨dd, hdd⟩ : ∃ dd, dd = (gotN l o.name).drain := ⟨_, rfl⟩
  rw [← hdd] at hdr
  have hD := hdd.trans HD.out
  clear hdd hm
  subst hD
  go_wp2_with fail
  have b2 := (Br.out.set_same 0 (.int .i64 v)).set_same 1 (.slice (some ⟨b, oo, none⟩) n c)
  obtain ⟨z1, z2, z3, z4⟩ := b2.facts
  have hZ := z3 0 2 (Nat.le_refl _)
  have HBF := (HB0.out.setCell (show w.heap.size ≤ w.heap.size + 2 by omega) (p := ⟨w.heap.size + 2, 0, none⟩) (.int .i64 v)).setCell (show w.heap.size ≤ w.heap.size + 2 by omega) (p := ⟨w.heap.size + 2, 1, none⟩) (.slice (some ⟨b, oo, none⟩) n c)
  refine bodyPost_ret (ret_pool rfl _ _ _ _ rfl (by rw [hZ]; trivial)) rfl ⟨(some ⟨b, oo, none⟩), c, ?_, (RB.out.below HBF).more HBF.size, HBF⟩
  rw [z4 0 2 (Nat.le_refl _)]
  rfl

set_option maxHeartbeats 2000000 in
set_option maxRecDepth 100000 in
theorem refDo_twice5 (l : List Bk) (hs : Srt l) (v : Int) (hv : -9223372036854775808 ≤ v ∧ v < 9223372036854775807) (o : Opr) (hf : o.bk.fine) (how : o.w < 18446744073709551616) (A : Option Addr) (n c : Nat) (w : World) (hR : RdK w w.heap.size A n l) (hn : l.length ≤ 100000) (hk : o.kind = 5) (hha : hasN l o.name = true) (hd : (gotN l o.name).drain = false) :
    Calls Try.prog 20 #[.agg #[.int .i64 v, .slice A n c], .agg o.arr] w (PoolC w v n l 6) := by
  have RB := Lib.hid hR
  have HNL := Lib.hid hR.1
  have R0 := Lib.hid (fun ob ob' ob2 => ((hR.up ob).up ob').up ob2)
  have HB0 := Lib.hid (fun ob ob' ob2 => ((((Below.refl w.heap.size w).alloc (Nat.le_refl _) ob).alloc (by simp) ob').alloc (by simp; omega) ob2 : Below w.heap.size w (((w.alloc ob).alloc ob').alloc ob2)))
  have hnle : n ≤ 100000 := by have := hR.1; omega
  have HS := Lib.hid hs
  have HBF0 := Lib.hid (fun ob ob' ob2 => show Below w.heap.size w (((w.alloc ob).alloc ob').alloc ob2) from (((Below.refl w.heap.size w).alloc (Nat.le_refl _) ob).alloc (by simp) ob').alloc (by simp; omega) ob2)
  obtain ⟨hv1, hv2⟩ := hv
  have FI := Lib.hid (fun A n c W (h : RdK W W.heap.size A n l) => refFindP_any l HS.out o.name v A n c W h hn ((lowN l o.name : Nat)) (by simp [posN, hha]))
  have HD := Lib.hid hd
  have hlt : lowN l o.name < n := by
      rw [← HNL.out]
      simp [hasN] at hha
      omega
  obtain ⟨b, oo, rfl, hbb, hh, hcl⟩ := RB.out.at_ hlt
  have HLT := Lib.hid hlt
  have HHA := Lib.hid hha
  clear hlt hh hcl hbb hha
  clear hR hs hd
  go_enter Try.func20, Try.ntmps20
  go_wp2_with fail
  refine (FI.out _ n c _ (R0.out _ _ _)).mono ?_
  rintro e w1 ⟨rfl, hb1⟩
  have Bp := Lib.hid ((((Box.new w _ _).alloc _).alloc _).go hb1)
  have Bo := Lib.hid (((Box.new1 w _ _ _).alloc _).go hb1)
  have Br := Lib.hid ((Box.new2 w _ _ _ _).go hb1)
  have Rp := Lib.hid ((R0.out _ _ _).go hb1)
  have HB0 := Lib.hid (call0 (HB0.out _ _ _) hb1)
  clear hb1
  obtain ⟨xp1, xp2, xp3, xp4⟩ := Bp.out.facts
  have lp := Bp.out.lt
  obtain ⟨xo1, xo2, xo3, xo4⟩ := Bo.out.facts
  have lo := Bo.out.lt
  obtain ⟨xr1, xr2, xr3, xr4⟩ := Br.out.facts
  have lr := Br.out.lt
  obtain ⟨b', o', hbo, hbb, hh, hcl⟩ := Rp.out.at_ HLT.out
  injection hbo with hbo
  injection hbo with e1 e2
  subst e1 e2
  have hdr : w1.cell? ⟨b, oo + lowN l o.name * 27 + 26, none⟩ = some (.bool (gotN l o.name).drain) := by
    obtain ⟨b', o', hbo, _, hc⟩ := Rp.out.cell HLT.out
    injection hbo with hbo
    injection hbo with e1 e2
    subst e1 e2
    rw [hc 26 (by omega), Bk.arr_26, gotN_yes HHA.out]
  obtain ⟨m, hm⟩ : ∃ m, m = lowN l o.name := ⟨_, rfl⟩
  have hmn : m < n := by rw [hm]; exact HLT.out
  have HM := Lib.hid hm
  rw [← hm] at hdr hh hcl ⊢
  obtain ⟨dd, hdd⟩ : ∃ dd, dd = (gotN l o.name).drain := ⟨_, rfl⟩
  rw [← hdd] at hdr
  have hD := hdd.trans HD.out
  clear hdd hm
  subst hD
  go_wp2_with fail
  have b2 := (Br.out.set_same 0 (.int .i64 v)).set_same 1 (.slice (some ⟨b, oo, none⟩) n c)
  obtain ⟨z1, z2, z3, z4⟩ := b2.facts
  have hZ := z3 0 2 (Nat.le_refl _)
  have HBF := (HB0.out.setCell (show w.heap.size ≤ w.heap.size + 2 by omega) (p := ⟨w.heap.size + 2, 0, none⟩) (.int .i64 v)).setCell (show w.heap.size ≤ w.heap.size + 2 by omega) (p := ⟨w.heap.size + 2, 1, none⟩) (.slice (some ⟨b, oo, none⟩) n c)
  refine bodyPost_ret (ret_pool rfl _ _ _ _ rfl (by rw [hZ]; trivial)) rfl ⟨(some ⟨b, oo, none⟩), c, ?_, (RB.out.below HBF).more HBF.size, HBF⟩
  rw [z4 0 2 (Nat.le_refl _)]
  rfl

theorem refDo_one (l : List Bk) (hs : Srt l) (v : Int) (hv : -9223372036854775808 ≤ v ∧ v < 9223372036854775807) (o : Opr) (hf : o.bk.fine) (A : Option Addr) (n c : Nat) (w : World) (hR : RdK w w.heap.size A n l) (hn : l.length ≤ 100000) (hk : o.kind = 1) (V : Int) (N : Nat) (L : List Bk) (E : Int) (hV : doV v l o = V) (hL : doL v l o = L) (hN : L.length = N) (hE : whyNot v l o = E) :
    Calls Try.prog 20 #[.agg #[.int .i64 v, .slice A n c], .agg o.arr] w (PoolC w V N L E) := by
  have HAD := Lib.hid (fun A n c W (h : RdK W W.heap.size A n l) => show Calls Try.prog 40 #[.agg #[.int .i64 v, .slice A n c], .agg o.bk.arr] W (PoolC W V N L E) by
    have := refAdd_any l hs v hv o.bk hf A n c W h hn
    rw [← doV_one hk, ← doL_one hk, ← why_one hk, hV, hL, hN, hE] at this
    exact this)
  have R0 := Lib.hid (fun ob ob' ob2 => ((hR.up ob).up ob').up ob2)
  have HB0 := Lib.hid (fun ob ob' ob2 => ((((Below.refl w.heap.size w).alloc (Nat.le_refl _) ob).alloc (by simp) ob').alloc (by simp; omega) ob2 : Below w.heap.size w (((w.alloc ob).alloc ob').alloc ob2)))
  clear hs hv hf hR hn hV hL hN hE
  go_enter Try.func20, Try.ntmps20
  go_wp2_with fail
  refine (HAD.out A n c _ (R0.out _ _ _)).mono ?_
  rintro e w1 ⟨A1, c1, rfl, hr1, hb1⟩
  have Br := Lib.hid ((Box.new2 w _ _ _ _).go hb1)
  have R1 := Lib.hid hr1
  have HB0 := Lib.hid (call0 (HB0.out _ _ _) hb1)
  clear hr1 hb1
  obtain ⟨xr1, xr2, xr3, xr4⟩ := Br.out.facts
  have lr := Br.out.lt
  go_wp2_with fail
  have b2 := (Br.out.set_same 0 (.int .i64 V)).set_same 1 (.slice A1 N c1)
  obtain ⟨z1, z2, z3, z4⟩ := b2.facts
  have hZ := z3 0 2 (Nat.le_refl _)
  have HBF := (HB0.out.setCell (show w.heap.size ≤ w.heap.size + 2 by omega) (p := ⟨w.heap.size + 2, 0, none⟩) (.int .i64 V)).setCell (show w.heap.size ≤ w.heap.size + 2 by omega) (p := ⟨w.heap.size + 2, 1, none⟩) (.slice A1 N c1)
  refine bodyPost_ret (ret_pool rfl _ _ _ _ rfl (by rw [hZ]; trivial)) rfl ⟨A1, c1, ?_, ?_, HBF⟩
  · rw [z4 0 2 (Nat.le_refl _)]; rfl
  · exact (R1.out.setBox Br.out (by decide) 0 (.int .i64 V)).setBox (Br.out.set_same 0 (.int .i64 V)) (by simp) 1 _
end Go.Proofs.Ytgcahcjffoehfaa

/-! What is done to a pool, the document's way: the loop. -/
namespace Go.Proofs.Ytgcahcjffoehfaa
open Go.RowKit

set_option maxHeartbeats 2000000 in
set_option maxRecDepth 100000 in
theorem refDo_set3 (l : List Bk) (hs : Srt l) (v : Int) (hv : -9223372036854775808 ≤ v ∧ v < 9223372036854775807) (o : Opr) (hf : o.bk.fine) (how : o.w < 18446744073709551616) (A : Option Addr) (n c : Nat) (w : World) (hR : RdK w w.heap.size A n l) (hn : l.length ≤ 100000) (hk : o.kind = 3) (hha : hasN l o.name = true) (hvv : v < 1099511627776) (hok : wOk o.w = true) :
    Calls Try.prog 20 #[.agg #[.int .i64 v, .slice A n c], .agg o.arr] w (PoolC w (v + 1) n (l.set (lowN l o.name) ((gotN l o.name).toW (wPlain o.w))) 0) := by
  have RB := Lib.hid hR
  have HNL := Lib.hid hR.1
  have R0 := Lib.hid (fun ob ob' ob2 => ((hR.up ob).up ob').up ob2)
  have HB0 := Lib.hid (fun ob ob' ob2 => ((((Below.refl w.heap.size w).alloc (Nat.le_refl _) ob).alloc (by simp) ob').alloc (by simp; omega) ob2 : Below w.heap.size w (((w.alloc ob).alloc ob').alloc ob2)))
  have hnle : n ≤ 100000 := by have := hR.1; omega
  have HS := Lib.hid hs
  have HBF0 := Lib.hid (fun ob ob' ob2 => show Below w.heap.size w (((w.alloc ob).alloc ob').alloc ob2) from (((Below.refl w.heap.size w).alloc (Nat.le_refl _) ob).alloc (by simp) ob').alloc (by simp; omega) ob2)
  obtain ⟨hv1, hv2⟩ := hv
  have OK := Lib.hid (fun W => okK_any o.w how W true hok)
  have FI := Lib.hid (fun A n c W (h : RdK W W.heap.size A n l) => refFindP_any l HS.out o.name v A n c W h hn ((lowN l o.name : Nat)) (by simp [posN, hha]))
  have hv' : decide (1099511627776 ≤ v) = false := by simp; omega
  have hlt : lowN l o.name < n := by
      rw [← HNL.out]
      simp [hasN] at hha
      omega
  obtain ⟨b, oo, rfl, hbb, hh, hcl⟩ := RB.out.at_ hlt
  have HLT := Lib.hid hlt
  have HHA := Lib.hid hha
  clear hlt hh hcl hbb hha
  clear hR hs
  go_enter Try.func20, Try.ntmps20
  go_wp2_with fail
  refine (OK.out _).mono ?_
  rintro e w' ⟨rfl, rfl⟩
  go_wp2_with fail
  refine (FI.out _ n c _ (R0.out _ _ _)).mono ?_
  rintro e w1 ⟨rfl, hb1⟩
  have Bp := Lib.hid ((((Box.new w _ _).alloc _).alloc _).go hb1)
  have Bo := Lib.hid (((Box.new1 w _ _ _).alloc _).go hb1)
  have Br := Lib.hid ((Box.new2 w _ _ _ _).go hb1)
  have Rp := Lib.hid ((R0.out _ _ _).go hb1)
  have HB0 := Lib.hid (call0 (HB0.out _ _ _) hb1)
  clear hb1
  obtain ⟨xp1, xp2, xp3, xp4⟩ := Bp.out.facts
  have lp := Bp.out.lt
  obtain ⟨xo1, xo2, xo3, xo4⟩ := Bo.out.facts
  have lo := Bo.out.lt
  obtain ⟨xr1, xr2, xr3, xr4⟩ := Br.out.facts
  have lr := Br.out.lt
  obtain ⟨b', o', hbo, hbb, hh, hcl⟩ := Rp.out.at_ HLT.out
  injection hbo with hbo
  injection hbo with e1 e2
  subst e1 e2
  have hdr : w1.cell? ⟨b, oo + lowN l o.name * 27 + 26, none⟩ = some (.bool (gotN l o.name).drain) := by
    obtain ⟨b', o', hbo, _, hc⟩ := Rp.out.cell HLT.out
    injection hbo with hbo
    injection hbo with e1 e2
    subst e1 e2
    rw [hc 26 (by omega), Bk.arr_26, gotN_yes HHA.out]
  obtain ⟨m, hm⟩ : ∃ m, m = lowN l o.name := ⟨_, rfl⟩
  have hmn : m < n := by rw [hm]; exact HLT.out
  have HM := Lib.hid hm
  rw [← hm] at hdr hh hcl ⊢
  obtain ⟨dd, hdd⟩ : ∃ dd, dd = (gotN l o.name).drain := ⟨_, rfl⟩
  rw [← hdd] at hdr
  clear hdd hm
  go_wp2_with fail
  clear hh hcl
  clear xp1 xp2 xp3 xp4 lp xo1 xo2 xo3 xo4 lo xr1 xr2 xr3 xr4 lr
  have hbase : w.heap.size + 3 ≤ w1.heap.size := by have := Br.out.lt; omega
  obtain ⟨i0, hi0, hz0, hz1, hzb⟩ := infoBk
  have HI0 := Lib.hid hi0
  have HZ0 := Lib.hid hz0
  have HZ1 := Lib.hid hz1
  have HZ2 := Lib.hid (show (Value.agg noBk.arr).cells.size = 27 by simp [Value.cells, Bk.arr_size])
  clear hi0 hz0 hz1
  go_loopw [7, 8] (fun s7 s8 wr => ∃ (i : Nat) (O : Option Addr) (cap : Nat), i ≤ n ∧ s7 = .slice O i cap ∧ s8 = .int .i64 i ∧ wr.ownsRow (w.heap.size + 3) 36 27 (.slice O i cap) i (cellsBk ((l.set m ((gotN l o.name).toW (wPlain o.w))).take i)) ∧ Below (w.heap.size + 3) w1 wr) (fun _ s8 _ => n - (intOf s8).toNat)
  case atStart => exact ⟨0, none, 0, by omega, rfl, rfl, World.ownsRow_nil _ _ _ _, Below.refl _ _⟩
  case round =>
    obtain ⟨i, O, cap, hin, rfl, rfl, ho, hb⟩ := hrel
    have bp := Bp.out.below hb (by omega)
    have bo := Bo.out.below hb (by omega)
    have br := Br.out.below hb (by omega)
    have HBW := Lib.hid (HB0.out.trans (hb.mono (by omega)))
    have HBB := Lib.hid hb
    have hsz := hb.size
    have HO := Lib.hid ho
    have OW := Lib.hid (fun ob ob' => ((ho.alloc ob).alloc ob'))
    clear hb ho
    by_cases hlt : i < n
    · have hi : (i : Int) < n := by omega
      obtain ⟨b', oo', hbo, hbb, hh, hcl⟩ := (RB.out.below HBW.out).at_ hlt
      injection hbo with hbo
      injection hbo with e1 e2
      subst e1 e2
      have HTS := Lib.hid (take_snocBk (l.set m ((gotN l o.name).toW (wPlain o.w))) i (by rw [List.length_set, HNL.out]; exact hlt))
      obtain ⟨xi, hxi⟩ : ∃ xi, xi = l.getD i noBk := ⟨_, rfl⟩
      have HXI := Lib.hid hxi
      rw [← hxi] at hcl
      clear hxi
      have hbs : b < wr.heap.size := by omega
      have HH := Lib.hid hh
      have HCL := Lib.hid hcl
      obtain ⟨xp1, xp2, xp3, xp4⟩ := bp.facts
      obtain ⟨xo1, xo2, xo3, xo4⟩ := bo.facts
      have lp := bp.lt
      have lo := bo.lt
      clear bp bo br
      have H63 := Lib.hid (show i + 1 ≤ maxLen by unfold maxLen; omega)
      have HBY := Lib.hid (show (i + 1) * i0.bytes ≤ 140737488355328 from Nat.le_trans (Nat.mul_le_mul (show i + 1 ≤ 100002 by omega) hzb) (by omega))
      have HBS := Lib.hid (fun ob ob' => show w.heap.size + 3 ≤ ((wr.alloc ob).alloc ob').heap.size by simp; omega)
      have HROW := Lib.hid (fun (z : Bk) => show Rd ((wr.alloc (.cells z.arr 36)).alloc (.cells z.arr 36)) (wr.heap.size + 2) 27 (some ⟨wr.heap.size + 1, 0, none⟩) 1 z.arr.toList by
        have h := row_rd (wr.alloc (.cells z.arr 36)) z
        rwa [show (wr.alloc (.cells z.arr 36)).heap.size = wr.heap.size + 1 by simp] at h)
      have HONE := Lib.hid (fun (z : Bk) (v : Value) (hv : v ∈ z.arr.toList) => (Array.all_eq_true_iff_forall_mem.1 (Bk.arr_one z) v (by simpa using hv) : v.oneCell' = true))
      have HGR := Lib.hid (fun ob ob' w1 (hg : ((wr.alloc ob).alloc ob').grownBy w1 (Value.slice O i cap).ownBlock) => ((HBB.out.alloc (by omega) ob).alloc (by simp; omega) ob').grown hg (by simp; omega) (fun k hk => (HO.out.lt k hk).1))
      by_cases him : i = m
      · subst him
        have HGET := Lib.hid (show xi = gotN l o.name by rw [HXI.out, gotN_yes HHA.out, ← HM.out])
        go_wp2_with fail
        refine (refPlain_any _ _).mono ?_
        rintro e w' ⟨rfl, rfl⟩
        go_wp2_with (at_builtin; refine wpList_app_rd _ rfl (.tmp 105) (.tmp 107) _ rfl (w.heap.size + 3) 36 i0 (.agg noBk.arr) 27 i0.bytes Try.underlying22 HI0.out HZ0.out HZ1.out rfl HZ2.out (Nat.succ_pos _) (.slice O i cap) i (cellsBk ((l.set i ((gotN l o.name).toW (wPlain o.w))).take i)) rfl (OW.out _ _) (wr.heap.size + 2) (some ⟨wr.heap.size + 1, 0, none⟩) 1 1 (xi.toW (wPlain o.w)).arr.toList rfl (HROW.out (xi.toW (wPlain o.w))) (HONE.out (xi.toW (wPlain o.w))) H63.out HBY.out (HBS.out _ _) ?_; intro v1 w1 hown1 hg1 hat1; have O1 := Lib.hid hown1; have G1 := Lib.hid (HGR.out _ _ _ hg1); clear hown1 hg1 hat1)
        obtain ⟨O', cap', rfl, _, _⟩ := own_form O1.out
        go_roundw
        case rel => exact ⟨i + 1, O', cap', by omega, rfl, by go_num, by have h1 := O1.out; rw [cellsBk_snoc, show (xi.toW (wPlain o.w)) = (l.set i ((gotN l o.name).toW (wPlain o.w))).getD i noBk by rw [HGET.out, List.getD_eq_getElem?_getD, List.getElem?_set_self (by rw [HNL.out]; exact hlt)]; rfl, HTS.out] at h1; exact h1, G1.out⟩
        case measure => simp [intOf] <;> omega
      · have hne : ((i : Int) == (m : Int)) = false := by rw [beq_eq_false_iff_ne]; omega
        have HIM := Lib.hid him
        clear him
        go_wp2_with (at_builtin; refine wpList_app_rd _ rfl (.tmp 105) (.tmp 107) _ rfl (w.heap.size + 3) 36 i0 (.agg noBk.arr) 27 i0.bytes Try.underlying22 HI0.out HZ0.out HZ1.out rfl HZ2.out (Nat.succ_pos _) (.slice O i cap) i (cellsBk ((l.set m ((gotN l o.name).toW (wPlain o.w))).take i)) rfl (OW.out _ _) (wr.heap.size + 2) (some ⟨wr.heap.size + 1, 0, none⟩) 1 1 xi.arr.toList rfl (HROW.out xi) (HONE.out xi) H63.out HBY.out (HBS.out _ _) ?_; intro v1 w1 hown1 hg1 hat1; have O1 := Lib.hid hown1; have G1 := Lib.hid (HGR.out _ _ _ hg1); clear hown1 hg1 hat1)
        obtain ⟨O', cap', rfl, _, _⟩ := own_form O1.out
        go_roundw
        case rel => exact ⟨i + 1, O', cap', by omega, rfl, by go_num, by have h1 := O1.out; rw [cellsBk_snoc, show xi = (l.set m ((gotN l o.name).toW (wPlain o.w))).getD i noBk by rw [HXI.out, List.getD_eq_getElem?_getD, List.getD_eq_getElem?_getD, List.getElem?_set_ne (fun h => HIM.out h.symm)], HTS.out] at h1; exact h1, G1.out⟩
        case measure => simp [intOf] <;> omega
    · obtain rfl : i = n := by omega
      have hd : decide ((i : Int) < i) = false := by simp
      have hown : wr.ownsRow (w.heap.size + 3) 36 27 (.slice O i cap) i (cellsBk (l.set m ((gotN l o.name).toW (wPlain o.w)))) := by
        have h1 := HO.out
        rw [List.take_of_length_le (by rw [List.length_set, HNL.out]; omega)] at h1
        exact h1
      have HLEN := Lib.hid (show (l.set m ((gotN l o.name).toW (wPlain o.w))).length = i by rw [List.length_set, HNL.out])
      have HOWN := Lib.hid hown
      obtain ⟨xp1, xp2, xp3, xp4⟩ := bp.facts
      obtain ⟨r1, r2, r3, r4⟩ := br.facts
      have lp := bp.lt
      have lr := br.lt
      have G1 := HBB
      clear bp bo br hown
      go_wp2_with fail
      have b2 := ((Br.out.below G1.out (by omega)).set_same 0 (.int .i64 (v + 1))).set_same 1 (.slice O i cap)
      obtain ⟨z1, z2, z3, z4⟩ := b2.facts
      have hZ := z3 0 2 (Nat.le_refl _)
      have hbF := ((HB0.out.trans (G1.out.mono (by omega))).setCell (show w.heap.size ≤ w.heap.size + 2 by omega) (p := ⟨w.heap.size + 2, 0, none⟩) (.int .i64 (v + 1))).setCell (show w.heap.size ≤ w.heap.size + 2 by omega) (p := ⟨w.heap.size + 2, 1, none⟩) (.slice O i cap)
      have hoF := own_set (own_set HOWN.out (show w.heap.size + 2 < w.heap.size + 3 by omega) (p := ⟨w.heap.size + 2, 0, none⟩) (.int .i64 (v + 1))) (show w.heap.size + 2 < w.heap.size + 3 by omega) (p := ⟨w.heap.size + 2, 1, none⟩) (.slice O i cap)
      rw [← HLEN.out] at hoF
      have hrF := own_reads hoF
      rw [HLEN.out, HM.out] at hrF
      refine bodyPost_ret (ret_pool rfl _ _ _ _ rfl (by rw [hZ]; trivial)) rfl ⟨O, cap, ?_, hrF, hbF⟩
      rw [z4 0 2 (Nat.le_refl _)]
      rfl

set_option maxHeartbeats 2000000 in
set_option maxRecDepth 100000 in
theorem refDo_set4 (l : List Bk) (hs : Srt l) (v : Int) (hv : -9223372036854775808 ≤ v ∧ v < 9223372036854775807) (o : Opr) (hf : o.bk.fine) (how : o.w < 18446744073709551616) (A : Option Addr) (n c : Nat) (w : World) (hR : RdK w w.heap.size A n l) (hn : l.length ≤ 100000) (hk : o.kind = 4) (hha : hasN l o.name = true) (hvv : v < 1099511627776) (hd : (gotN l o.name).drain = false) :
    Calls Try.prog 20 #[.agg #[.int .i64 v, .slice A n c], .agg o.arr] w (PoolC w (v + 1) n (l.set (lowN l o.name) ((gotN l o.name).toD true)) 0) := by
  have RB := Lib.hid hR
  have HNL := Lib.hid hR.1
  have R0 := Lib.hid (fun ob ob' ob2 => ((hR.up ob).up ob').up ob2)
  have HB0 := Lib.hid (fun ob ob' ob2 => ((((Below.refl w.heap.size w).alloc (Nat.le_refl _) ob).alloc (by simp) ob').alloc (by simp; omega) ob2 : Below w.heap.size w (((w.alloc ob).alloc ob').alloc ob2)))
  have hnle : n ≤ 100000 := by have := hR.1; omega
  have HS := Lib.hid hs
  have HBF0 := Lib.hid (fun ob ob' ob2 => show Below w.heap.size w (((w.alloc ob).alloc ob').alloc ob2) from (((Below.refl w.heap.size w).alloc (Nat.le_refl _) ob).alloc (by simp) ob').alloc (by simp; omega) ob2)
  obtain ⟨hv1, hv2⟩ := hv
  have FI := Lib.hid (fun A n c W (h : RdK W W.heap.size A n l) => refFindP_any l HS.out o.name v A n c W h hn ((lowN l o.name : Nat)) (by simp [posN, hha]))
  have hv' : decide (1099511627776 ≤ v) = false := by simp; omega
  have HD := Lib.hid hd
  have hlt : lowN l o.name < n := by
      rw [← HNL.out]
      simp [hasN] at hha
      omega
  obtain ⟨b, oo, rfl, hbb, hh, hcl⟩ := RB.out.at_ hlt
  have HLT := Lib.hid hlt
  have HHA := Lib.hid hha
  clear hlt hh hcl hbb hha
  clear hR hs hd
  go_enter Try.func20, Try.ntmps20
  go_wp2_with fail
  refine (FI.out _ n c _ (R0.out _ _ _)).mono ?_
  rintro e w1 ⟨rfl, hb1⟩
  have Bp := Lib.hid ((((Box.new w _ _).alloc _).alloc _).go hb1)
  have Bo := Lib.hid (((Box.new1 w _ _ _).alloc _).go hb1)
  have Br := Lib.hid ((Box.new2 w _ _ _ _).go hb1)
  have Rp := Lib.hid ((R0.out _ _ _).go hb1)
  have HB0 := Lib.hid (call0 (HB0.out _ _ _) hb1)
  clear hb1
  obtain ⟨xp1, xp2, xp3, xp4⟩ := Bp.out.facts
  have lp := Bp.out.lt
  obtain ⟨xo1, xo2, xo3, xo4⟩ := Bo.out.facts
  have lo := Bo.out.lt
  obtain ⟨xr1, xr2, xr3, xr4⟩ := Br.out.facts
  have lr := Br.out.lt
  obtain ⟨b', o', hbo, hbb, hh, hcl⟩ := Rp.out.at_ HLT.out
  injection hbo with hbo
  injection hbo with e1 e2
  subst e1 e2
  have hdr : w1.cell? ⟨b, oo + lowN l o.name * 27 + 26, none⟩ = some (.bool (gotN l o.name).drain) := by
    obtain ⟨b', o', hbo, _, hc⟩ := Rp.out.cell HLT.out
    injection hbo with hbo
    injection hbo with e1 e2
    subst e1 e2
    rw [hc 26 (by omega), Bk.arr_26, gotN_yes HHA.out]
  obtain ⟨m, hm⟩ : ∃ m, m = lowN l o.name := ⟨_, rfl⟩
  have hmn : m < n := by rw [hm]; exact HLT.out
  have HM := Lib.hid hm
  rw [← hm] at hdr hh hcl ⊢
  obtain ⟨dd, hdd⟩ : ∃ dd, dd = (gotN l o.name).drain := ⟨_, rfl⟩
  rw [← hdd] at hdr
  have hD := hdd.trans HD.out
  clear hdd hm
  subst hD
  go_wp2_with fail
  clear hh hcl
  clear xp1 xp2 xp3 xp4 lp xo1 xo2 xo3 xo4 lo xr1 xr2 xr3 xr4 lr
  have hbase : w.heap.size + 3 ≤ w1.heap.size := by have := Br.out.lt; omega
  obtain ⟨i0, hi0, hz0, hz1, hzb⟩ := infoBk
  have HI0 := Lib.hid hi0
  have HZ0 := Lib.hid hz0
  have HZ1 := Lib.hid hz1
  have HZ2 := Lib.hid (show (Value.agg noBk.arr).cells.size = 27 by simp [Value.cells, Bk.arr_size])
  clear hi0 hz0 hz1
  go_loopw [7, 8] (fun s7 s8 wr => ∃ (i : Nat) (O : Option Addr) (cap : Nat), i ≤ n ∧ s7 = .slice O i cap ∧ s8 = .int .i64 i ∧ wr.ownsRow (w.heap.size + 3) 36 27 (.slice O i cap) i (cellsBk ((l.set m ((gotN l o.name).toD true)).take i)) ∧ Below (w.heap.size + 3) w1 wr) (fun _ s8 _ => n - (intOf s8).toNat)
  case atStart => exact ⟨0, none, 0, by omega, rfl, rfl, World.ownsRow_nil _ _ _ _, Below.refl _ _⟩
  case round =>
    obtain ⟨i, O, cap, hin, rfl, rfl, ho, hb⟩ := hrel
    have bp := Bp.out.below hb (by omega)
    have bo := Bo.out.below hb (by omega)
    have br := Br.out.below hb (by omega)
    have HBW := Lib.hid (HB0.out.trans (hb.mono (by omega)))
    have HBB := Lib.hid hb
    have hsz := hb.size
    have HO := Lib.hid ho
    have OW := Lib.hid (fun ob ob' => ((ho.alloc ob).alloc ob'))
    clear hb ho
    by_cases hlt : i < n
    · have hi : (i : Int) < n := by omega
      obtain ⟨b', oo', hbo, hbb, hh, hcl⟩ := (RB.out.below HBW.out).at_ hlt
      injection hbo with hbo
      injection hbo with e1 e2
      subst e1 e2
      have HTS := Lib.hid (take_snocBk (l.set m ((gotN l o.name).toD true)) i (by rw [List.length_set, HNL.out]; exact hlt))
      obtain ⟨xi, hxi⟩ : ∃ xi, xi = l.getD i noBk := ⟨_, rfl⟩
      have HXI := Lib.hid hxi
      rw [← hxi] at hcl
      clear hxi
      have hbs : b < wr.heap.size := by omega
      have HH := Lib.hid hh
      have HCL := Lib.hid hcl
      obtain ⟨xp1, xp2, xp3, xp4⟩ := bp.facts
      obtain ⟨xo1, xo2, xo3, xo4⟩ := bo.facts
      have lp := bp.lt
      have lo := bo.lt
      clear bp bo br
      have H63 := Lib.hid (show i + 1 ≤ maxLen by unfold maxLen; omega)
      have HBY := Lib.hid (show (i + 1) * i0.bytes ≤ 140737488355328 from Nat.le_trans (Nat.mul_le_mul (show i + 1 ≤ 100002 by omega) hzb) (by omega))
      have HBS := Lib.hid (fun ob ob' => show w.heap.size + 3 ≤ ((wr.alloc ob).alloc ob').heap.size by simp; omega)
      have HROW := Lib.hid (fun (z : Bk) => show Rd ((wr.alloc (.cells z.arr 36)).alloc (.cells z.arr 36)) (wr.heap.size + 2) 27 (some ⟨wr.heap.size + 1, 0, none⟩) 1 z.arr.toList by
        have h := row_rd (wr.alloc (.cells z.arr 36)) z
        rwa [show (wr.alloc (.cells z.arr 36)).heap.size = wr.heap.size + 1 by simp] at h)
      have HONE := Lib.hid (fun (z : Bk) (v : Value) (hv : v ∈ z.arr.toList) => (Array.all_eq_true_iff_forall_mem.1 (Bk.arr_one z) v (by simpa using hv) : v.oneCell' = true))
      have HGR := Lib.hid (fun ob ob' w1 (hg : ((wr.alloc ob).alloc ob').grownBy w1 (Value.slice O i cap).ownBlock) => ((HBB.out.alloc (by omega) ob).alloc (by simp; omega) ob').grown hg (by simp; omega) (fun k hk => (HO.out.lt k hk).1))
      by_cases him : i = m
      · subst him
        have HGET := Lib.hid (show xi = gotN l o.name by rw [HXI.out, gotN_yes HHA.out, ← HM.out])
        go_wp2_with (at_builtin; refine wpList_app_rd _ rfl (.tmp 105) (.tmp 107) _ rfl (w.heap.size + 3) 36 i0 (.agg noBk.arr) 27 i0.bytes Try.underlying22 HI0.out HZ0.out HZ1.out rfl HZ2.out (Nat.succ_pos _) (.slice O i cap) i (cellsBk ((l.set i ((gotN l o.name).toD true)).take i)) rfl (OW.out _ _) (wr.heap.size + 2) (some ⟨wr.heap.size + 1, 0, none⟩) 1 1 (xi.toD true).arr.toList rfl (HROW.out (xi.toD true)) (HONE.out (xi.toD true)) H63.out HBY.out (HBS.out _ _) ?_; intro v1 w1 hown1 hg1 hat1; have O1 := Lib.hid hown1; have G1 := Lib.hid (HGR.out _ _ _ hg1); clear hown1 hg1 hat1)
        obtain ⟨O', cap', rfl, _, _⟩ := own_form O1.out
        go_roundw
        case rel => exact ⟨i + 1, O', cap', by omega, rfl, by go_num, by have h1 := O1.out; rw [cellsBk_snoc, show (xi.toD true) = (l.set i ((gotN l o.name).toD true)).getD i noBk by rw [HGET.out, List.getD_eq_getElem?_getD, List.getElem?_set_self (by rw [HNL.out]; exact hlt)]; rfl, HTS.out] at h1; exact h1, G1.out⟩
        case measure => simp [intOf] <;> omega
      · have hne : ((i : Int) == (m : Int)) = false := by rw [beq_eq_false_iff_ne]; omega
        have HIM := Lib.hid him
        clear him
        go_wp2_with (at_builtin; refine wpList_app_rd _ rfl (.tmp 105) (.tmp 107) _ rfl (w.heap.size + 3) 36 i0 (.agg noBk.arr) 27 i0.bytes Try.underlying22 HI0.out HZ0.out HZ1.out rfl HZ2.out (Nat.succ_pos _) (.slice O i cap) i (cellsBk ((l.set m ((gotN l o.name).toD true)).take i)) rfl (OW.out _ _) (wr.heap.size + 2) (some ⟨wr.heap.size + 1, 0, none⟩) 1 1 xi.arr.toList rfl (HROW.out xi) (HONE.out xi) H63.out HBY.out (HBS.out _ _) ?_; intro v1 w1 hown1 hg1 hat1; have O1 := Lib.hid hown1; have G1 := Lib.hid (HGR.out _ _ _ hg1); clear hown1 hg1 hat1)
        obtain ⟨O', cap', rfl, _, _⟩ := own_form O1.out
        go_roundw
        case rel => exact ⟨i + 1, O', cap', by omega, rfl, by go_num, by have h1 := O1.out; rw [cellsBk_snoc, show xi = (l.set m ((gotN l o.name).toD true)).getD i noBk by rw [HXI.out, List.getD_eq_getElem?_getD, List.getD_eq_getElem?_getD, List.getElem?_set_ne (fun h => HIM.out h.symm)], HTS.out] at h1; exact h1, G1.out⟩
        case measure => simp [intOf] <;> omega
    · obtain rfl : i = n := by omega
      have hd : decide ((i : Int) < i) = false := by simp
      have hown : wr.ownsRow (w.heap.size + 3) 36 27 (.slice O i cap) i (cellsBk (l.set m ((gotN l o.name).toD true))) := by
        have h1 := HO.out
        rw [List.take_of_length_le (by rw [List.length_set, HNL.out]; omega)] at h1
        exact h1
      have HLEN := Lib.hid (show (l.set m ((gotN l o.name).toD true)).length = i by rw [List.length_set, HNL.out])
      have HOWN := Lib.hid hown
      obtain ⟨xp1, xp2, xp3, xp4⟩ := bp.facts
      obtain ⟨r1, r2, r3, r4⟩ := br.facts
      have lp := bp.lt
      have lr := br.lt
      have G1 := HBB
      clear bp bo br hown
      go_wp2_with fail
      have b2 := ((Br.out.below G1.out (by omega)).set_same 0 (.int .i64 (v + 1))).set_same 1 (.slice O i cap)
      obtain ⟨z1, z2, z3, z4⟩ := b2.facts
      have hZ := z3 0 2 (Nat.le_refl _)
      have hbF := ((HB0.out.trans (G1.out.mono (by omega))).setCell (show w.heap.size ≤ w.heap.size + 2 by omega) (p := ⟨w.heap.size + 2, 0, none⟩) (.int .i64 (v + 1))).setCell (show w.heap.size ≤ w.heap.size + 2 by omega) (p := ⟨w.heap.size + 2, 1, none⟩) (.slice O i cap)
      have hoF := own_set (own_set HOWN.out (show w.heap.size + 2 < w.heap.size + 3 by omega) (p := ⟨w.heap.size + 2, 0, none⟩) (.int .i64 (v + 1))) (show w.heap.size + 2 < w.heap.size + 3 by omega) (p := ⟨w.heap.size + 2, 1, none⟩) (.slice O i cap)
      rw [← HLEN.out] at hoF
      have hrF := own_reads hoF
      rw [HLEN.out, HM.out] at hrF
      refine bodyPost_ret (ret_pool rfl _ _ _ _ rfl (by rw [hZ]; trivial)) rfl ⟨O, cap, ?_, hrF, hbF⟩
      rw [z4 0 2 (Nat.le_refl _)]
      rfl

set_option maxHeartbeats 2000000 in
set_option maxRecDepth 100000 in
theorem refDo_set5 (l : List Bk) (hs : Srt l) (v : Int) (hv : -9223372036854775808 ≤ v ∧ v < 9223372036854775807) (o : Opr) (hf : o.bk.fine) (how : o.w < 18446744073709551616) (A : Option Addr) (n c : Nat) (w : World) (hR : RdK w w.heap.size A n l) (hn : l.length ≤ 100000) (hk : o.kind = 5) (hha : hasN l o.name = true) (hvv : v < 1099511627776) (hd : (gotN l o.name).drain = true) :
    Calls Try.prog 20 #[.agg #[.int .i64 v, .slice A n c], .agg o.arr] w (PoolC w (v + 1) n (l.set (lowN l o.name) ((gotN l o.name).toD false)) 0) := by
  have RB := Lib.hid hR
  have HNL := Lib.hid hR.1
  have R0 := Lib.hid (fun ob ob' ob2 => ((hR.up ob).up ob').up ob2)
  have HB0 := Lib.hid (fun ob ob' ob2 => ((((Below.refl w.heap.size w).alloc (Nat.le_refl _) ob).alloc (by simp) ob').alloc (by simp; omega) ob2 : Below w.heap.size w (((w.alloc ob).alloc ob').alloc ob2)))
  have hnle : n ≤ 100000 := by have := hR.1; omega
  have HS := Lib.hid hs
  have HBF0 := Lib.hid (fun ob ob' ob2 => show Below w.heap.size w (((w.alloc ob).alloc ob').alloc ob2) from (((Below.refl w.heap.size w).alloc (Nat.le_refl _) ob).alloc (by simp) ob').alloc (by simp; omega) ob2)
  obtain ⟨hv1, hv2⟩ := hv
  have FI := Lib.hid (fun A n c W (h : RdK W W.heap.size A n l) => refFindP_any l HS.out o.name v A n c W h hn ((lowN l o.name : Nat)) (by simp [posN, hha]))
  have hv' : decide (1099511627776 ≤ v) = false := by simp; omega
  have HD := Lib.hid hd
  have hlt : lowN l o.name < n := by
      rw [← HNL.out]
      simp [hasN] at hha
      omega
  obtain ⟨b, oo, rfl, hbb, hh, hcl⟩ := RB.out.at_ hlt
  have HLT := Lib.hid hlt
  have HHA := Lib.hid hha
  clear hlt hh hcl hbb hha
  clear hR hs hd
  go_enter Try.func20, Try.ntmps20
  go_wp2_with fail
  refine (FI.out _ n c _ (R0.out _ _ _)).mono ?_
  rintro e w1 ⟨rfl, hb1⟩
  have Bp := Lib.hid ((((Box.new w _ _).alloc _).alloc _).go hb1)
  have Bo := Lib.hid (((Box.new1 w _ _ _).alloc _).go hb1)
  have Br := Lib.hid ((Box.new2 w _ _ _ _).go hb1)
  have Rp := Lib.hid ((R0.out _ _ _).go hb1)
  have HB0 := Lib.hid (call0 (HB0.out _ _ _) hb1)
  clear hb1
  obtain ⟨xp1, xp2, xp3, xp4⟩ := Bp.out.facts
  have lp := Bp.out.lt
  obtain ⟨xo1, xo2, xo3, xo4⟩ := Bo.out.facts
  have lo := Bo.out.lt
  obtain ⟨xr1, xr2, xr3, xr4⟩ := Br.out.facts
  have lr := Br.out.lt
  obtain ⟨b', o', hbo, hbb, hh, hcl⟩ := Rp.out.at_ HLT.out
  injection hbo with hbo
  injection hbo with e1 e2
  subst e1 e2
  have hdr : w1.cell? ⟨b, oo + lowN l o.name * 27 + 26, none⟩ = some (.bool (gotN l o.name).drain) := by
    obtain ⟨b', o', hbo, _, hc⟩ := Rp.out.cell HLT.out
    injection hbo with hbo
    injection hbo with e1 e2
    subst e1 e2
    rw [hc 26 (by omega), Bk.arr_26, gotN_yes HHA.out]
  obtain ⟨m, hm⟩ : ∃ m, m = lowN l o.name := ⟨_, rfl⟩
  have hmn : m < n := by rw [hm]; exact HLT.out
  have HM := Lib.hid hm
  rw [← hm] at hdr hh hcl ⊢
  obtain ⟨dd, hdd⟩ : ∃ dd, dd = (gotN l o.name).drain := ⟨_, rfl⟩
  rw [← hdd] at hdr
  have hD := hdd.trans HD.out
  clear hdd hm
  subst hD
  go_wp2_with fail
  clear hh hcl
  clear xp1 xp2 xp3 xp4 lp xo1 xo2 xo3 xo4 lo xr1 xr2 xr3 xr4 lr
  have hbase : w.heap.size + 3 ≤ w1.heap.size := by have := Br.out.lt; omega
  obtain ⟨i0, hi0, hz0, hz1, hzb⟩ := infoBk
  have HI0 := Lib.hid hi0
  have HZ0 := Lib.hid hz0
  have HZ1 := Lib.hid hz1
  have HZ2 := Lib.hid (show (Value.agg noBk.arr).cells.size = 27 by simp [Value.cells, Bk.arr_size])
  clear hi0 hz0 hz1
  go_loopw [7, 8] (fun s7 s8 wr => ∃ (i : Nat) (O : Option Addr) (cap : Nat), i ≤ n ∧ s7 = .slice O i cap ∧ s8 = .int .i64 i ∧ wr.ownsRow (w.heap.size + 3) 36 27 (.slice O i cap) i (cellsBk ((l.set m ((gotN l o.name).toD false)).take i)) ∧ Below (w.heap.size + 3) w1 wr) (fun _ s8 _ => n - (intOf s8).toNat)
  case atStart => exact ⟨0, none, 0, by omega, rfl, rfl, World.ownsRow_nil _ _ _ _, Below.refl _ _⟩
  case round =>
    obtain ⟨i, O, cap, hin, rfl, rfl, ho, hb⟩ := hrel
    have bp := Bp.out.below hb (by omega)
    have bo := Bo.out.below hb (by omega)
    have br := Br.out.below hb (by omega)
    have HBW := Lib.hid (HB0.out.trans (hb.mono (by omega)))
    have HBB := Lib.hid hb
    have hsz := hb.size
    have HO := Lib.hid ho
    have OW := Lib.hid (fun ob ob' => ((ho.alloc ob).alloc ob'))
    clear hb ho
    by_cases hlt : i < n
    · have hi : (i : Int) < n := by omega
      obtain ⟨b', oo', hbo, hbb, hh, hcl⟩ := (RB.out.below HBW.out).at_ hlt
      injection hbo with hbo
      injection hbo with e1 e2
      subst e1 e2
      have HTS := Lib.hid (take_snocBk (l.set m ((gotN l o.name).toD false)) i (by rw [List.length_set, HNL.out]; exact hlt))
      obtain ⟨xi, hxi⟩ : ∃ xi, xi = l.getD i noBk := ⟨_, rfl⟩
      have HXI := Lib.hid hxi
      rw [← hxi] at hcl
      clear hxi
      have hbs : b < wr.heap.size := by omega
      have HH := Lib.hid hh
      have HCL := Lib.hid hcl
      obtain ⟨xp1, xp2, xp3, xp4⟩ := bp.facts
      obtain ⟨xo1, xo2, xo3, xo4⟩ := bo.facts
      have lp := bp.lt
      have lo := bo.lt
      clear bp bo br
      have H63 := Lib.hid (show i + 1 ≤ maxLen by unfold maxLen; omega)
      have HBY := Lib.hid (show (i + 1) * i0.bytes ≤ 140737488355328 from Nat.le_trans (Nat.mul_le_mul (show i + 1 ≤ 100002 by omega) hzb) (by omega))
      have HBS := Lib.hid (fun ob ob' => show w.heap.size + 3 ≤ ((wr.alloc ob).alloc ob').heap.size by simp; omega)
      have HROW := Lib.hid (fun (z : Bk) => show Rd ((wr.alloc (.cells z.arr 36)).alloc (.cells z.arr 36)) (wr.heap.size + 2) 27 (some ⟨wr.heap.size + 1, 0, none⟩) 1 z.arr.toList by
        have h := row_rd (wr.alloc (.cells z.arr 36)) z
        rwa [show (wr.alloc (.cells z.arr 36)).heap.size = wr.heap.size + 1 by simp] at h)
      have HONE := Lib.hid (fun (z : Bk) (v : Value) (hv : v ∈ z.arr.toList) => (Array.all_eq_true_iff_forall_mem.1 (Bk.arr_one z) v (by simpa using hv) : v.oneCell' = true))
      have HGR := Lib.hid (fun ob ob' w1 (hg : ((wr.alloc ob).alloc ob').grownBy w1 (Value.slice O i cap).ownBlock) => ((HBB.out.alloc (by omega) ob).alloc (by simp; omega) ob').grown hg (by simp; omega) (fun k hk => (HO.out.lt k hk).1))
      by_cases him : i = m
      · subst him
        have HGET := Lib.hid (show xi = gotN l o.name by rw [HXI.out, gotN_yes HHA.out, ← HM.out])
        go_wp2_with (at_builtin; refine wpList_app_rd _ rfl (.tmp 105) (.tmp 107) _ rfl (w.heap.size + 3) 36 i0 (.agg noBk.arr) 27 i0.bytes Try.underlying22 HI0.out HZ0.out HZ1.out rfl HZ2.out (Nat.succ_pos _) (.slice O i cap) i (cellsBk ((l.set i ((gotN l o.name).toD false)).take i)) rfl (OW.out _ _) (wr.heap.size + 2) (some ⟨wr.heap.size + 1, 0, none⟩) 1 1 (xi.toD false).arr.toList rfl (HROW.out (xi.toD false)) (HONE.out (xi.toD false)) H63.out HBY.out (HBS.out _ _) ?_; intro v1 w1 hown1 hg1 hat1; have O1 := Lib.hid hown1; have G1 := Lib.hid (HGR.out _ _ _ hg1); clear hown1 hg1 hat1)
        obtain ⟨O', cap', rfl, _, _⟩ := own_form O1.out
        go_roundw
        case rel => exact ⟨i + 1, O', cap', by omega, rfl, by go_num, by have h1 := O1.out; rw [cellsBk_snoc, show (xi.toD false) = (l.set i ((gotN l o.name).toD false)).getD i noBk by rw [HGET.out, List.getD_eq_getElem?_getD, List.getElem?_set_self (by rw [HNL.out]; exact hlt)]; rfl, HTS.out] at h1; exact h1, G1.out⟩
        case measure => simp [intOf] <;> omega
      · have hne : ((i : Int) == (m : Int)) = false := by rw [beq_eq_false_iff_ne]; omega
        have HIM := Lib.hid him
        clear him
        go_wp2_with (at_builtin; refine wpList_app_rd _ rfl (.tmp 105) (.tmp 107) _ rfl (w.heap.size + 3) 36 i0 (.agg noBk.arr) 27 i0.bytes Try.underlying22 HI0.out HZ0.out HZ1.out rfl HZ2.out (Nat.succ_pos _) (.slice O i cap) i (cellsBk ((l.set m ((gotN l o.name).toD false)).take i)) rfl (OW.out _ _) (wr.heap.size + 2) (some ⟨wr.heap.size + 1, 0, none⟩) 1 1 xi.arr.toList rfl (HROW.out xi) (HONE.out xi) H63.out HBY.out (HBS.out _ _) ?_; intro v1 w1 hown1 hg1 hat1; have O1 := Lib.hid hown1; have G1 := Lib.hid (HGR.out _ _ _ hg1); clear hown1 hg1 hat1)
        obtain ⟨O', cap', rfl, _, _⟩ := own_form O1.out
        go_roundw
        case rel => exact ⟨i + 1, O', cap', by omega, rfl, by go_num, by have h1 := O1.out; rw [cellsBk_snoc, show xi = (l.set m ((gotN l o.name).toD false)).getD i noBk by rw [HXI.out, List.getD_eq_getElem?_getD, List.getD_eq_getElem?_getD, List.getElem?_set_ne (fun h => HIM.out h.symm)], HTS.out] at h1; exact h1, G1.out⟩
        case measure => simp [intOf] <;> omega
    · obtain rfl : i = n := by omega
      have hd : decide ((i : Int) < i) = false := by simp
      have hown : wr.ownsRow (w.heap.size + 3) 36 27 (.slice O i cap) i (cellsBk (l.set m ((gotN l o.name).toD false))) := by
        have h1 := HO.out
        rw [List.take_of_length_le (by rw [List.length_set, HNL.out]; omega)] at h1
        exact h1
      have HLEN := Lib.hid (show (l.set m ((gotN l o.name).toD false)).length = i by rw [List.length_set, HNL.out])
      have HOWN := Lib.hid hown
      obtain ⟨xp1, xp2, xp3, xp4⟩ := bp.facts
      obtain ⟨r1, r2, r3, r4⟩ := br.facts
      have lp := bp.lt
      have lr := br.lt
      have G1 := HBB
      clear bp bo br hown
      go_wp2_with fail
      have b2 := ((Br.out.below G1.out (by omega)).set_same 0 (.int .i64 (v + 1))).set_same 1 (.slice O i cap)
      obtain ⟨z1, z2, z3, z4⟩ := b2.facts
      have hZ := z3 0 2 (Nat.le_refl _)
      have hbF := ((HB0.out.trans (G1.out.mono (by omega))).setCell (show w.heap.size ≤ w.heap.size + 2 by omega) (p := ⟨w.heap.size + 2, 0, none⟩) (.int .i64 (v + 1))).setCell (show w.heap.size ≤ w.heap.size + 2 by omega) (p := ⟨w.heap.size + 2, 1, none⟩) (.slice O i cap)
      have hoF := own_set (own_set HOWN.out (show w.heap.size + 2 < w.heap.size + 3 by omega) (p := ⟨w.heap.size + 2, 0, none⟩) (.int .i64 (v + 1))) (show w.heap.size + 2 < w.heap.size + 3 by omega) (p := ⟨w.heap.size + 2, 1, none⟩) (.slice O i cap)
      rw [← HLEN.out] at hoF
      have hrF := own_reads hoF
      rw [HLEN.out, HM.out] at hrF
      refine bodyPost_ret (ret_pool rfl _ _ _ _ rfl (by rw [hZ]; trivial)) rfl ⟨O, cap, ?_, hrF, hbF⟩
      rw [z4 0 2 (Nat.le_refl _)]
      rfl

end Go.Proofs.Ytgcahcjffoehfaa

/-! What is done to a pool, the document's way: a backend taken out; an old version. -/
namespace Go.Proofs.Ytgcahcjffoehfaa
open Go.RowKit

/-- where the loop of Do stands behind i rounds when what lies at m goes -/
def DelR (l : List Bk) (m i q : Nat) (out : List Bk) : Prop := (i ≤ m ∧ q = i ∧ out = l.take i) ∨ (m < i ∧ q + 1 = i ∧ out = (delAt l m).take q)
theorem del_next {l : List Bk} {m i q : Nat} {out : List Bk} (h : DelR l m i q out) (hne : i ≠ m) (hi : i < l.length) : DelR l m (i + 1) (q + 1) (out ++ [l.getD i noBk]) := by
  rcases h with ⟨h1, rfl, rfl⟩ | ⟨h1, rfl, rfl⟩
  · exact .inl ⟨by omega, rfl, take_snocBk l _ hi⟩
  · refine .inr ⟨by omega, rfl, ?_⟩
    have hlen : q < (delAt l m).length := by rw [delAt_length l m (by omega)]; omega
    rw [← take_snocBk (delAt l m) q hlen]
    congr 2
    have h1' : (l.take m).length = m := by rw [List.length_take]; omega
    rw [List.getD_eq_getElem?_getD, List.getD_eq_getElem?_getD, delAt, List.getElem?_append_right (by omega), h1', List.getElem?_drop, show m + 1 + (q - m) = q + 1 by omega]
theorem del_skip {l : List Bk} {m q : Nat} {out : List Bk} (h : DelR l m m q out) (hm : m < l.length) : DelR l m (m + 1) q out := by
  rcases h with ⟨h1, rfl, rfl⟩ | ⟨h1, _, _⟩
  · exact .inr ⟨by omega, rfl, by rw [delAt, List.take_append_of_le_length (by rw [List.length_take]; omega), List.take_take, Nat.min_self]⟩
  · omega
theorem del_end {l : List Bk} {m q n : Nat} {out : List Bk} (h : DelR l m n q out) (hn : l.length = n) (hm : m < n) : q + 1 = n ∧ out = delAt l m := by
  rcases h with ⟨h1, _, _⟩ | ⟨_, h1, rfl⟩
  · omega
  · exact ⟨h1, List.take_of_length_le (by rw [delAt_length l m (by omega)]; omega)⟩
set_option maxHeartbeats 2000000 in
set_option maxRecDepth 100000 in
theorem refDo_del (l : List Bk) (hs : Srt l) (v : Int) (hv : -9223372036854775808 ≤ v ∧ v < 9223372036854775807) (o : Opr) (hf : o.bk.fine) (how : o.w < 18446744073709551616) (A : Option Addr) (n c : Nat) (w : World) (hR : RdK w w.heap.size A n l) (hn : l.length ≤ 100000) (hk : o.kind = 2) (hha : hasN l o.name = true) (hvv : v < 1099511627776) :
    Calls Try.prog 20 #[.agg #[.int .i64 v, .slice A n c], .agg o.arr] w (PoolC w (v + 1) (n - 1) (delAt l (lowN l o.name)) 0) := by
  have RB := Lib.hid hR
  have HNL := Lib.hid hR.1
  have R0 := Lib.hid (fun ob ob' ob2 => ((hR.up ob).up ob').up ob2)
  have HB0 := Lib.hid (fun ob ob' ob2 => ((((Below.refl w.heap.size w).alloc (Nat.le_refl _) ob).alloc (by simp) ob').alloc (by simp; omega) ob2 : Below w.heap.size w (((w.alloc ob).alloc ob').alloc ob2)))
  have hnle : n ≤ 100000 := by have := hR.1; omega
  have HS := Lib.hid hs
  have HBF0 := Lib.hid (fun ob ob' ob2 => show Below w.heap.size w (((w.alloc ob).alloc ob').alloc ob2) from (((Below.refl w.heap.size w).alloc (Nat.le_refl _) ob).alloc (by simp) ob').alloc (by simp; omega) ob2)
  obtain ⟨hv1, hv2⟩ := hv
  have FI := Lib.hid (fun A n c W (h : RdK W W.heap.size A n l) => refFindP_any l HS.out o.name v A n c W h hn ((lowN l o.name : Nat)) (by simp [posN, hha]))
  have hv' : decide (1099511627776 ≤ v) = false := by simp; omega
  have hlt : lowN l o.name < n := by
      rw [← HNL.out]
      simp [hasN] at hha
      omega
  obtain ⟨b, oo, rfl, hbb, hh, hcl⟩ := RB.out.at_ hlt
  have HLT := Lib.hid hlt
  have HHA := Lib.hid hha
  clear hlt hh hcl hbb hha
  clear hR hs
  go_enter Try.func20, Try.ntmps20
  go_wp2_with fail
  refine (FI.out _ n c _ (R0.out _ _ _)).mono ?_
  rintro e w1 ⟨rfl, hb1⟩
  have Bp := Lib.hid ((((Box.new w _ _).alloc _).alloc _).go hb1)
  have Bo := Lib.hid (((Box.new1 w _ _ _).alloc _).go hb1)
  have Br := Lib.hid ((Box.new2 w _ _ _ _).go hb1)
  have Rp := Lib.hid ((R0.out _ _ _).go hb1)
  have HB0 := Lib.hid (call0 (HB0.out _ _ _) hb1)
  clear hb1
  obtain ⟨xp1, xp2, xp3, xp4⟩ := Bp.out.facts
  have lp := Bp.out.lt
  obtain ⟨xo1, xo2, xo3, xo4⟩ := Bo.out.facts
  have lo := Bo.out.lt
  obtain ⟨xr1, xr2, xr3, xr4⟩ := Br.out.facts
  have lr := Br.out.lt
  obtain ⟨b', o', hbo, hbb, hh, hcl⟩ := Rp.out.at_ HLT.out
  injection hbo with hbo
  injection hbo with e1 e2
  subst e1 e2
  have hdr : w1.cell? ⟨b, oo + lowN l o.name * 27 + 26, none⟩ = some (.bool (gotN l o.name).drain) := by
    obtain ⟨b', o', hbo, _, hc⟩ := Rp.out.cell HLT.out
    injection hbo with hbo
    injection hbo with e1 e2
    subst e1 e2
    rw [hc 26 (by omega), Bk.arr_26, gotN_yes HHA.out]
  obtain ⟨m, hm⟩ : ∃ m, m = lowN l o.name := ⟨_, rfl⟩
  have hmn : m < n := by rw [hm]; exact HLT.out
  have HM := Lib.hid hm
  rw [← hm] at hdr hh hcl ⊢
  obtain ⟨dd, hdd⟩ : ∃ dd, dd = (gotN l o.name).drain := ⟨_, rfl⟩
  rw [← hdd] at hdr
  clear hdd hm
  go_wp2_with fail
  clear hh hcl
  clear xp1 xp2 xp3 xp4 lp xo1 xo2 xo3 xo4 lo xr1 xr2 xr3 xr4 lr
  have hbase : w.heap.size + 3 ≤ w1.heap.size := by have := Br.out.lt; omega
  obtain ⟨i0, hi0, hz0, hz1, hzb⟩ := infoBk
  have HI0 := Lib.hid hi0
  have HZ0 := Lib.hid hz0
  have HZ1 := Lib.hid hz1
  have HZ2 := Lib.hid (show (Value.agg noBk.arr).cells.size = 27 by simp [Value.cells, Bk.arr_size])
  clear hi0 hz0 hz1
  go_loopw [7, 8] (fun s7 s8 wr => ∃ (i : Nat) (O : Option Addr) (cap q : Nat) (out : List Bk), i ≤ n ∧ s7 = .slice O q cap ∧ s8 = .int .i64 i ∧ DelR l m i q out ∧ q ≤ i ∧ wr.ownsRow (w.heap.size + 3) 36 27 (.slice O q cap) q (cellsBk out) ∧ Below (w.heap.size + 3) w1 wr) (fun _ s8 _ => n - (intOf s8).toNat)
  case atStart => exact ⟨0, none, 0, 0, [], by omega, rfl, rfl, .inl ⟨by omega, rfl, rfl⟩, Nat.le_refl _, World.ownsRow_nil _ _ _ _, Below.refl _ _⟩
  case round =>
    obtain ⟨i, O, cap, q, out, hin, rfl, rfl, hdel, hqi, ho, hb⟩ := hrel
    have HDEL := Lib.hid hdel
    have bp := Bp.out.below hb (by omega)
    have bo := Bo.out.below hb (by omega)
    have br := Br.out.below hb (by omega)
    have HBW := Lib.hid (HB0.out.trans (hb.mono (by omega)))
    have HBB := Lib.hid hb
    have hsz := hb.size
    have HO := Lib.hid ho
    have OW := Lib.hid (fun ob ob' => ((ho.alloc ob).alloc ob'))
    clear hb ho hdel
    have HQI := Lib.hid (show q ≤ i + 1 by omega)
    by_cases hlt : i < n
    · have hi : (i : Int) < n := by omega
      obtain ⟨b', oo', hbo, hbb, hh, hcl⟩ := (RB.out.below HBW.out).at_ hlt
      injection hbo with hbo
      injection hbo with e1 e2
      subst e1 e2
      obtain ⟨xi, hxi⟩ : ∃ xi, xi = l.getD i noBk := ⟨_, rfl⟩
      have HXI := Lib.hid hxi
      rw [← hxi] at hcl
      clear hxi
      have hbs : b < wr.heap.size := by omega
      have HH := Lib.hid hh
      have HCL := Lib.hid hcl
      obtain ⟨xp1, xp2, xp3, xp4⟩ := bp.facts
      obtain ⟨xo1, xo2, xo3, xo4⟩ := bo.facts
      have lp := bp.lt
      have lo := bo.lt
      clear bp bo br
      have H63 := Lib.hid (show q + 1 ≤ maxLen by unfold maxLen; omega)
      have HBY := Lib.hid (show (q + 1) * i0.bytes ≤ 140737488355328 from Nat.le_trans (Nat.mul_le_mul (show q + 1 ≤ 100002 by omega) hzb) (by omega))
      have HBS := Lib.hid (fun ob ob' => show w.heap.size + 3 ≤ ((wr.alloc ob).alloc ob').heap.size by simp; omega)
      have HROW := Lib.hid (fun (z : Bk) => show Rd ((wr.alloc (.cells z.arr 36)).alloc (.cells z.arr 36)) (wr.heap.size + 2) 27 (some ⟨wr.heap.size + 1, 0, none⟩) 1 z.arr.toList by
        have h := row_rd (wr.alloc (.cells z.arr 36)) z
        rwa [show (wr.alloc (.cells z.arr 36)).heap.size = wr.heap.size + 1 by simp] at h)
      have HONE := Lib.hid (fun (z : Bk) (v : Value) (hv : v ∈ z.arr.toList) => (Array.all_eq_true_iff_forall_mem.1 (Bk.arr_one z) v (by simpa using hv) : v.oneCell' = true))
      have HGR := Lib.hid (fun ob ob' w1 (hg : ((wr.alloc ob).alloc ob').grownBy w1 (Value.slice O q cap).ownBlock) => ((HBB.out.alloc (by omega) ob).alloc (by simp; omega) ob').grown hg (by simp; omega) (fun k hk => (HO.out.lt k hk).1))
      by_cases him : i = m
      · subst him
        clear hqi
        go_wp2_with fail
        go_roundw
        case rel => exact ⟨i + 1, O, cap, q, out, by omega, rfl, by go_num, del_skip HDEL.out (by rw [HNL.out]; exact hlt), HQI.out, HO.out.alloc _, (HBB.out.alloc (by omega) _)⟩
        case measure => simp [intOf] <;> omega
      · have hne : ((i : Int) == (m : Int)) = false := by rw [beq_eq_false_iff_ne]; omega
        have HIM := Lib.hid him
        clear him
        go_wp2_with (at_builtin; refine wpList_app_rd _ rfl (.tmp 105) (.tmp 107) _ rfl (w.heap.size + 3) 36 i0 (.agg noBk.arr) 27 i0.bytes Try.underlying22 HI0.out HZ0.out HZ1.out rfl HZ2.out (Nat.succ_pos _) (.slice O q cap) q (cellsBk out) rfl (OW.out _ _) (wr.heap.size + 2) (some ⟨wr.heap.size + 1, 0, none⟩) 1 1 xi.arr.toList rfl (HROW.out xi) (HONE.out xi) H63.out HBY.out (HBS.out _ _) ?_; intro v1 w1 hown1 hg1 hat1; have O1 := Lib.hid hown1; have G1 := Lib.hid (HGR.out _ _ _ hg1); clear hown1 hg1 hat1)
        obtain ⟨O', cap', rfl, _, _⟩ := own_form O1.out
        go_roundw
        case rel => exact ⟨i + 1, O', cap', q + 1, out ++ [xi], by omega, rfl, by go_num, by have := del_next HDEL.out HIM.out (by rw [HNL.out]; exact hlt); rwa [← HXI.out] at this, by omega, by have h1 := O1.out; rw [cellsBk_snoc] at h1; exact h1, G1.out⟩
        case measure => simp [intOf] <;> omega
    · obtain rfl : i = n := by omega
      have hd : decide ((i : Int) < i) = false := by simp
      obtain ⟨hq1, hq2⟩ := del_end HDEL.out HNL.out hmn
      have hown : wr.ownsRow (w.heap.size + 3) 36 27 (.slice O q cap) q (cellsBk (delAt l m)) := by rw [← hq2]; exact HO.out
      have HLEN := Lib.hid (show (delAt l m).length = q by rw [delAt_length l m (by rw [HNL.out]; exact hmn), HNL.out]; omega)
      have HOWN := Lib.hid hown
      have HQ := Lib.hid (show q = i - 1 by omega)
      clear hq1 hq2
      obtain ⟨xp1, xp2, xp3, xp4⟩ := bp.facts
      obtain ⟨r1, r2, r3, r4⟩ := br.facts
      have lp := bp.lt
      have lr := br.lt
      have G1 := HBB
      clear bp bo br hown
      go_wp2_with fail
      have b2 := ((Br.out.below G1.out (by omega)).set_same 0 (.int .i64 (v + 1))).set_same 1 (.slice O q cap)
      obtain ⟨z1, z2, z3, z4⟩ := b2.facts
      have hZ := z3 0 2 (Nat.le_refl _)
      have hbF := ((HB0.out.trans (G1.out.mono (by omega))).setCell (show w.heap.size ≤ w.heap.size + 2 by omega) (p := ⟨w.heap.size + 2, 0, none⟩) (.int .i64 (v + 1))).setCell (show w.heap.size ≤ w.heap.size + 2 by omega) (p := ⟨w.heap.size + 2, 1, none⟩) (.slice O q cap)
      have hoF := own_set (own_set HOWN.out (show w.heap.size + 2 < w.heap.size + 3 by omega) (p := ⟨w.heap.size + 2, 0, none⟩) (.int .i64 (v + 1))) (show w.heap.size + 2 < w.heap.size + 3 by omega) (p := ⟨w.heap.size + 2, 1, none⟩) (.slice O q cap)
      rw [← HLEN.out] at hoF
      have hrF := own_reads hoF
      rw [HLEN.out, HM.out] at hrF
      rw [← HQ.out]
      refine bodyPost_ret (ret_pool rfl _ _ _ _ rfl (by rw [hZ]; trivial)) rfl ⟨O, cap, ?_, hrF, hbF⟩
      rw [z4 0 2 (Nat.le_refl _)]
      rfl

set_option maxHeartbeats 2000000 in
set_option maxRecDepth 100000 in
theorem refDo_old2 (l : List Bk) (hs : Srt l) (v : Int) (hv : -9223372036854775808 ≤ v ∧ v < 9223372036854775807) (o : Opr) (hf : o.bk.fine) (how : o.w < 18446744073709551616) (A : Option Addr) (n c : Nat) (w : World) (hR : RdK w w.heap.size A n l) (hn : l.length ≤ 100000) (hk : o.kind = 2) (hha : hasN l o.name = true) (hvv : 1099511627776 ≤ v) :
    Calls Try.prog 20 #[.agg #[.int .i64 v, .slice A n c], .agg o.arr] w (PoolC w v n l 7) := by
  have RB := Lib.hid hR
  have HNL := Lib.hid hR.1
  have R0 := Lib.hid (fun ob ob' ob2 => ((hR.up ob).up ob').up ob2)
  have HB0 := Lib.hid (fun ob ob' ob2 => ((((Below.refl w.heap.size w).alloc (Nat.le_refl _) ob).alloc (by simp) ob').alloc (by simp; omega) ob2 : Below w.heap.size w (((w.alloc ob).alloc ob').alloc ob2)))
  have hnle : n ≤ 100000 := by have := hR.1; omega
  have HS := Lib.hid hs
  have HBF0 := Lib.hid (fun ob ob' ob2 => show Below w.heap.size w (((w.alloc ob).alloc ob').alloc ob2) from (((Below.refl w.heap.size w).alloc (Nat.le_refl _) ob).alloc (by simp) ob').alloc (by simp; omega) ob2)
  obtain ⟨hv1, hv2⟩ := hv
  have FI := Lib.hid (fun A n c W (h : RdK W W.heap.size A n l) => refFindP_any l HS.out o.name v A n c W h hn ((lowN l o.name : Nat)) (by simp [posN, hha]))
  have hlt : lowN l o.name < n := by
      rw [← HNL.out]
      simp [hasN] at hha
      omega
  obtain ⟨b, oo, rfl, hbb, hh, hcl⟩ := RB.out.at_ hlt
  have HLT := Lib.hid hlt
  have HHA := Lib.hid hha
  clear hlt hh hcl hbb hha
  clear hR hs
  go_enter Try.func20, Try.ntmps20
  go_wp2_with fail
  refine (FI.out _ n c _ (R0.out _ _ _)).mono ?_
  rintro e w1 ⟨rfl, hb1⟩
  have Bp := Lib.hid ((((Box.new w _ _).alloc _).alloc _).go hb1)
  have Bo := Lib.hid (((Box.new1 w _ _ _).alloc _).go hb1)
  have Br := Lib.hid ((Box.new2 w _ _ _ _).go hb1)
  have Rp := Lib.hid ((R0.out _ _ _).go hb1)
  have HB0 := Lib.hid (call0 (HB0.out _ _ _) hb1)
  clear hb1
  obtain ⟨xp1, xp2, xp3, xp4⟩ := Bp.out.facts
  have lp := Bp.out.lt
  obtain ⟨xo1, xo2, xo3, xo4⟩ := Bo.out.facts
  have lo := Bo.out.lt
  obtain ⟨xr1, xr2, xr3, xr4⟩ := Br.out.facts
  have lr := Br.out.lt
  obtain ⟨b', o', hbo, hbb, hh, hcl⟩ := Rp.out.at_ HLT.out
  injection hbo with hbo
  injection hbo with e1 e2
  subst e1 e2
  have hdr : w1.cell? ⟨b, oo + lowN l o.name * 27 + 26, none⟩ = some (.bool (gotN l o.name).drain) := by
    obtain ⟨b', o', hbo, _, hc⟩ := Rp.out.cell HLT.out
    injection hbo with hbo
    injection hbo with e1 e2
    subst e1 e2
    rw [hc 26 (by omega), Bk.arr_26, gotN_yes HHA.out]
  obtain ⟨m, hm⟩ : ∃ m, m = lowN l o.name := ⟨_, rfl⟩
  have hmn : m < n := by rw [hm]; exact HLT.out
  have HM := Lib.hid hm
  rw [← hm] at hdr hh hcl ⊢
  obtain ⟨dd, hdd⟩ : ∃ dd, dd = (gotN l o.name).drain := ⟨_, rfl⟩
  rw [← hdd] at hdr
  clear hdd hm
  go_wp2_with fail
  have b2 := (Br.out.set_same 0 (.int .i64 v)).set_same 1 (.slice (some ⟨b, oo, none⟩) n c)
  obtain ⟨z1, z2, z3, z4⟩ := b2.facts
  have hZ := z3 0 2 (Nat.le_refl _)
  have HBF := (HB0.out.setCell (show w.heap.size ≤ w.heap.size + 2 by omega) (p := ⟨w.heap.size + 2, 0, none⟩) (.int .i64 v)).setCell (show w.heap.size ≤ w.heap.size + 2 by omega) (p := ⟨w.heap.size + 2, 1, none⟩) (.slice (some ⟨b, oo, none⟩) n c)
  refine bodyPost_ret (ret_pool rfl _ _ _ _ rfl (by rw [hZ]; trivial)) rfl ⟨(some ⟨b, oo, none⟩), c, ?_, (RB.out.below HBF).more HBF.size, HBF⟩
  rw [z4 0 2 (Nat.le_refl _)]
  rfl

set_option maxHeartbeats 2000000 in
set_option maxRecDepth 100000 in
theorem refDo_old3 (l : List Bk) (hs : Srt l) (v : Int) (hv : -9223372036854775808 ≤ v ∧ v < 9223372036854775807) (o : Opr) (hf : o.bk.fine) (how : o.w < 18446744073709551616) (A : Option Addr) (n c : Nat) (w : World) (hR : RdK w w.heap.size A n l) (hn : l.length ≤ 100000) (hk : o.kind = 3) (hha : hasN l o.name = true) (hvv : 1099511627776 ≤ v) (hok : wOk o.w = true) :
    Calls Try.prog 20 #[.agg #[.int .i64 v, .slice A n c], .agg o.arr] w (PoolC w v n l 7) := by
  have RB := Lib.hid hR
  have HNL := Lib.hid hR.1
  have R0 := Lib.hid (fun ob ob' ob2 => ((hR.up ob).up ob').up ob2)
  have HB0 := Lib.hid (fun ob ob' ob2 => ((((Below.refl w.heap.size w).alloc (Nat.le_refl _) ob).alloc (by simp) ob').alloc (by simp; omega) ob2 : Below w.heap.size w (((w.alloc ob).alloc ob').alloc ob2)))
  have hnle : n ≤ 100000 := by have := hR.1; omega
  have HS := Lib.hid hs
  have HBF0 := Lib.hid (fun ob ob' ob2 => show Below w.heap.size w (((w.alloc ob).alloc ob').alloc ob2) from (((Below.refl w.heap.size w).alloc (Nat.le_refl _) ob).alloc (by simp) ob').alloc (by simp; omega) ob2)
  obtain ⟨hv1, hv2⟩ := hv
  have OK := Lib.hid (fun W => okK_any o.w how W true hok)
  have FI := Lib.hid (fun A n c W (h : RdK W W.heap.size A n l) => refFindP_any l HS.out o.name v A n c W h hn ((lowN l o.name : Nat)) (by simp [posN, hha]))
  have hlt : lowN l o.name < n := by
      rw [← HNL.out]
      simp [hasN] at hha
      omega
  obtain ⟨b, oo, rfl, hbb, hh, hcl⟩ := RB.out.at_ hlt
  have HLT := Lib.hid hlt
  have HHA := Lib.hid hha
  clear hlt hh hcl hbb hha
  clear hR hs
  go_enter Try.func20, Try.ntmps20
  go_wp2_with fail
  refine (OK.out _).mono ?_
  rintro e w' ⟨rfl, rfl⟩
  go_wp2_with fail
  refine (FI.out _ n c _ (R0.out _ _ _)).mono ?_
  rintro e w1 ⟨rfl, hb1⟩
  have Bp := Lib.hid ((((Box.new w _ _).alloc _).alloc _).go hb1)
  have Bo := Lib.hid (((Box.new1 w _ _ _).alloc _).go hb1)
  have Br := Lib.hid ((Box.new2 w _ _ _ _).go hb1)
  have Rp := Lib.hid ((R0.out _ _ _).go hb1)
  have HB0 := Lib.hid (call0 (HB0.out _ _ _) hb1)
  clear hb1
  obtain ⟨xp1, xp2, xp3, xp4⟩ := Bp.out.facts
  have lp := Bp.out.lt
  obtain ⟨xo1, xo2, xo3, xo4⟩ := Bo.out.facts
  have lo := Bo.out.lt
  obtain ⟨xr1, xr2, xr3, xr4⟩ := Br.out.facts
  have lr := Br.out.lt
  obtain ⟨b', o', hbo, hbb, hh, hcl⟩ := Rp.out.at_ HLT.out
  injection hbo with hbo
  injection hbo with e1 e2
  subst e1 e2
  have hdr : w1.cell? ⟨b, oo + lowN l o.name * 27 + 26, none⟩ = some (.bool (gotN l o.name).drain) := by
    obtain ⟨b', o', hbo, _, hc⟩ := Rp.out.cell HLT.out
    injection hbo with hbo
    injection hbo with e1 e2
    subst e1 e2
    rw [hc 26 (by omega), Bk.arr_26, gotN_yes HHA.out]
  obtain ⟨m, hm⟩ : ∃ m, m = lowN l o.name := ⟨_, rfl⟩
  have hmn : m < n := by rw [hm]; exact HLT.out
  have HM := Lib.hid hm
  rw [← hm] at hdr hh hcl ⊢
  obtain ⟨dd, hdd⟩ : ∃ dd, dd = (gotN l o.name).drain := ⟨_, rfl⟩
  rw [← hdd] at hdr
  clear hdd hm
  go_wp2_with fail
  have b2 := (Br.out.set_same 0 (.int .i64 v)).set_same 1 (.slice (some ⟨b, oo, none⟩) n c)
  obtain ⟨z1, z2, z3, z4⟩ := b2.facts
  have hZ := z3 0 2 (Nat.le_refl _)
  have HBF := (HB0.out.setCell (show w.heap.size ≤ w.heap.size + 2 by omega) (p := ⟨w.heap.size + 2, 0, none⟩) (.int .i64 v)).setCell (show w.heap.size ≤ w.heap.size + 2 by omega) (p := ⟨w.heap.size + 2, 1, none⟩) (.slice (some ⟨b, oo, none⟩) n c)
  refine bodyPost_ret (ret_pool rfl _ _ _ _ rfl (by rw [hZ]; trivial)) rfl ⟨(some ⟨b, oo, none⟩), c, ?_, (RB.out.below HBF).more HBF.size, HBF⟩
  rw [z4 0 2 (Nat.le_refl _)]
  rfl

set_option maxHeartbeats 2000000 in
set_option maxRecDepth 100000 in
theorem refDo_old4 (l : List Bk) (hs : Srt l) (v : Int) (hv : -9223372036854775808 ≤ v ∧ v < 9223372036854775807) (o : Opr) (hf : o.bk.fine) (how : o.w < 18446744073709551616) (A : Option Addr) (n c : Nat) (w : World) (hR : RdK w w.heap.size A n l) (hn : l.length ≤ 100000) (hk : o.kind = 4) (hha : hasN l o.name = true) (hvv : 1099511627776 ≤ v) (hd : (gotN l o.name).drain = false) :
    Calls Try.prog 20 #[.agg #[.int .i64 v, .slice A n c], .agg o.arr] w (PoolC w v n l 7) := by
  have RB := Lib.hid hR
  have HNL := Lib.hid hR.1
  have R0 := Lib.hid (fun ob ob' ob2 => ((hR.up ob).up ob').up ob2)
  have HB0 := Lib.hid (fun ob ob' ob2 => ((((Below.refl w.heap.size w).alloc (Nat.le_refl _) ob).alloc (by simp) ob').alloc (by simp; omega) ob2 : Below w.heap.size w (((w.alloc ob).alloc ob').alloc ob2)))
  have hnle : n ≤ 100000 := by have := hR.1; omega
  have HS := Lib.hid hs
  have HBF0 := Lib.hid (fun ob ob' ob2 => show Below w.heap.size w (((w.alloc ob).alloc ob').alloc ob2) from (((Below.refl w.heap.size w).alloc (Nat.le_refl _) ob).alloc (by simp) ob').alloc (by simp; omega) ob2)
  obtain ⟨hv1, hv2⟩ := hv
  have FI := Lib.hid (fun A n c W (h : RdK W W.heap.size A n l) => refFindP_any l HS.out o.name v A n c W h hn ((lowN l o.name : Nat)) (by simp [posN, hha]))
  have HD := Lib.hid hd
  have hlt : lowN l o.name < n := by
      rw [← HNL.out]
      simp [hasN] at hha
      omega
  obtain ⟨b, oo, rfl, hbb, hh, hcl⟩ := RB.out.at_ hlt
  have HLT := Lib.hid hlt
  have HHA := Lib.hid hha
  clear hlt hh hcl hbb hha
  clear hR hs hd
  go_enter Try.func20, Try.ntmps20
  go_wp2_with fail
  refine (FI.out _ n c _ (R0.out _ _ _)).mono ?_
  rintro e w1 ⟨rfl, hb1⟩
  have Bp := Lib.hid ((((Box.new w _ _).alloc _).alloc _).go hb1)
  have Bo := Lib.hid (((Box.new1 w _ _ _).alloc _).go hb1)
  have Br := Lib.hid ((Box.new2 w _ _ _ _).go hb1)
  have Rp := Lib.hid ((R0.out _ _ _).go hb1)
  have HB0 := Lib.hid (call0 (HB0.out _ _ _) hb1)
  clear hb1
  obtain ⟨xp1, xp2, xp3, xp4⟩ := Bp.out.facts
  have lp := Bp.out.lt
  obtain ⟨xo1, xo2, xo3, xo4⟩ := Bo.out.facts
  have lo := Bo.out.lt
  obtain ⟨xr1, xr2, xr3, xr4⟩ := Br.out.facts
  have lr := Br.out.lt
  obtain ⟨b', o', hbo, hbb, hh, hcl⟩ := Rp.out.at_ HLT.out
  injection hbo with hbo
  injection hbo with e1 e2
  subst e1 e2
  have hdr : w1.cell? ⟨b, oo + lowN l o.name * 27 + 26, none⟩ = some (.bool (gotN l o.name).drain) := by
    obtain ⟨b', o', hbo, _, hc⟩ := Rp.out.cell HLT.out
    injection hbo with hbo
    injection hbo with e1 e2
    subst e1 e2
    rw [hc 26 (by omega), Bk.arr_26, gotN_yes HHA.out]
  obtain ⟨m, hm⟩ : ∃ m, m = lowN l o.name := ⟨_, rfl⟩
  have hmn : m < n := by rw [hm]; exact HLT.out
  have HM := Lib.hid hm
  rw [← hm] at hdr hh hcl ⊢
  obtain ⟨dd, hdd⟩ : ∃ dd, dd = (gotN l o.name).drain := ⟨_, rfl⟩
  rw [← hdd] at hdr
  have hD := hdd.trans HD.out
  clear hdd hm
  subst hD
  go_wp2_with fail
  have b2 := (Br.out.set_same 0 (.int .i64 v)).set_same 1 (.slice (some ⟨b, oo, none⟩) n c)
  obtain ⟨z1, z2, z3, z4⟩ := b2.facts
  have hZ := z3 0 2 (Nat.le_refl _)
  have HBF := (HB0.out.setCell (show w.heap.size ≤ w.heap.size + 2 by omega) (p := ⟨w.heap.size + 2, 0, none⟩) (.int .i64 v)).setCell (show w.heap.size ≤ w.heap.size + 2 by omega) (p := ⟨w.heap.size + 2, 1, none⟩) (.slice (some ⟨b, oo, none⟩) n c)
  refine bodyPost_ret (ret_pool rfl _ _ _ _ rfl (by rw [hZ]; trivial)) rfl ⟨(some ⟨b, oo, none⟩), c, ?_, (RB.out.below HBF).more HBF.size, HBF⟩
  rw [z4 0 2 (Nat.le_refl _)]
  rfl

set_option maxHeartbeats 2000000 in
set_option maxRecDepth 100000 in
theorem refDo_old5 (l : List Bk) (hs : Srt l) (v : Int) (hv : -9223372036854775808 ≤ v ∧ v < 9223372036854775807) (o : Opr) (hf : o.bk.fine) (how : o.w < 18446744073709551616) (A : Option Addr) (n c : Nat) (w : World) (hR : RdK w w.heap.size A n l) (hn : l.length ≤ 100000) (hk : o.kind = 5) (hha : hasN l o.name = true) (hvv : 1099511627776 ≤ v) (hd : (gotN l o.name).drain = true) :
    Calls Try.prog 20 #[.agg #[.int .i64 v, .slice A n c], .agg o.arr] w (PoolC w v n l 7) := by
  have RB := Lib.hid hR
  have HNL := Lib.hid hR.1
  have R0 := Lib.hid (fun ob ob' ob2 => ((hR.up ob).up ob').up ob2)
  have HB0 := Lib.hid (fun ob ob' ob2 => ((((Below.refl w.heap.size w).alloc (Nat.le_refl _) ob).alloc (by simp) ob').alloc (by simp; omega) ob2 : Below w.heap.size w (((w.alloc ob).alloc ob').alloc ob2)))
  have hnle : n ≤ 100000 := by have := hR.1; omega
  have HS := Lib.hid hs
  have HBF0 := Lib.hid (fun ob ob' ob2 => show Below w.heap.size w (((w.alloc ob).alloc ob').alloc ob2) from (((Below.refl w.heap.size w).alloc (Nat.le_refl _) ob).alloc (by simp) ob').alloc (by simp; omega) ob2)
  obtain ⟨hv1, hv2⟩ := hv
  have FI := Lib.hid (fun A n c W (h : RdK W W.heap.size A n l) => refFindP_any l HS.out o.name v A n c W h hn ((lowN l o.name : Nat)) (by simp [posN, hha]))
  have HD := Lib.hid hd
  have hlt : lowN l o.name < n := by
      rw [← HNL.out]
      simp [hasN] at hha
      omega
  obtain ⟨b, oo, rfl, hbb, hh, hcl⟩ := RB.out.at_ hlt
  have HLT := Lib.hid hlt
  have HHA := Lib.hid hha
  clear hlt hh hcl hbb hha
  clear hR hs hd
  go_enter Try.func20, Try.ntmps20
  go_wp2_with fail
  refine (FI.out _ n c _ (R0.out _ _ _)).mono ?_
  rintro e w1 ⟨rfl, hb1⟩
  have Bp := Lib.hid ((((Box.new w _ _).alloc _).alloc _).go hb1)
  have Bo := Lib.hid (((Box.new1 w _ _ _).alloc _).go hb1)
  have Br := Lib.hid ((Box.new2 w _ _ _ _).go hb1)
  have Rp := Lib.hid ((R0.out _ _ _).go hb1)
  have HB0 := Lib.hid (call0 (HB0.out _ _ _) hb1)
  clear hb1
  obtain ⟨xp1, xp2, xp3, xp4⟩ := Bp.out.facts
  have lp := Bp.out.lt
  obtain ⟨xo1, xo2, xo3, xo4⟩ := Bo.out.facts
  have lo := Bo.out.lt
  obtain ⟨xr1, xr2, xr3, xr4⟩ := Br.out.facts
  have lr := Br.out.lt
  obtain ⟨b', o', hbo, hbb, hh, hcl⟩ := Rp.out.at_ HLT.out
  injection hbo with hbo
  injection hbo with e1 e2
  subst e1 e2
  have hdr : w1.cell? ⟨b, oo + lowN l o.name * 27 + 26, none⟩ = some (.bool (gotN l o.name).drain) := by
    obtain ⟨b', o', hbo, _, hc⟩ := Rp.out.cell HLT.out
    injection hbo with hbo
    injection hbo with e1 e2
    subst e1 e2
    rw [hc 26 (by omega), Bk.arr_26, gotN_yes HHA.out]
  obtain ⟨m, hm⟩ : ∃ m, m = lowN l o.name := ⟨_, rfl⟩
  have hmn : m < n := by rw [hm]; exact HLT.out
  have HM := Lib.hid hm
  rw [← hm] at hdr hh hcl ⊢
  obtain ⟨dd, hdd⟩ : ∃ dd, dd = (gotN l o.name).drain := ⟨_, rfl⟩
  rw [← hdd] at hdr
  have hD := hdd.trans HD.out
  clear hdd hm
  subst hD
  go_wp2_with fail
  have b2 := (Br.out.set_same 0 (.int .i64 v)).set_same 1 (.slice (some ⟨b, oo, none⟩) n c)
  obtain ⟨z1, z2, z3, z4⟩ := b2.facts
  have hZ := z3 0 2 (Nat.le_refl _)
  have HBF := (HB0.out.setCell (show w.heap.size ≤ w.heap.size + 2 by omega) (p := ⟨w.heap.size + 2, 0, none⟩) (.int .i64 v)).setCell (show w.heap.size ≤ w.heap.size + 2 by omega) (p := ⟨w.heap.size + 2, 1, none⟩) (.slice (some ⟨b, oo, none⟩) n c)
  refine bodyPost_ret (ret_pool rfl _ _ _ _ rfl (by rw [hZ]; trivial)) rfl ⟨(some ⟨b, oo, none⟩), c, ?_, (RB.out.below HBF).more HBF.size, HBF⟩
  rw [z4 0 2 (Nat.le_refl _)]
  rfl

end Go.Proofs.Ytgcahcjffoehfaa

/-! What is done to a pool, the document's way: all ways together. -/
namespace Go.Proofs.Ytgcahcjffoehfaa
open Go.RowKit

theorem why_rest {v : Int} {l : List Bk} {o : Opr} (hlo : ¬ o.kind < 1) (hhi : ¬ 5 < o.kind) (h1 : o.kind ≠ 1) (h3 : ¬ (o.kind = 3 ∧ wOk o.w = false)) :
    whyNot v l o = if hasN l o.name = false then 5 else if o.kind = 4 ∧ (gotN l o.name).drain = true then 6 else if o.kind = 5 ∧ (gotN l o.name).drain = false then 6 else if 1099511627776 ≤ v then 7 else 0 := by
  have hwho : o.who = o.name := by simp [Opr.who, h1]
  unfold whyNot
  rw [if_neg hlo, if_neg hhi, if_neg (fun h => h1 h.1), if_neg h3, if_neg (fun h => h1 h.1), if_neg (fun h => h1 h.1), hwho]
  by_cases hh : hasN l o.name = false
  · rw [if_pos ⟨h1, hh⟩, if_pos hh]
  · rw [if_neg (fun h => hh h.2), if_neg hh]
theorem refDo_any (l : List Bk) (hs : Srt l) (v : Int) (hv : -9223372036854775808 ≤ v ∧ v < 9223372036854775807) (o : Opr) (hf : o.bk.fine) (how : o.w < 18446744073709551616) (A : Option Addr) (n c : Nat) (w : World) (hR : RdK w w.heap.size A n l) (hn : l.length ≤ 100000) :
    Calls Try.prog 20 #[.agg #[.int .i64 v, .slice A n c], .agg o.arr] w (PoolC w (doV v l o) (doL v l o).length (doL v l o) (whyNot v l o)) := by
  have hnl := hR.1
  have no : ∀ er, whyNot v l o = er → er ≠ 0 → doV v l o = v ∧ doL v l o = l := fun er h h0 => ⟨by simp [doV, h, h0], by simp [doL, h, h0]⟩
  by_cases h1 : o.kind = 1
  · exact refDo_one l hs v hv o hf A n c w hR hn h1 _ _ _ _ rfl rfl rfl rfl
  by_cases hlo : o.kind < 1
  · have hw : whyNot v l o = 1 := by simp [whyNot, hlo]
    obtain ⟨e1, e2⟩ := no 1 hw (by decide)
    rw [hw, e1, e2, hnl]
    exact refDo_arglo l hs v hv o hf how A n c w hR hn hlo
  by_cases hhi : 5 < o.kind
  · have hw : whyNot v l o = 1 := by simp [whyNot, hhi]
    obtain ⟨e1, e2⟩ := no 1 hw (by decide)
    rw [hw, e1, e2, hnl]
    exact refDo_arghi l hs v hv o hf how A n c w hR hn hhi
  by_cases h3 : o.kind = 3 ∧ wOk o.w = false
  · have hw : whyNot v l o = 1 := by simp [whyNot, h3]
    obtain ⟨e1, e2⟩ := no 1 hw (by decide)
    rw [hw, e1, e2, hnl]
    exact refDo_arg3 l hs v hv o hf how A n c w hR hn h3.1 h3.2
  have hy := why_rest (v := v) (l := l) hlo hhi h1 h3
  have hok : o.kind = 3 → wOk o.w = true := fun h => by
    cases hc : wOk o.w
    · exact absurd ⟨h, hc⟩ h3
    · rfl
  cases hha : hasN l o.name
  · rw [if_pos hha] at hy
    obtain ⟨e1, e2⟩ := no 5 hy (by decide)
    rw [hy, e1, e2, hnl]
    rcases (show o.kind = 2 ∨ o.kind = 3 ∨ o.kind = 4 ∨ o.kind = 5 by omega) with k | k | k | k
    · exact refDo_none2 l hs v hv o hf how A n c w hR hn k hha
    · exact refDo_none3 l hs v hv o hf how A n c w hR hn k (hok k) hha
    · exact refDo_none4 l hs v hv o hf how A n c w hR hn k hha
    · exact refDo_none5 l hs v hv o hf how A n c w hR hn k hha
  rw [if_neg (by rw [hha]; decide)] at hy
  by_cases h4 : o.kind = 4 ∧ (gotN l o.name).drain = true
  · rw [if_pos h4] at hy
    obtain ⟨e1, e2⟩ := no 6 hy (by decide)
    rw [hy, e1, e2, hnl]
    exact refDo_twice4 l hs v hv o hf how A n c w hR hn h4.1 hha h4.2
  rw [if_neg h4] at hy
  by_cases h5 : o.kind = 5 ∧ (gotN l o.name).drain = false
  · rw [if_pos h5] at hy
    obtain ⟨e1, e2⟩ := no 6 hy (by decide)
    rw [hy, e1, e2, hnl]
    exact refDo_twice5 l hs v hv o hf how A n c w hR hn h5.1 hha h5.2
  rw [if_neg h5] at hy
  have hd4 : o.kind = 4 → (gotN l o.name).drain = false := fun h => by
    cases hc : (gotN l o.name).drain
    · rfl
    · exact absurd ⟨h, hc⟩ h4
  have hd5 : o.kind = 5 → (gotN l o.name).drain = true := fun h => by
    cases hc : (gotN l o.name).drain
    · exact absurd ⟨h, hc⟩ h5
    · rfl
  rcases Int.lt_or_le v 1099511627776 with hvv | hvv
  · rw [if_neg (by omega)] at hy
    have hV : doV v l o = v + 1 := by simp [doV, hy]
    have hL : doL v l o = doneTo l o := by simp [doL, hy]
    rw [hV, hL, hy]
    unfold doneTo
    rw [if_neg h1]
    rcases (show o.kind = 2 ∨ o.kind = 3 ∨ o.kind = 4 ∨ o.kind = 5 by omega) with k | k | k | k
    · rw [if_pos k, delAt_length l _ (lowN_lt hha), hnl]
      exact refDo_del l hs v hv o hf how A n c w hR hn k hha hvv
    · rw [if_neg (by omega), if_pos k, List.length_set, hnl]
      exact refDo_set3 l hs v hv o hf how A n c w hR hn k hha hvv (hok k)
    · rw [if_neg (by omega), if_neg (by omega), List.length_set, hnl, show (o.kind == 4) = true by rw [k]; rfl]
      exact refDo_set4 l hs v hv o hf how A n c w hR hn k hha hvv (hd4 k)
    · rw [if_neg (by omega), if_neg (by omega), List.length_set, hnl, show (o.kind == 4) = false by rw [k]; rfl]
      exact refDo_set5 l hs v hv o hf how A n c w hR hn k hha hvv (hd5 k)
  · rw [if_pos hvv] at hy
    obtain ⟨e1, e2⟩ := no 7 hy (by decide)
    rw [hy, e1, e2, hnl]
    rcases (show o.kind = 2 ∨ o.kind = 3 ∨ o.kind = 4 ∨ o.kind = 5 by omega) with k | k | k | k
    · exact refDo_old2 l hs v hv o hf how A n c w hR hn k hha hvv
    · exact refDo_old3 l hs v hv o hf how A n c w hR hn k hha hvv (hok k)
    · exact refDo_old4 l hs v hv o hf how A n c w hR hn k hha hvv (hd4 k)
    · exact refDo_old5 l hs v hv o hf how A n c w hR hn k hha hvv (hd5 k)
end Go.Proofs.Ytgcahcjffoehfaa
