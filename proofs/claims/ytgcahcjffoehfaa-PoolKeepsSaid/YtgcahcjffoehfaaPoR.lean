/- slices.Insert of a backend into a row of the call's own. -/
import Derived.Test.YtgcahcjffoehfaaBx
import Derived.Test.YtgcahcjffoehfaaPoP2
import Derived.Test.YtgcahcjffoehfaaIns
import Derived.IntWalk
set_option linter.unusedSimpArgs false
set_option linter.unusedVariables false
namespace Go.Proofs.Ytgcahcjffoehfaa
open Go.RowKit

theorem cellsBk_append (a b : List Bk) : cellsBk (a ++ b) = cellsBk a ++ cellsBk b := by simp [cellsBk]
theorem cellsBk_cons (x : Bk) (b : List Bk) : cellsBk (x :: b) = x.arr.toList ++ cellsBk b := by simp [cellsBk]
theorem cellsBk_take (l : List Bk) (i : Nat) (hi : i ≤ l.length) : cellsBk (l.take i) = (cellsBk l).take (i * 27) := by
  have h := cellsBk_append (l.take i) (l.drop i)
  rw [List.take_append_drop] at h
  rw [h, List.take_append_of_le_length (by rw [cellsBk_length, List.length_take]; omega)]
  exact (List.take_of_length_le (by rw [cellsBk_length, List.length_take]; omega)).symm
theorem cellsBk_drop (l : List Bk) (i : Nat) (hi : i ≤ l.length) : cellsBk (l.drop i) = (cellsBk l).drop (i * 27) := by
  have h := cellsBk_append (l.take i) (l.drop i)
  rw [List.take_append_drop] at h
  have hl : (cellsBk (l.take i)).length = i * 27 := by rw [cellsBk_length, List.length_take]; omega
  rw [h, ← hl, List.drop_left]
def insAt (l : List Bk) (i : Nat) (x : Bk) : List Bk := l.take i ++ x :: l.drop i
theorem insAt_length (l : List Bk) (i : Nat) (x : Bk) : (insAt l i x).length = l.length + 1 := by
  simp [insAt]; omega
theorem insAt_cells (l : List Bk) (i : Nat) (x : Bk) (hi : i ≤ l.length) : cellsBk (insAt l i x) = (cellsBk l).take (i * 27) ++ x.arr.toList ++ (cellsBk l).drop (i * 27) := by
  rw [insAt, cellsBk_append, cellsBk_cons, cellsBk_take l i hi, cellsBk_drop l i hi, List.append_assoc]
theorem src_row (w : World) (g : Nat) (c : Array Value) (t : TypeId) (fr : Nat × Nat) (hg : w.heap[g]? = some (.cells c t fr)) : ∀ j v, c.toList[j]? = some v → w.cell? ((⟨g, 0, none⟩ : Addr).add j) = some v := fun j v hv => by
  rw [Addr.add_mid, cell_of_row w g _ c _ _ hg, Nat.zero_add]
  rwa [Array.getElem?_toList] at hv
/-- a row of the call's own reads as m backends behind it, nothing else has turned but that row's old block -/
def OwnBk (base : Nat) (w : World) (row : Option Nat) (m : List Bk) (e : Ending) (w' : World) : Prop :=
  ∃ A c, e = .returned (.slice A m.length c) ∧ w'.ownsRow base 36 27 (.slice A m.length c) m.length (cellsBk m) ∧ w.grownBy w' row

theorem call_overlaps (w : World) (g g2 : Nat) (cur cur2 : Array Value) (t t2 : TypeId) (hg : w.heap[g]? = some (.cells cur t (0, 0))) (h2 : w.heap[g2]? = some (.cells cur2 t2 (0, 0))) (hne : g ≠ g2) (hc : cur.size ≠ 0) (o la ca lb cb : Nat) :
    (callFunc 60 #[.slice (some ⟨g2, 0, none⟩) la ca, .slice (some ⟨g, o, none⟩) lb cb]).run Try.prog w = .ok (.value (.bool false)) w := by
  rw [run_callFunc_extern Try.func60 (by kernel_rfl) (by kernel_rfl) (by kernel_rfl) (e := Extern.SlicesOverlaps.overlaps #[22, 22] #[4]) (by kernel_rfl)]
  obtain ⟨i0, hi0, hz0, hz1, hzb⟩ := infoBk
  rw [Lib.run_overlaps_apart w _ _ 36 Try.underlying22 27 (fun w => by simp [sizeOf, typeInfo, hi0, hz1]) ⟨g2, 0, none⟩ ⟨g, o, none⟩ la ca lb cb (fun e => hne e.symm) t2 t cur2.size cur.size (by simp [World.shape?, h2]) (by simp [World.shape?, hg]) hc (by simp [World.frozen?, h2]) (by simp [World.frozen?, h2])]
  rfl

set_option maxHeartbeats 400000 in
set_option maxRecDepth 100000 in
theorem insert_place (l : List Bk) (x : Bk) (i : Nat) (hi : i < l.length) (base g c : Nat) (cur : Array Value) (w : World) (hb : base ≤ g) (hg : w.heap[g]? = some (.cells cur 36 (0, 0))) (hc : l.length + 1 ≤ c) (hcm : c ≤ maxLen) (hcs : cur.size = c * 27)
    (ht : cur.toList.take (l.length * 27) = cellsBk l) (g2 : Nat) (h2 : w.heap[g2]? = some (.cells x.arr 36 (0, 0))) (hne : g ≠ g2) (hn : l.length ≤ 100000) :
    Calls Try.prog 38 #[.slice (some ⟨g, 0, none⟩) l.length c, .int .i64 i, .slice (some ⟨g2, 0, none⟩) 1 1] w (OwnBk base w (some g) (insAt l i x)) := by
  unfold maxLen at hcm
  obtain ⟨n, hnl⟩ : ∃ n, n = l.length := ⟨_, rfl⟩
  rw [← hnl] at hi hc hn ht ⊢
  have HN := Lib.hid hnl
  have HG := Lib.hid (show w.drew.heap[g]? = some (.cells cur 36 (0, 0)) from hg)
  have H2 := Lib.hid h2
  have HT := Lib.hid ht
  have HCS := Lib.hid hcs
  have hov := fun o la ca lb cb => call_overlaps w g g2 cur x.arr _ _ hg h2 hne (by omega) o la ca lb cb
  have SZ := Lib.hid (show (Try.prog.info? 36).map (·.size) = some 27 by kernel_rfl)
  have M1 := Lib.hid (show n - i = Nat.min (n + 1 - i) (n - i) from (Nat.min_eq_right (by omega)).symm)
  have M2 := Lib.hid (show ((cellsBk l).drop (i * 27)).length = (n - i) * 27 by rw [List.length_drop, cellsBk_length, ← hnl, Nat.sub_mul])
  have M3 := Lib.hid (show ∀ j v, ((cellsBk l).drop (i * 27))[j]? = some v → w.drew.cell? ((⟨g, i * 27, none⟩ : Addr).add j) = some v from fun j v hv => by
    show w.cell? _ = _
    rw [Addr.add_mid, cell_of_row w g _ cur _ _ hg]
    rw [List.getElem?_drop] at hv
    rw [← ht, List.getElem?_take] at hv
    split at hv
    · rw [Array.getElem?_toList] at hv; exact hv
    · cases hv)
  have M4 := Lib.hid (show (i + 1) * 27 + ((cellsBk l).drop (i * 27)).length ≤ cur.size by rw [M2.out, hcs]; have := Nat.mul_le_mul_right 27 hc; have := Nat.sub_mul n i 27; have := Nat.mul_le_mul_right 27 (Nat.le_of_lt hi); omega)
  have M5 := Lib.hid (show ∀ v ∈ (cellsBk l).drop (i * 27), v.oneCell' = true from fun v hv => cellsBk_one l v (List.mem_of_mem_drop hv))
  clear hnl hg h2 ht hcs
  go_enter Try.func38, Try.ntmps38
  go_wp2_with fail
  clear hov
  have a1 : IntKind.i64.wrap ((i : Int) + 1) = (i : Int) + 1 := IntWalk.i64_in _ (by omega)
  have a2 : (0 : Int) ≤ (i : Int) + 1 := by omega
  have a3 : (i : Int) + 1 ≤ (n : Int) + 1 := by omega
  have a4 : ((i : Int) + 1).toNat = i + 1 := by omega
  have a5 : ¬ c = i + 1 := by omega
  have a6 : ¬ c = i := by omega
  have a7 : (i : Int) ≤ (n : Int) + 1 := by omega
  go_region_law (refine step_copy_wide rfl (.tmp 73) (.tmp 76) _ _ rfl 36 27 Try.underlying22 SZ.out g ((i + 1) * 27) (n - i) (c - (i + 1)) ⟨g, i * 27, none⟩ (n + 1 - i) (c - i) (by kernel_rfl) (by kernel_rfl) cur _ HG.out ((cellsBk l).drop (i * 27)) (n - i) M1.out M2.out M3.out M4.out M5.out ?_; intro w1 hw1; have HW1 := Lib.hid hw1; clear hw1)
  clear a1 a2 a3 a4 a5 a6 a7
  obtain ⟨cur1, hc1⟩ : ∃ cur1 : Array Value, cur1 = (splice cur.toList ((i + 1) * 27) ((cellsBk l).drop (i * 27))).toArray := ⟨_, rfl⟩
  have G1 := Lib.hid (show w1.heap[g]? = some (.cells cur1 36 (0, 0)) by rw [HW1.out, hc1]; exact setRow_heap w.drew g cur _ _ _ HG.out)
  have G2 := Lib.hid (show w1.heap[g2]? = some (.cells x.arr 36 (0, 0)) by rw [HW1.out, setRow_other w.drew g g2 _ (fun e => hne e.symm)]; exact H2.out)
  have G3 := Lib.hid (show w.grownBy w1 (some g) by rw [HW1.out]; exact ⟨rfl, rfl, rfl, by simp [World.setRow], fun k hk hkg => setRow_other w.drew g k _ (fun e => hkg (by rw [e]))⟩)
  have HC1 := Lib.hid hc1
  clear hc1
  have N1 := Lib.hid (show 1 = Nat.min 1 (n + 1 - i) from (Nat.min_eq_left (by omega)).symm)
  have N2 := Lib.hid (show x.arr.toList.length = 1 * 27 by rw [Array.length_toList, Bk.arr_size])
  have N3 := Lib.hid (show ∀ j v, x.arr.toList[j]? = some v → w1.cell? ((⟨g2, 0, none⟩ : Addr).add j) = some v from fun j v hv => by
    rw [Addr.add_mid, cell_of_row w1 g2 _ x.arr _ _ G2.out, Nat.zero_add]
    rwa [Array.getElem?_toList] at hv)
  have hs1 : cur1.size = c * 27 := by
    rw [HC1.out, List.size_toArray, length_splice _ _ _ (by rw [Array.length_toList]; exact M4.out), Array.length_toList, HCS.out]
  have N4 := Lib.hid (show i * 27 + x.arr.toList.length ≤ cur1.size by rw [N2.out, hs1]; have := Nat.mul_le_mul_right 27 hc; have := Nat.mul_le_mul_right 27 (Nat.le_of_lt hi); omega)
  have N5 := Lib.hid (show ∀ v ∈ x.arr.toList, v.oneCell' = true from fun v hv => Array.all_eq_true_iff_forall_mem.1 (Bk.arr_one x) v (by simpa using hv))
  have HS1 := Lib.hid hs1
  clear hs1
  go_wp2_with (refine wpList_copy_wide rfl (.tmp 80) (.tmp 81) _ _ rfl 36 27 Try.underlying22 SZ.out g (i * 27) (n + 1 - i) (c - i) ⟨g2, 0, none⟩ 1 1 rfl rfl cur1 _ G1.out x.arr.toList 1 N1.out N2.out N3.out N4.out N5.out ?_; intro w2 hw2; have HW2 := Lib.hid hw2; clear hw2)
  go_ret
  have hln := insAt_length l i x
  rw [← HN.out] at hln
  refine ⟨some ⟨g, 0, none⟩, c, by rw [hln]; rfl, ?_, ?_⟩
  · rw [hln]
    refine ⟨by rw [cellsBk_length, hln], .inr ⟨g, c, (splice cur1.toList (i * 27) x.arr.toList).toArray, rfl, hb, ?_, hc, by unfold maxLen; omega, ?_, ?_⟩⟩
    · rw [HW2.out]; exact setRow_heap w1 g cur1 _ _ _ G1.out
    · rw [List.size_toArray, length_splice _ _ _ (by rw [Array.length_toList]; exact N4.out), Array.length_toList, HS1.out]
    · rw [insAt_cells l i x (by rw [← HN.out]; omega), HC1.out]
      have hx := HT.out
      have hcl := cellsBk_length l
      rw [← HN.out] at hcl
      have := ins_place cur.toList (cellsBk l) x.arr.toList (i * 27) 27 (by rw [hcl]; exact hx) (by rw [hcl]; omega) (by rw [Array.length_toList, Bk.arr_size]) (by rw [hcl, Array.length_toList, HCS.out]; omega)
      rw [hcl] at this
      rw [show (n + 1) * 27 = n * 27 + 27 by omega]
      rw [show (i + 1) * 27 = i * 27 + 27 by omega]
      exact this
  · rw [HW2.out]
    refine gb_trans G3.out ⟨rfl, rfl, rfl, by simp [World.setRow], fun k hk hkg => setRow_other w1 g k _ (fun e => hkg (by rw [e]))⟩

set_option maxHeartbeats 400000 in
set_option maxRecDepth 100000 in
theorem insert_new (l : List Bk) (x : Bk) (i : Nat) (hi : i < l.length) (base g c : Nat) (cur : Array Value) (w : World) (hbase : base ≤ w.heap.size) (hg : w.heap[g]? = some (.cells cur 36 (0, 0))) (hc : c < l.length + 1) (hlc : l.length ≤ c) (hcs : cur.size = c * 27)
    (ht : cur.toList.take (l.length * 27) = cellsBk l) (g2 : Nat) (h2 : w.heap[g2]? = some (.cells x.arr 36 (0, 0))) (hn : l.length ≤ 100000) :
    Calls Try.prog 38 #[.slice (some ⟨g, 0, none⟩) l.length c, .int .i64 i, .slice (some ⟨g2, 0, none⟩) 1 1] w (OwnBk base w (some g) (insAt l i x)) := by
  obtain ⟨n, hnl⟩ : ∃ n, n = l.length := ⟨_, rfl⟩
  rw [← hnl] at hi hc hlc hn ht ⊢
  have HN := Lib.hid hnl
  have HG := Lib.hid hg
  have H2 := Lib.hid h2
  have HT := Lib.hid ht
  have HCS := Lib.hid hcs
  obtain ⟨i0, hi0, hz0, hz1, hzb⟩ := infoBk
  have HI0 := Lib.hid hi0
  have HZ0 := Lib.hid hz0
  have HZ1 := Lib.hid hz1
  have HZ2 := Lib.hid (show (Value.agg noBk.arr).cells.size = 27 by simp [Value.cells, Bk.arr_size])
  have SZ := Lib.hid (show (Try.prog.info? 36).map (·.size) = some 27 by kernel_rfl)
  have hcl := cellsBk_length l
  rw [← hnl] at hcl
  have HX := Lib.hid (show Value.int .i64 ((n : Int) + 1 - i) = .int .i64 ((n + 1 - i : Nat) : Int) by congr 1; omega)
  have L1 := Lib.hid (show ((cellsBk l).take (i * 27)).length = i * 27 by rw [List.length_take, hcl]; omega)
  have L2 := Lib.hid (show ∀ j u, ((cellsBk l).take (i * 27))[j]? = some u → w.cell? ((⟨g, 0, none⟩ : Addr).add j) = some u from fun j v hv => by
    rw [Addr.add_mid, cell_of_row w g _ cur _ _ hg, Nat.zero_add]
    rw [List.getElem?_take] at hv
    split at hv
    · rw [← ht, List.getElem?_take] at hv
      split at hv
      · rw [Array.getElem?_toList] at hv; exact hv
      · cases hv
    · cases hv)
  have L3 := Lib.hid (show 0 < n + 1 - i by omega)
  have L4 := Lib.hid (show c < i + (n + 1 - i) by omega)
  have L5 := Lib.hid (show i + (n + 1 - i) ≤ maxLen by unfold maxLen; omega)
  have L6 := Lib.hid (show (i + (n + 1 - i)) * i0.bytes ≤ 140737488355328 from Nat.le_trans (Nat.mul_le_mul (show i + (n + 1 - i) ≤ 100001 by omega) hzb) (by omega))
  have M1 := Lib.hid (show n - i = Nat.min (n - i) (n - i) from (Nat.min_self _).symm)
  have M2 := Lib.hid (show ((cellsBk l).drop (i * 27)).length = (n - i) * 27 by rw [List.length_drop, hcl, Nat.sub_mul])
  have M5 := Lib.hid (show ∀ v ∈ (cellsBk l).drop (i * 27), v.oneCell' = true from fun v hv => cellsBk_one l v (List.mem_of_mem_drop hv))
  have N1 := Lib.hid (show 1 = Nat.min 1 (n + 1 - i) from (Nat.min_eq_left (by omega)).symm)
  have N2 := Lib.hid (show x.arr.toList.length = 1 * 27 by rw [Array.length_toList, Bk.arr_size])
  have N5 := Lib.hid (show ∀ v ∈ x.arr.toList, v.oneCell' = true from fun v hv => Array.all_eq_true_iff_forall_mem.1 (Bk.arr_one x) v (by simpa using hv))
  have HCL := Lib.hid hcl
  have EN := Lib.hid (show i + (n + 1 - i) = n + 1 by omega)
  have hgl : g < w.heap.size := (Array.getElem?_eq_some_iff.1 hg).1
  have hg2l : g2 < w.heap.size := (Array.getElem?_eq_some_iff.1 h2).1
  clear hnl hg h2 ht hcs hi0 hz0 hz1 hcl
  go_enter Try.func38, Try.ntmps38
  go_wp2_with (first
    | (refine wpList_app_zeros rfl (.tmp 34) (.tmp 39) _ _ rfl 36 i0 (.agg noBk.arr) 27 .i64 .i64 Try.underlying22 Try.underlying3 HI0.out HZ0.out HZ1.out HZ2.out ⟨g, 0, none⟩ i c rfl (n + 1 - i) HX.out ((cellsBk l).take (i * 27)) L1.out L2.out L3.out (Nat.succ_pos _) L4.out L5.out L6.out ?_
       rw [EN.out]
       intro c' cur1 w1 hc1 hc2 hc3 hc4 hc5 hc6
       have C2 := Lib.hid hc2
       have C3 := Lib.hid hc3
       have C4 := Lib.hid hc4
       have C6 := Lib.hid hc6
       have G1 := Lib.hid (show w1.heap[w.heap.size]? = some (.cells cur1 36 (0, 0)) from hc5)
       have Gx := Lib.hid (show w1.heap[g2]? = some (.cells x.arr 36 (0, 0)) from (hc6.block g2 hg2l).trans H2.out)
       have Gg := Lib.hid (show w1.heap[g]? = some (.cells cur 36 (0, 0)) from (hc6.block g hgl).trans HG.out)
       have N3 := Lib.hid (src_row w1 g2 x.arr _ _ Gx.out)
       have N4 := Lib.hid (show i * 27 + x.arr.toList.length ≤ cur1.size by rw [N2.out, C3.out]; have := Nat.mul_le_mul_right 27 hc1; omega)
       clear hc2 hc3 hc4 hc5 hc6)
    | (refine wpList_copy_wide rfl (.tmp 43) (.tmp 44) _ _ rfl 36 27 Try.underlying22 SZ.out w.heap.size (i * 27) (n + 1 - i) (c' - i) ⟨g2, 0, none⟩ 1 1 rfl rfl cur1 _ G1.out x.arr.toList 1 N1.out N2.out N3.out N4.out N5.out ?_
       intro w2 hw2
       have HW2 := Lib.hid hw2
       clear hw2))
  obtain ⟨cur2, hc2⟩ : ∃ cur2 : Array Value, cur2 = (splice cur1.toList (i * 27) x.arr.toList).toArray := ⟨_, rfl⟩
  have K1 := Lib.hid (show w2.drew.heap[w.heap.size]? = some (.cells cur2 36 (0, 0)) by rw [HW2.out, hc2]; exact setRow_heap w1 w.heap.size cur1 _ _ _ G1.out)
  have Kg := Lib.hid (show w2.heap[g]? = some (.cells cur 36 (0, 0)) by rw [HW2.out, setRow_other w1 w.heap.size g _ (by omega)]; exact Gg.out)
  have KB := Lib.hid (show Below w.heap.size w w2 by rw [HW2.out]; exact C6.out.trans ⟨rfl, rfl, rfl, by simp [World.setRow], fun k hk => setRow_other w1 w.heap.size k _ (by omega)⟩)
  have hs2 : cur2.size = c' * 27 := by
    rw [hc2, List.size_toArray, length_splice _ _ _ (by rw [Array.length_toList]; exact N4.out), Array.length_toList, C3.out]
  have M3 := Lib.hid (show ∀ j v, ((cellsBk l).drop (i * 27))[j]? = some v → w2.drew.cell? ((⟨g, i * 27, none⟩ : Addr).add j) = some v from fun j v hv => by
    show w2.cell? _ = _
    rw [Addr.add_mid, cell_of_row w2 g _ cur _ _ Kg.out]
    rw [List.getElem?_drop] at hv
    rw [← HT.out, List.getElem?_take] at hv
    split at hv
    · rw [Array.getElem?_toList] at hv; exact hv
    · cases hv)
  have M4 := Lib.hid (show (i + 1) * 27 + ((cellsBk l).drop (i * 27)).length ≤ cur2.size by rw [M2.out, hs2]; have := Nat.mul_le_mul_right 27 hc1; have := Nat.sub_mul n i 27; have := Nat.mul_le_mul_right 27 (Nat.le_of_lt hi); omega)
  have HC2 := Lib.hid hc2
  have HS2 := Lib.hid hs2
  clear hc2 hs2
  have a5 : ¬ c' = i + 1 := by omega
  have a6 : ¬ c = i := by omega
  have a7 : (i : Int) ≤ (n : Int) := by omega
  have a2 : (0 : Int) ≤ (i : Int) + 1 := by omega
  have a3 : (i : Int) + 1 ≤ (n : Int) + 1 := by omega
  have a4 : ((i : Int) + 1).toNat = i + 1 := by omega
  have a1 : IntKind.i64.wrap ((i : Int) + 1) = (i : Int) + 1 := IntWalk.i64_in _ (by omega)
  go_region_law (refine step_copy_wide rfl (.tmp 50) (.tmp 53) _ _ rfl 36 27 Try.underlying22 SZ.out w.heap.size ((i + 1) * 27) (n - i) (c' - (i + 1)) ⟨g, i * 27, none⟩ (n - i) (c - i) (by kernel_rfl) (by kernel_rfl) cur2 _ K1.out ((cellsBk l).drop (i * 27)) (n - i) M1.out M2.out M3.out M4.out M5.out ?_; intro w3 hw3; have HW3 := Lib.hid hw3; clear hw3)
  clear a1 a2 a3 a4 a5 a6 a7
  go_wp2_with fail
  go_ret
  have hln := insAt_length l i x
  rw [← HN.out] at hln
  refine ⟨some ⟨w.heap.size, 0, none⟩, c', by rw [hln]; rfl, ?_, ?_⟩
  · rw [hln]
    refine ⟨by rw [cellsBk_length, hln], .inr ⟨w.heap.size, c', (splice cur2.toList ((i + 1) * 27) ((cellsBk l).drop (i * 27))).toArray, rfl, hbase, ?_, hc1, C2.out, ?_, ?_⟩⟩
    · rw [HW3.out]; exact setRow_heap w2.drew w.heap.size cur2 _ _ _ K1.out
    · rw [List.size_toArray, length_splice _ _ _ (by rw [Array.length_toList]; exact M4.out), Array.length_toList, HS2.out]
    · rw [insAt_cells l i x (by rw [← HN.out]; omega), HC2.out]
      have := ins_new cur1.toList (cellsBk l) x.arr.toList (i * 27) 27 C4.out (by rw [HCL.out]; omega) (by rw [Array.length_toList, Bk.arr_size]) (by rw [HCL.out, Array.length_toList, C3.out]; omega)
      rw [HCL.out] at this
      rw [show (n + 1) * 27 = n * 27 + 27 by omega, show (i + 1) * 27 = i * 27 + 27 by omega]
      exact this
  · rw [HW3.out]
    have hb := KB.out
    exact ⟨hb.os, hb.tape, hb.output, by have := hb.size; simpa [World.setRow] using this, fun k hk hkg => (setRow_other w2.drew w.heap.size k _ (by omega)).trans (hb.block k hk)⟩

theorem insAt_end (l : List Bk) (x : Bk) : cellsBk (insAt l l.length x) = cellsBk l ++ x.arr.toList := by
  rw [insAt_cells l l.length x (Nat.le_refl _), List.take_of_length_le (by rw [cellsBk_length]; omega), List.drop_of_length_le (by rw [cellsBk_length]; omega), List.append_nil]
set_option maxHeartbeats 400000 in
set_option maxRecDepth 100000 in
theorem insert_end (l : List Bk) (x : Bk) (base c : Nat) (A : Option Addr) (w : World) (hbase : base ≤ w.heap.size) (hown : w.ownsRow base 36 27 (.slice A l.length c) l.length (cellsBk l)) (hlc : l.length ≤ c) (g2 : Nat) (h2 : w.heap[g2]? = some (.cells x.arr 36 (0, 0))) (hn : l.length ≤ 100000) :
    Calls Try.prog 38 #[.slice A l.length c, .int .i64 l.length, .slice (some ⟨g2, 0, none⟩) 1 1] w (OwnBk base w (Value.slice A l.length c).ownBlock (insAt l l.length x)) := by
  have hln := insAt_length l l.length x
  have hce := insAt_end l x
  obtain ⟨n, hnl⟩ : ∃ n, n = l.length := ⟨_, rfl⟩
  rw [← hnl] at hln hce hn hlc hown ⊢
  obtain ⟨m, hm⟩ : ∃ m, m = insAt l n x := ⟨_, rfl⟩
  rw [← hm] at hln hce ⊢
  have HLN := Lib.hid hln
  have HCE := Lib.hid hce
  have HO := Lib.hid hown
  obtain ⟨i0, hi0, hz0, hz1, hzb⟩ := infoBk
  have HI0 := Lib.hid hi0
  have HZ0 := Lib.hid hz0
  have HZ1 := Lib.hid hz1
  have HZ2 := Lib.hid (show (Value.agg noBk.arr).cells.size = 27 by simp [Value.cells, Bk.arr_size])
  have L5 := Lib.hid (show n + 1 ≤ maxLen by unfold maxLen; omega)
  have L6 := Lib.hid (show (n + 1) * i0.bytes ≤ 140737488355328 from Nat.le_trans (Nat.mul_le_mul (show n + 1 ≤ 100001 by omega) hzb) (by omega))
  have HR := Lib.hid (show Rd w (g2 + 1) 27 (some ⟨g2, 0, none⟩) 1 x.arr.toList from ⟨by rw [Array.length_toList, Bk.arr_size], fun _ => ⟨_, rfl, Nat.lt_succ_self _, src_row w g2 x.arr _ _ h2⟩⟩)
  have N5 := Lib.hid (show ∀ v ∈ x.arr.toList, v.oneCell' = true from fun v hv => Array.all_eq_true_iff_forall_mem.1 (Bk.arr_one x) v (by simpa using hv))
  clear hnl hm hln hce hown hi0 hz0 hz1 h2
  have hnn : ((n : Int) == (n : Int)) = true := by simp
  go_enter Try.func38, Try.ntmps38
  go_wp2_with (refine wpList_app_rd _ rfl (.tmp 23) (.tmp 24) _ rfl base 36 i0 (.agg noBk.arr) 27 i0.bytes Try.underlying22 HI0.out HZ0.out HZ1.out rfl HZ2.out (Nat.succ_pos _) (.slice A n c) n (cellsBk l) rfl HO.out (g2 + 1) (some ⟨g2, 0, none⟩) 1 1 x.arr.toList rfl HR.out N5.out L5.out L6.out hbase ?_; intro v1 w1 hown1 hg1 hat1; have O1 := Lib.hid hown1; have GR := Lib.hid hg1; clear hown1 hg1 hat1)
  all_goals
    go_ret
    obtain ⟨A', c', rfl, _, _⟩ := own_form O1.out
    refine ⟨A', c', by rw [HLN.out]; rfl, ?_, by have := GR.out; cases A <;> exact this⟩
    rw [HLN.out, HCE.out]
    exact O1.out
def InsArgs (base : Nat) (w : World) (A : Option Addr) (c : Nat) (l : List Bk) (g2 : Nat) (x : Bk) : Prop :=
  w.ownsRow base 36 27 (.slice A l.length c) l.length (cellsBk l) ∧ w.heap[g2]? = some (.cells x.arr 36 (0, 0)) ∧ (∀ g, A = some g → g.block ≠ g2) ∧ base ≤ w.heap.size ∧ l.length ≤ 100000
theorem insert_any (l : List Bk) (x : Bk) (i : Nat) (hi : i ≤ l.length) (base c g2 : Nat) (A : Option Addr) (w : World) (h : InsArgs base w A c l g2 x) :
    Calls Try.prog 38 #[.slice A l.length c, .int .i64 i, .slice (some ⟨g2, 0, none⟩) 1 1] w (OwnBk base w (Value.slice A l.length c).ownBlock (insAt l i x)) := by
  obtain ⟨hown, h2, hne, hb, hn⟩ := h
  have hown' := hown
  rcases hown.2 with ⟨hv, h0⟩ | ⟨g, cap, cur, hv, hbg, hg, hnc, hcm, hcs, htake⟩
  · injection hv with e1 e2 e3
    subst e1 e3
    obtain rfl : i = l.length := by omega
    exact insert_end l x base 0 none w hb hown (by omega) g2 h2 hn
  · injection hv with e1 e2 e3
    subst e1 e3
    rcases Nat.lt_or_ge i l.length with h1 | h1
    · rcases Nat.lt_or_ge c (l.length + 1) with h3 | h3
      · exact insert_new l x i h1 base g c cur w hb hg h3 hnc hcs htake g2 h2 hn
      · exact insert_place l x i h1 base g c cur w hbg hg h3 hcm hcs htake g2 h2 (hne _ rfl) hn
    · obtain rfl : i = l.length := by omega
      exact insert_end l x base c _ w hb hown hnc g2 h2 hn
end Go.Proofs.Ytgcahcjffoehfaa
