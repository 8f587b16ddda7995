/- slices.Insert of a backend into a row of the call's own. -/
import Derived.Test.YtmpemeemlhmaaaaGreatQ14
import Derived.Test.YtmpemeemlhmaaaaGreatQ25
import Derived.Test.YtmpemeemlhmaaaaGreatQ18
import Derived.IntWalk
import Derived.Test.YtmpemeemlhmaaaaGreatQ24
set_option linter.unusedSimpArgs false
set_option linter.unusedVariables false
set_option maxRecDepth 100000
namespace Go.Proofs.YtmpemeemlhmaaaaGreat
open Go.RowKit

theorem cellsBk_append (a b : List Bk) : cellsBk (a ++ b) = cellsBk a ++ cellsBk b := by simp [cellsBk]
theorem cellsBk_cons (x : Bk) (b : List Bk) : cellsBk (x :: b) = x.arr.toList ++ cellsBk b := by simp [cellsBk]
theorem cellsBk_take (l : List Bk) (i : Nat) (hi : i ≤ l.length) : cellsBk (l.take i) = (cellsBk l).take (i * 27) := by
  have h := cellsBk_append (l.take i) (l.drop i)
  rw [List.take_append_drop] at h
  rw [h, List.take_append_of_le_length (by rw [cellsBk_length, List.length_take]; omega)]
  exact (List.take_of_length_le (by rw [cellsBk_length, List.length_take]; omega)).symm
theorem cellsBk_drop (l : List Bk) (i : Nat) (hi : i ≤ l.length) : cellsBk (l.drop i) = (cellsBk l).drop (i * 27) := by
  have h := cellsBk_append (l.take i) (l.drop i)
  rw [List.take_append_drop] at h
  have hl : (cellsBk (l.take i)).length = i * 27 := by rw [cellsBk_length, List.length_take]; omega
  rw [h, ← hl, List.drop_left]
def insAt (l : List Bk) (i : Nat) (x : Bk) : List Bk := l.take i ++ x :: l.drop i
theorem insAt_length (l : List Bk) (i : Nat) (x : Bk) : (insAt l i x).length = l.length + 1 := by
  simp [insAt]; omega
theorem insAt_cells (l : List Bk) (i : Nat) (x : Bk) (hi : i ≤ l.length) : cellsBk (insAt l i x) = (cellsBk l).take (i * 27) ++ x.arr.toList ++ (cellsBk l).drop (i * 27) := by
  rw [insAt, cellsBk_append, cellsBk_cons, cellsBk_take l i hi, cellsBk_drop l i hi, List.append_assoc]
theorem src_row (w : World) (g : Nat) (c : Array Value) (t : TypeId) (fr : Nat × Nat) (hg : w.heap[g]? = some (.cells c t fr)) : ∀ j v, c.toList[j]? = some v → w.cell? ((⟨g, 0, none⟩ : Addr).add j) = some v := fun j v hv => by
  rw [Addr.add_mid, cell_of_row w g _ c _ _ hg, Nat.zero_add]
  rwa [Array.getElem?_toList] at hv
/-- a row of the call's own reads as m backends behind it, nothing else has turned but that row's old block -/
def OwnBk (base : Nat) (w : World) (row : Option Nat) (m : List Bk) (e : Ending) (w' : World) : Prop :=
  ∃ A c, e = .returned (.slice A m.length c) ∧ w'.ownsRow base 60 27 (.slice A m.length c) m.length (cellsBk m) ∧ w.grownBy w' row

theorem call_overlaps (w : World) (g g2 : Nat) (cur cur2 : Array Value) (t t2 : TypeId) (hg : w.heap[g]? = some (.cells cur t (0, 0))) (h2 : w.heap[g2]? = some (.cells cur2 t2 (0, 0))) (hne : g ≠ g2) (hc : cur.size ≠ 0) (o la ca lb cb : Nat) :
    (callFunc 116 #[.slice (some ⟨g2, 0, none⟩) la ca, .slice (some ⟨g, o, none⟩) lb cb]).run Tryz.prog w = .ok (.value (.bool false)) w := by
  rw [run_callFunc_extern Tryz.func116 (by kernel_rfl) (by kernel_rfl) (by kernel_rfl) (e := Extern.SlicesOverlaps.overlaps #[22, 22] #[4]) (by kernel_rfl)]
  obtain ⟨i0, hi0, hz0, hz1, hzb⟩ := infoBk
  rw [Lib.run_overlaps_apart w _ _ 60 Tryz.underlying22 27 (fun w => by simp [sizeOf, typeInfo, hi0, hz1]) ⟨g2, 0, none⟩ ⟨g, o, none⟩ la ca lb cb (fun e => hne e.symm) t2 t cur2.size cur.size (by simp [World.shape?, h2]) (by simp [World.shape?, hg]) hc (by simp [World.frozen?, h2]) (by simp [World.frozen?, h2])]
  rfl

set_option maxHeartbeats 400000 in
set_option maxRecDepth 100000 in
theorem insert_place (l : List Bk) (x : Bk) (i : Nat) (hi : i < l.length) (base g c : Nat) (cur : Array Value) (w : World) (hb : base ≤ g) (hg : w.heap[g]? = some (.cells cur 60 (0, 0))) (hc : l.length + 1 ≤ c) (hcm : c ≤ maxLen) (hcs : cur.size = c * 27)
    (ht : cur.toList.take (l.length * 27) = cellsBk l) (g2 : Nat) (h2 : w.heap[g2]? = some (.cells x.arr 60 (0, 0))) (hne : g ≠ g2) (hn : l.length ≤ 100000) :
    Calls Tryz.prog 77 #[.slice (some ⟨g, 0, none⟩) l.length c, .int .i64 i, .slice (some ⟨g2, 0, none⟩) 1 1] w (OwnBk base w (some g) (insAt l i x)) := by
  unfold maxLen at hcm
  obtain ⟨n, hnl⟩ : ∃ n, n = l.length := ⟨_, rfl⟩
  rw [← hnl] at hi hc hn ht ⊢
  have HN := Lib.hid hnl
  have HG := Lib.hid (show w.drew.heap[g]? = some (.cells cur 60 (0, 0)) from hg)
  have H2 := Lib.hid h2
  have HT := Lib.hid ht
  have HCS := Lib.hid hcs
  have hov := fun o la ca lb cb => call_overlaps w g g2 cur x.arr _ _ hg h2 hne (by omega) o la ca lb cb
  have SZ := Lib.hid (show (Tryz.prog.info? 60).map (·.size) = some 27 by kernel_rfl)
  have M1 := Lib.hid (show n - i = Nat.min (n + 1 - i) (n - i) from (Nat.min_eq_right (by omega)).symm)
  have M2 := Lib.hid (show ((cellsBk l).drop (i * 27)).length = (n - i) * 27 by rw [List.length_drop, cellsBk_length, ← hnl, Nat.sub_mul])
  have M3 := Lib.hid (show ∀ j v, ((cellsBk l).drop (i * 27))[j]? = some v → w.drew.cell? ((⟨g, i * 27, none⟩ : Addr).add j) = some v from fun j v hv => by
    show w.cell? _ = _
    rw [Addr.add_mid, cell_of_row w g _ cur _ _ hg]
    rw [List.getElem?_drop] at hv
    rw [← ht, List.getElem?_take] at hv
    split at hv
    · rw [Array.getElem?_toList] at hv; exact hv
    · cases hv)
  have M4 := Lib.hid (show (i + 1) * 27 + ((cellsBk l).drop (i * 27)).length ≤ cur.size by rw [M2.out, hcs]; have := Nat.mul_le_mul_right 27 hc; have := Nat.sub_mul n i 27; have := Nat.mul_le_mul_right 27 (Nat.le_of_lt hi); omega)
  have M5 := Lib.hid (show ∀ v ∈ (cellsBk l).drop (i * 27), v.oneCell' = true from fun v hv => cellsBk_one l v (List.mem_of_mem_drop hv))
  clear hnl hg h2 ht hcs
  go_enter Tryz.func77, Tryz.ntmps77
  go_wp2_with fail
  clear hov
  have a1 : IntKind.i64.wrap ((i : Int) + 1) = (i : Int) + 1 := IntWalk.i64_in _ (by omega)
  have a2 : (0 : Int) ≤ (i : Int) + 1 := by omega
  have a3 : (i : Int) + 1 ≤ (n : Int) + 1 := by omega
  have a4 : ((i : Int) + 1).toNat = i + 1 := by omega
  have a5 : ¬ c = i + 1 := by omega
  have a6 : ¬ c = i := by omega
  have a7 : (i : Int) ≤ (n : Int) + 1 := by omega
  go_region_law (refine step_copy_wide rfl (.tmp 73) (.tmp 76) _ _ rfl 60 27 Tryz.underlying22 SZ.out g ((i + 1) * 27) (n - i) (c - (i + 1)) ⟨g, i * 27, none⟩ (n + 1 - i) (c - i) (by kernel_rfl) (by kernel_rfl) cur _ HG.out ((cellsBk l).drop (i * 27)) (n - i) M1.out M2.out M3.out M4.out M5.out ?_; intro w1 hw1; have HW1 := Lib.hid hw1; clear hw1)
  clear a1 a2 a3 a4 a5 a6 a7
  obtain ⟨cur1, hc1⟩ : ∃ cur1 : Array Value, cur1 = (splice cur.toList ((i + 1) * 27) ((cellsBk l).drop (i * 27))).toArray := ⟨_, rfl⟩
  have G1 := Lib.hid (show w1.heap[g]? = some (.cells cur1 60 (0, 0)) by rw [HW1.out, hc1]; exact setRow_heap w.drew g cur _ _ _ HG.out)
  have G2 := Lib.hid (show w1.heap[g2]? = some (.cells x.arr 60 (0, 0)) by rw [HW1.out, setRow_other w.drew g g2 _ (fun e => hne e.symm)]; exact H2.out)
  have G3 := Lib.hid (show w.grownBy w1 (some g) by rw [HW1.out]; exact ⟨rfl, rfl, rfl, by simp [World.setRow], fun k hk hkg => setRow_other w.drew g k _ (fun e => hkg (by rw [e]))⟩)
  have HC1 := Lib.hid hc1
  clear hc1
  have N1 := Lib.hid (show 1 = Nat.min 1 (n + 1 - i) from (Nat.min_eq_left (by omega)).symm)
  have N2 := Lib.hid (show x.arr.toList.length = 1 * 27 by rw [Array.length_toList, Bk.arr_size])
  have N3 := Lib.hid (show ∀ j v, x.arr.toList[j]? = some v → w1.cell? ((⟨g2, 0, none⟩ : Addr).add j) = some v from fun j v hv => by
    rw [Addr.add_mid, cell_of_row w1 g2 _ x.arr _ _ G2.out, Nat.zero_add]
    rwa [Array.getElem?_toList] at hv)
  have hs1 : cur1.size = c * 27 := by
    rw [HC1.out, List.size_toArray, length_splice _ _ _ (by rw [Array.length_toList]; exact M4.out), Array.length_toList, HCS.out]
  have N4 := Lib.hid (show i * 27 + x.arr.toList.length ≤ cur1.size by rw [N2.out, hs1]; have := Nat.mul_le_mul_right 27 hc; have := Nat.mul_le_mul_right 27 (Nat.le_of_lt hi); omega)
  have N5 := Lib.hid (show ∀ v ∈ x.arr.toList, v.oneCell' = true from fun v hv => Array.all_eq_true_iff_forall_mem.1 (Bk.arr_one x) v (by simpa using hv))
  have HS1 := Lib.hid hs1
  clear hs1
  go_wp2_with (refine wpList_copy_wide rfl (.tmp 80) (.tmp 81) _ _ rfl 60 27 Tryz.underlying22 SZ.out g (i * 27) (n + 1 - i) (c - i) ⟨g2, 0, none⟩ 1 1 rfl rfl cur1 _ G1.out x.arr.toList 1 N1.out N2.out N3.out N4.out N5.out ?_; intro w2 hw2; have HW2 := Lib.hid hw2; clear hw2)
  go_ret
  have hln := insAt_length l i x
  rw [← HN.out] at hln
  refine ⟨some ⟨g, 0, none⟩, c, by rw [hln]; rfl, ?_, ?_⟩
  · rw [hln]
    refine ⟨by rw [cellsBk_length, hln], .inr ⟨g, c, (splice cur1.toList (i * 27) x.arr.toList).toArray, rfl, hb, ?_, hc, by unfold maxLen; omega, ?_, ?_⟩⟩
    · rw [HW2.out]; exact setRow_heap w1 g cur1 _ _ _ G1.out
    · rw [List.size_toArray, length_splice _ _ _ (by rw [Array.length_toList]; exact N4.out), Array.length_toList, HS1.out]
    · rw [insAt_cells l i x (by rw [← HN.out]; omega), HC1.out]
      have hx := HT.out
      have hcl := cellsBk_length l
      rw [← HN.out] at hcl
      have := ins_place cur.toList (cellsBk l) x.arr.toList (i * 27) 27 (by rw [hcl]; exact hx) (by rw [hcl]; omega) (by rw [Array.length_toList, Bk.arr_size]) (by rw [hcl, Array.length_toList, HCS.out]; omega)
      rw [hcl] at this
      rw [show (n + 1) * 27 = n * 27 + 27 by omega]
      rw [show (i + 1) * 27 = i * 27 + 27 by omega]
      exact this
  · rw [HW2.out]
    refine gb_trans G3.out ⟨rfl, rfl, rfl, by simp [World.setRow], fun k hk hkg => setRow_other w1 g k _ (fun e => hkg (by rw [e]))⟩

set_option maxHeartbeats 400000 in
set_option maxRecDepth 100000 in
theorem insert_new (l : List Bk) (x : Bk) (i : Nat) (hi : i < l.length) (base g c : Nat) (cur : Array Value) (w : World) (hbase : base ≤ w.heap.size) (hg : w.heap[g]? = some (.cells cur 60 (0, 0))) (hc : c < l.length + 1) (hlc : l.length ≤ c) (hcs : cur.size = c * 27)
    (ht : cur.toList.take (l.length * 27) = cellsBk l) (g2 : Nat) (h2 : w.heap[g2]? = some (.cells x.arr 60 (0, 0))) (hn : l.length ≤ 100000) :
    Calls Tryz.prog 77 #[.slice (some ⟨g, 0, none⟩) l.length c, .int .i64 i, .slice (some ⟨g2, 0, none⟩) 1 1] w (OwnBk base w (some g) (insAt l i x)) := by
  obtain ⟨n, hnl⟩ : ∃ n, n = l.length := ⟨_, rfl⟩
  rw [← hnl] at hi hc hlc hn ht ⊢
  have HN := Lib.hid hnl
  have HG := Lib.hid hg
  have H2 := Lib.hid h2
  have HT := Lib.hid ht
  have HCS := Lib.hid hcs
  obtain ⟨i0, hi0, hz0, hz1, hzb⟩ := infoBk
  have HI0 := Lib.hid hi0
  have HZ0 := Lib.hid hz0
  have HZ1 := Lib.hid hz1
  have HZ2 := Lib.hid (show (Value.agg noBk.arr).cells.size = 27 by simp [Value.cells, Bk.arr_size])
  have SZ := Lib.hid (show (Tryz.prog.info? 60).map (·.size) = some 27 by kernel_rfl)
  have hcl := cellsBk_length l
  rw [← hnl] at hcl
  have HX := Lib.hid (show Value.int .i64 ((n : Int) + 1 - i) = .int .i64 ((n + 1 - i : Nat) : Int) by congr 1; omega)
  have L1 := Lib.hid (show ((cellsBk l).take (i * 27)).length = i * 27 by rw [List.length_take, hcl]; omega)
  have L2 := Lib.hid (show ∀ j u, ((cellsBk l).take (i * 27))[j]? = some u → w.cell? ((⟨g, 0, none⟩ : Addr).add j) = some u from fun j v hv => by
    rw [Addr.add_mid, cell_of_row w g _ cur _ _ hg, Nat.zero_add]
    rw [List.getElem?_take] at hv
    split at hv
    · rw [← ht, List.getElem?_take] at hv
      split at hv
      · rw [Array.getElem?_toList] at hv; exact hv
      · cases hv
    · cases hv)
  have L3 := Lib.hid (show 0 < n + 1 - i by omega)
  have L4 := Lib.hid (show c < i + (n + 1 - i) by omega)
  have L5 := Lib.hid (show i + (n + 1 - i) ≤ maxLen by unfold maxLen; omega)
  have L6 := Lib.hid (show (i + (n + 1 - i)) * i0.bytes ≤ 140737488355328 from Nat.le_trans (Nat.mul_le_mul (show i + (n + 1 - i) ≤ 100001 by omega) hzb) (by omega))
  have M1 := Lib.hid (show n - i = Nat.min (n - i) (n - i) from (Nat.min_self _).symm)
  have M2 := Lib.hid (show ((cellsBk l).drop (i * 27)).length = (n - i) * 27 by rw [List.length_drop, hcl, Nat.sub_mul])
  have M5 := Lib.hid (show ∀ v ∈ (cellsBk l).drop (i * 27), v.oneCell' = true from fun v hv => cellsBk_one l v (List.mem_of_mem_drop hv))
  have N1 := Lib.hid (show 1 = Nat.min 1 (n + 1 - i) from (Nat.min_eq_left (by omega)).symm)
  have N2 := Lib.hid (show x.arr.toList.length = 1 * 27 by rw [Array.length_toList, Bk.arr_size])
  have N5 := Lib.hid (show ∀ v ∈ x.arr.toList, v.oneCell' = true from fun v hv => Array.all_eq_true_iff_forall_mem.1 (Bk.arr_one x) v (by simpa using hv))
  have HCL := Lib.hid hcl
  have EN := Lib.hid (show i + (n + 1 - i) = n + 1 by omega)
  have hgl : g < w.heap.size := (Array.getElem?_eq_some_iff.1 hg).1
  have hg2l : g2 < w.heap.size := (Array.getElem?_eq_some_iff.1 h2).1
  clear hnl hg h2 ht hcs hi0 hz0 hz1 hcl
  go_enter Tryz.func77, Tryz.ntmps77
  go_wp2_with (first
    | (refine wpList_app_zeros rfl (.tmp 34) (.tmp 39) _ _ rfl 60 i0 (.agg noBk.arr) 27 .i64 .i64 Tryz.underlying22 Tryz.underlying3 HI0.out HZ0.out HZ1.out HZ2.out ⟨g, 0, none⟩ i c rfl (n + 1 - i) HX.out ((cellsBk l).take (i * 27)) L1.out L2.out L3.out (Nat.succ_pos _) L4.out L5.out L6.out ?_
       rw [EN.out]
       intro c' cur1 w1 hc1 hc2 hc3 hc4 hc5 hc6
       have C2 := Lib.hid hc2
       have C3 := Lib.hid hc3
       have C4 := Lib.hid hc4
       have C6 := Lib.hid hc6
       have G1 := Lib.hid (show w1.heap[w.heap.size]? = some (.cells cur1 60 (0, 0)) from hc5)
       have Gx := Lib.hid (show w1.heap[g2]? = some (.cells x.arr 60 (0, 0)) from (hc6.block g2 hg2l).trans H2.out)
       have Gg := Lib.hid (show w1.heap[g]? = some (.cells cur 60 (0, 0)) from (hc6.block g hgl).trans HG.out)
       have N3 := Lib.hid (src_row w1 g2 x.arr _ _ Gx.out)
       have N4 := Lib.hid (show i * 27 + x.arr.toList.length ≤ cur1.size by rw [N2.out, C3.out]; have := Nat.mul_le_mul_right 27 hc1; omega)
       clear hc2 hc3 hc4 hc5 hc6)
    | (refine wpList_copy_wide rfl (.tmp 43) (.tmp 44) _ _ rfl 60 27 Tryz.underlying22 SZ.out w.heap.size (i * 27) (n + 1 - i) (c' - i) ⟨g2, 0, none⟩ 1 1 rfl rfl cur1 _ G1.out x.arr.toList 1 N1.out N2.out N3.out N4.out N5.out ?_
       intro w2 hw2
       have HW2 := Lib.hid hw2
       clear hw2))
  obtain ⟨cur2, hc2⟩ : ∃ cur2 : Array Value, cur2 = (splice cur1.toList (i * 27) x.arr.toList).toArray := ⟨_, rfl⟩
  have K1 := Lib.hid (show w2.drew.heap[w.heap.size]? = some (.cells cur2 60 (0, 0)) by rw [HW2.out, hc2]; exact setRow_heap w1 w.heap.size cur1 _ _ _ G1.out)
  have Kg := Lib.hid (show w2.heap[g]? = some (.cells cur 60 (0, 0)) by rw [HW2.out, setRow_other w1 w.heap.size g _ (by omega)]; exact Gg.out)
  have KB := Lib.hid (show Below w.heap.size w w2 by rw [HW2.out]; exact C6.out.trans ⟨rfl, rfl, rfl, by simp [World.setRow], fun k hk => setRow_other w1 w.heap.size k _ (by omega)⟩)
  have hs2 : cur2.size = c' * 27 := by
    rw [hc2, List.size_toArray, length_splice _ _ _ (by rw [Array.length_toList]; exact N4.out), Array.length_toList, C3.out]
  have M3 := Lib.hid (show ∀ j v, ((cellsBk l).drop (i * 27))[j]? = some v → w2.drew.cell? ((⟨g, i * 27, none⟩ : Addr).add j) = some v from fun j v hv => by
    show w2.cell? _ = _
    rw [Addr.add_mid, cell_of_row w2 g _ cur _ _ Kg.out]
    rw [List.getElem?_drop] at hv
    rw [← HT.out, List.getElem?_take] at hv
    split at hv
    · rw [Array.getElem?_toList] at hv; exact hv
    · cases hv)
  have M4 := Lib.hid (show (i + 1) * 27 + ((cellsBk l).drop (i * 27)).length ≤ cur2.size by rw [M2.out, hs2]; have := Nat.mul_le_mul_right 27 hc1; have := Nat.sub_mul n i 27; have := Nat.mul_le_mul_right 27 (Nat.le_of_lt hi); omega)
  have HC2 := Lib.hid hc2
  have HS2 := Lib.hid hs2
  clear hc2 hs2
  have a5 : ¬ c' = i + 1 := by omega
  have a6 : ¬ c = i := by omega
  have a7 : (i : Int) ≤ (n : Int) := by omega
  have a2 : (0 : Int) ≤ (i : Int) + 1 := by omega
  have a3 : (i : Int) + 1 ≤ (n : Int) + 1 := by omega
  have a4 : ((i : Int) + 1).toNat = i + 1 := by omega
  have a1 : IntKind.i64.wrap ((i : Int) + 1) = (i : Int) + 1 := IntWalk.i64_in _ (by omega)
  go_region_law (refine step_copy_wide rfl (.tmp 50) (.tmp 53) _ _ rfl 60 27 Tryz.underlying22 SZ.out w.heap.size ((i + 1) * 27) (n - i) (c' - (i + 1)) ⟨g, i * 27, none⟩ (n - i) (c - i) (by kernel_rfl) (by kernel_rfl) cur2 _ K1.out ((cellsBk l).drop (i * 27)) (n - i) M1.out M2.out M3.out M4.out M5.out ?_; intro w3 hw3; have HW3 := Lib.hid hw3; clear hw3)
  clear a1 a2 a3 a4 a5 a6 a7
  go_wp2_with fail
  go_ret
  have hln := insAt_length l i x
  rw [← HN.out] at hln
  refine ⟨some ⟨w.heap.size, 0, none⟩, c', by rw [hln]; rfl, ?_, ?_⟩
  · rw [hln]
    refine ⟨by rw [cellsBk_length, hln], .inr ⟨w.heap.size, c', (splice cur2.toList ((i + 1) * 27) ((cellsBk l).drop (i * 27))).toArray, rfl, hbase, ?_, hc1, C2.out, ?_, ?_⟩⟩
    · rw [HW3.out]; exact setRow_heap w2.drew w.heap.size cur2 _ _ _ K1.out
    · rw [List.size_toArray, length_splice _ _ _ (by rw [Array.length_toList]; exact M4.out), Array.length_toList, HS2.out]
    · rw [insAt_cells l i x (by rw [← HN.out]; omega), HC2.out]
      have := ins_new cur1.toList (cellsBk l) x.arr.toList (i * 27) 27 C4.out (by rw [HCL.out]; omega) (by rw [Array.length_toList, Bk.arr_size]) (by rw [HCL.out, Array.length_toList, C3.out]; omega)
      rw [HCL.out] at this
      rw [show (n + 1) * 27 = n * 27 + 27 by omega, show (i + 1) * 27 = i * 27 + 27 by omega]
      exact this
  · rw [HW3.out]
    have hb := KB.out
    exact ⟨hb.os, hb.tape, hb.output, by have := hb.size; simpa [World.setRow] using this, fun k hk hkg => (setRow_other w2.drew w.heap.size k _ (by omega)).trans (hb.block k hk)⟩

theorem insAt_end (l : List Bk) (x : Bk) : cellsBk (insAt l l.length x) = cellsBk l ++ x.arr.toList := by
  rw [insAt_cells l l.length x (Nat.le_refl _), List.take_of_length_le (by rw [cellsBk_length]; omega), List.drop_of_length_le (by rw [cellsBk_length]; omega), List.append_nil]
set_option maxHeartbeats 400000 in
set_option maxRecDepth 100000 in
theorem insert_end (l : List Bk) (x : Bk) (base c : Nat) (A : Option Addr) (w : World) (hbase : base ≤ w.heap.size) (hown : w.ownsRow base 60 27 (.slice A l.length c) l.length (cellsBk l)) (hlc : l.length ≤ c) (g2 : Nat) (h2 : w.heap[g2]? = some (.cells x.arr 60 (0, 0))) (hn : l.length ≤ 100000) :
    Calls Tryz.prog 77 #[.slice A l.length c, .int .i64 l.length, .slice (some ⟨g2, 0, none⟩) 1 1] w (OwnBk base w (Value.slice A l.length c).ownBlock (insAt l l.length x)) := by
  have hln := insAt_length l l.length x
  have hce := insAt_end l x
  obtain ⟨n, hnl⟩ : ∃ n, n = l.length := ⟨_, rfl⟩
  rw [← hnl] at hln hce hn hlc hown ⊢
  obtain ⟨m, hm⟩ : ∃ m, m = insAt l n x := ⟨_, rfl⟩
  rw [← hm] at hln hce ⊢
  have HLN := Lib.hid hln
  have HCE := Lib.hid hce
  have HO := Lib.hid hown
  obtain ⟨i0, hi0, hz0, hz1, hzb⟩ := infoBk
  have HI0 := Lib.hid hi0
  have HZ0 := Lib.hid hz0
  have HZ1 := Lib.hid hz1
  have HZ2 := Lib.hid (show (Value.agg noBk.arr).cells.size = 27 by simp [Value.cells, Bk.arr_size])
  have L5 := Lib.hid (show n + 1 ≤ maxLen by unfold maxLen; omega)
  have L6 := Lib.hid (show (n + 1) * i0.bytes ≤ 140737488355328 from Nat.le_trans (Nat.mul_le_mul (show n + 1 ≤ 100001 by omega) hzb) (by omega))
  have HR := Lib.hid (show Rd w (g2 + 1) 27 (some ⟨g2, 0, none⟩) 1 x.arr.toList from ⟨by rw [Array.length_toList, Bk.arr_size], fun _ => ⟨_, rfl, Nat.lt_succ_self _, src_row w g2 x.arr _ _ h2⟩⟩)
  have N5 := Lib.hid (show ∀ v ∈ x.arr.toList, v.oneCell' = true from fun v hv => Array.all_eq_true_iff_forall_mem.1 (Bk.arr_one x) v (by simpa using hv))
  clear hnl hm hln hce hown hi0 hz0 hz1 h2
  have hnn : ((n : Int) == (n : Int)) = true := by simp
  go_enter Tryz.func77, Tryz.ntmps77
  go_wp2_with (refine wpList_app_rd _ rfl (.tmp 23) (.tmp 24) _ rfl base 60 i0 (.agg noBk.arr) 27 i0.bytes Tryz.underlying22 HI0.out HZ0.out HZ1.out rfl HZ2.out (Nat.succ_pos _) (.slice A n c) n (cellsBk l) rfl HO.out (g2 + 1) (some ⟨g2, 0, none⟩) 1 1 x.arr.toList rfl HR.out N5.out L5.out L6.out hbase ?_; intro v1 w1 hown1 hg1 hat1; have O1 := Lib.hid hown1; have GR := Lib.hid hg1; clear hown1 hg1 hat1)
  all_goals
    go_ret
    obtain ⟨A', c', rfl, _, _⟩ := own_form O1.out
    refine ⟨A', c', by rw [HLN.out]; rfl, ?_, by have := GR.out; cases A <;> exact this⟩
    rw [HLN.out, HCE.out]
    exact O1.out
def InsArgs (base : Nat) (w : World) (A : Option Addr) (c : Nat) (l : List Bk) (g2 : Nat) (x : Bk) : Prop :=
  w.ownsRow base 60 27 (.slice A l.length c) l.length (cellsBk l) ∧ w.heap[g2]? = some (.cells x.arr 60 (0, 0)) ∧ (∀ g, A = some g → g.block ≠ g2) ∧ base ≤ w.heap.size ∧ l.length ≤ 100000
theorem insert_any (l : List Bk) (x : Bk) (i : Nat) (hi : i ≤ l.length) (base c g2 : Nat) (A : Option Addr) (w : World) (h : InsArgs base w A c l g2 x) :
    Calls Tryz.prog 77 #[.slice A l.length c, .int .i64 i, .slice (some ⟨g2, 0, none⟩) 1 1] w (OwnBk base w (Value.slice A l.length c).ownBlock (insAt l i x)) := by
  obtain ⟨hown, h2, hne, hb, hn⟩ := h
  have hown' := hown
  rcases hown.2 with ⟨hv, h0⟩ | ⟨g, cap, cur, hv, hbg, hg, hnc, hcm, hcs, htake⟩
  · injection hv with e1 e2 e3
    subst e1 e3
    obtain rfl : i = l.length := by omega
    exact insert_end l x base 0 none w hb hown (by omega) g2 h2 hn
  · injection hv with e1 e2 e3
    subst e1 e3
    rcases Nat.lt_or_ge i l.length with h1 | h1
    · rcases Nat.lt_or_ge c (l.length + 1) with h3 | h3
      · exact insert_new l x i h1 base g c cur w hb hg h3 hnc hcs htake g2 h2 hn
      · exact insert_place l x i h1 base g c cur w hbg hg h3 hcm hcs htake g2 h2 (hne _ rfl) hn
    · obtain rfl : i = l.length := by omega
      exact insert_end l x base c _ w hb hown hnc g2 h2 hn
end Go.Proofs.YtmpemeemlhmaaaaGreat

namespace Go.Proofs.YtmpemeemlhmaaaaGreat
open Go.RowKit

def delAt (l : List Bk) (i : Nat) : List Bk := l.take i ++ l.drop (i + 1)
theorem delAt_length (l : List Bk) (i : Nat) (hi : i < l.length) : (delAt l i).length = l.length - 1 := by
  simp [delAt]; omega
theorem delAt_cells (l : List Bk) (i : Nat) (hi : i < l.length) : cellsBk (delAt l i) = (cellsBk l).take (i * 27) ++ (cellsBk l).drop (i * 27 + 27) := by
  rw [delAt, cellsBk_append, cellsBk_take l i (by omega), cellsBk_drop l (i + 1) (by omega), show (i + 1) * 27 = i * 27 + 27 by omega]
set_option maxHeartbeats 400000 in
set_option maxRecDepth 100000 in
theorem delete_any (l : List Bk) (i : Nat) (hi : i < l.length) (base g c : Nat) (cur : Array Value) (w : World) (hb : base ≤ g) (hg : w.heap[g]? = some (.cells cur 60 (0, 0))) (hc : l.length ≤ c) (hcm : c ≤ maxLen) (hcs : cur.size = c * 27)
    (ht : cur.toList.take (l.length * 27) = cellsBk l) (hn : l.length ≤ 100000) :
    Calls Tryz.prog 78 #[.slice (some ⟨g, 0, none⟩) l.length c, .int .i64 i, .int .i64 ((i : Int) + 1)] w (OwnBk base w (some g) (delAt l i)) := by
  have hln := delAt_length l i hi
  have hcl := cellsBk_length l
  unfold maxLen at hcm
  obtain ⟨n, hnl⟩ : ∃ n, n = l.length := ⟨_, rfl⟩
  rw [← hnl] at hi hc hn ht hln hcl ⊢
  have HN := Lib.hid hnl
  have HG := Lib.hid (show w.drew.heap[g]? = some (.cells cur 60 (0, 0)) from hg)
  have HT := Lib.hid ht
  have HCS := Lib.hid hcs
  have HLN := Lib.hid hln
  have HCL := Lib.hid hcl
  obtain ⟨i0, hi0, hz0, hz1, hzb⟩ := infoBk
  have HI0 := Lib.hid hi0
  have HZ0 := Lib.hid hz0
  have HZ1 := Lib.hid hz1
  have HZ2 := Lib.hid (show (Value.agg noBk.arr).cells.size = 27 by simp [Value.cells, Bk.arr_size])
  have HZ3 := Lib.hid (show (Value.agg noBk.arr).cells.all (·.oneCell') = true from Bk.arr_one noBk)
  have M2 := Lib.hid (show ((cellsBk l).drop (i * 27 + 27)).length = (n - (i + 1)) * 27 by rw [List.length_drop, hcl, Nat.sub_mul]; omega)
  have M3 := Lib.hid (show ∀ j v, ((cellsBk l).drop (i * 27 + 27))[j]? = some v → w.drew.cell? ((⟨g, (i + 1) * 27, none⟩ : Addr).add j) = some v from fun j v hv => by
    show w.cell? _ = _
    rw [Addr.add_mid, cell_of_row w g _ cur _ _ hg, show (i + 1) * 27 = i * 27 + 27 by omega]
    rw [List.getElem?_drop] at hv
    rw [← ht, List.getElem?_take] at hv
    split at hv
    · rw [Array.getElem?_toList] at hv; exact hv
    · cases hv)
  have M4 := Lib.hid (show i * 27 + ((cellsBk l).drop (i * 27 + 27)).length ≤ cur.size by rw [M2.out, hcs]; have := Nat.mul_le_mul_right 27 hc; have := Nat.sub_mul n (i + 1) 27; omega)
  have M5 := Lib.hid (show ∀ v ∈ (cellsBk l).drop (i * 27 + 27), v.oneCell' = true from fun v hv => cellsBk_one l v (List.mem_of_mem_drop hv))
  have M6 := Lib.hid (show i + (n - (i + 1)) ≤ c by omega)
  have EN := Lib.hid (show i + (n - (i + 1)) = n - 1 by omega)
  have M7' := Lib.hid (show c = i + 1 → Hid (∀ j v, ((cellsBk l).drop (i * 27 + 27))[j]? = some v → w.drew.cell? ((⟨g, 0, none⟩ : Addr).add j) = some v) from fun h => Lib.hid fun j v hv => by
    have hz : (cellsBk l).drop (i * 27 + 27) = [] := List.eq_nil_of_length_eq_zero (by rw [M2.out, show n - (i + 1) = 0 by omega, Nat.zero_mul])
    rw [hz] at hv; simp at hv)
  have HN1 := Lib.hid (show 1 ≤ n by omega)
  clear hnl hg ht hcs hi0 hz0 hz1 hcl hln
  have b1 : (i : Int) ≤ n := by omega
  have b2 : (i : Int) + 1 ≤ n := by omega
  go_enter Tryz.func78, Tryz.ntmps78
  go_wp2_with fail
  by_cases hci : c = i + 1
  rotate_left
  · have a4 : ((i : Int) + 1).toNat = i + 1 := by omega
    have a2 : (0 : Int) ≤ (i : Int) + 1 := by omega
    have a8 : ¬ c = i := by omega
    have a9 : (i : Int) ≤ c := by omega
    go_region_law (refine step_app_room rfl (.tmp 22) (.tmp 25) _ rfl 60 i0 27 Tryz.underlying22 HI0.out HZ1.out g i c ⟨g, (i + 1) * 27, none⟩ (n - (i + 1)) (c - (i + 1)) (by kernel_rfl) (by kernel_rfl) cur HG.out ((cellsBk l).drop (i * 27 + 27)) M2.out M3.out M5.out M6.out M4.out ?_; intro w1 hw1; rw [EN.out]; have HW1 := Lib.hid hw1; clear hw1)
    clear a2 a4 a8 a9
    obtain ⟨cur1, hc1⟩ : ∃ cur1 : Array Value, cur1 = (splice cur.toList (i * 27) ((cellsBk l).drop (i * 27 + 27))).toArray := ⟨_, rfl⟩
    have G1 := Lib.hid (show w1.heap[g]? = some (.cells cur1 60 (0, 0)) by rw [HW1.out, hc1]; exact setRow_heap w.drew g cur _ _ _ HG.out)
    have hs1 : cur1.size = c * 27 := by
      rw [hc1, List.size_toArray, length_splice _ _ _ (by rw [Array.length_toList]; exact M4.out), Array.length_toList, HCS.out]
    have E1 := Lib.hid (show 0 < n - (n - 1) by have := HN1.out; omega)
    have E2 := Lib.hid (show (n - 1) * 27 + (n - (n - 1)) * 27 ≤ cur1.size by rw [hs1, show n - (n - 1) = 1 by have := HN1.out; omega]; have := HN1.out; omega)
    have HC1 := Lib.hid hc1
    have HS1 := Lib.hid hs1
    clear hc1 hs1
    go_wp2_with (refine wpList_clear_row rfl (.tmp 31) _ rfl 60 i0 (.agg noBk.arr) 27 Tryz.underlying22 HI0.out HZ0.out HZ2.out HZ3.out g ((n - 1) * 27) (n - (n - 1)) (c - (n - 1)) rfl E1.out cur1 _ G1.out E2.out ?_; intro w2 zs hzs hw2; have HW2 := Lib.hid hw2; have HZS := Lib.hid hzs; clear hw2 hzs)
    go_ret
    refine ⟨some ⟨g, 0, none⟩, c, by rw [HLN.out]; rfl, ?_, ?_⟩
    · rw [HLN.out]
      refine ⟨by rw [cellsBk_length, HLN.out], .inr ⟨g, c, (splice cur1.toList ((n - 1) * 27) zs).toArray, rfl, hb, ?_, by omega, by unfold maxLen; omega, ?_, ?_⟩⟩
      · rw [HW2.out]; exact setRow_heap w1 g cur1 _ _ _ G1.out
      · rw [List.size_toArray, length_splice _ _ _ (by rw [Array.length_toList]; have h1 := HZS.out; have h2 := E2.out; first | (rw [h1]; exact h2) | (simp only [List.size_toArray, h1]; exact h2)), Array.length_toList, HS1.out]
      · rw [delAt_cells l i (by rw [← HN.out]; exact hi)]
        have h1 := del_place cur.toList (cellsBk l) (i * 27) 27 (by rw [HCL.out]; exact HT.out) (by rw [HCL.out]; omega)
        have hcu : cur1.toList = splice cur.toList (i * 27) ((cellsBk l).drop (i * 27 + 27)) := by rw [HC1.out]
        rw [HCL.out, show n * 27 - 27 = (n - 1) * 27 by omega, ← hcu] at h1
        show List.take ((n - 1) * 27) (splice cur1.toList ((n - 1) * 27) zs) = _
        rw [splice, List.take_append_of_le_length (by rw [List.length_take, Array.length_toList, HS1.out]; omega), List.take_take, Nat.min_self]
        exact h1
    · rw [HW2.out]
      have hG : w.grownBy w1 (some g) := by rw [HW1.out]; exact ⟨rfl, rfl, rfl, by simp [World.setRow], fun k hk hkg => setRow_other w.drew g k _ (fun e => hkg (by rw [e]))⟩
      refine gb_trans hG ⟨rfl, rfl, rfl, by simp [World.setRow], fun k hk hkg => setRow_other w1 g k _ (fun e => hkg (by rw [e]))⟩
  · have M3 := M7'.out hci
    have HCI := Lib.hid hci
    have a0 : (c = i + 1) = True := by simpa using hci
    clear hci
    have a4 : ((i : Int) + 1).toNat = i + 1 := by omega
    have a2 : (0 : Int) ≤ (i : Int) + 1 := by omega
    have a8 : ¬ c = i := by have := HCI.out; omega
    have a9 : (i : Int) ≤ c := by omega
    go_region_law (refine step_app_room rfl (.tmp 22) (.tmp 25) _ rfl 60 i0 27 Tryz.underlying22 HI0.out HZ1.out g i c ⟨g, 0, none⟩ (n - (i + 1)) (c - (i + 1)) (by kernel_rfl) (by kernel_rfl) cur HG.out ((cellsBk l).drop (i * 27 + 27)) M2.out M3.out M5.out M6.out M4.out ?_; intro w1 hw1; rw [EN.out]; have HW1 := Lib.hid hw1; clear hw1)
    clear a2 a4 a8 a9
    obtain ⟨cur1, hc1⟩ : ∃ cur1 : Array Value, cur1 = (splice cur.toList (i * 27) ((cellsBk l).drop (i * 27 + 27))).toArray := ⟨_, rfl⟩
    have G1 := Lib.hid (show w1.heap[g]? = some (.cells cur1 60 (0, 0)) by rw [HW1.out, hc1]; exact setRow_heap w.drew g cur _ _ _ HG.out)
    have hs1 : cur1.size = c * 27 := by
      rw [hc1, List.size_toArray, length_splice _ _ _ (by rw [Array.length_toList]; exact M4.out), Array.length_toList, HCS.out]
    have E1 := Lib.hid (show 0 < n - (n - 1) by have := HN1.out; omega)
    have E2 := Lib.hid (show (n - 1) * 27 + (n - (n - 1)) * 27 ≤ cur1.size by rw [hs1, show n - (n - 1) = 1 by have := HN1.out; omega]; have := HN1.out; omega)
    have HC1 := Lib.hid hc1
    have HS1 := Lib.hid hs1
    clear hc1 hs1
    go_wp2_with (refine wpList_clear_row rfl (.tmp 31) _ rfl 60 i0 (.agg noBk.arr) 27 Tryz.underlying22 HI0.out HZ0.out HZ2.out HZ3.out g ((n - 1) * 27) (n - (n - 1)) (c - (n - 1)) rfl E1.out cur1 _ G1.out E2.out ?_; intro w2 zs hzs hw2; have HW2 := Lib.hid hw2; have HZS := Lib.hid hzs; clear hw2 hzs)
    go_ret
    refine ⟨some ⟨g, 0, none⟩, c, by rw [HLN.out]; rfl, ?_, ?_⟩
    · rw [HLN.out]
      refine ⟨by rw [cellsBk_length, HLN.out], .inr ⟨g, c, (splice cur1.toList ((n - 1) * 27) zs).toArray, rfl, hb, ?_, by omega, by unfold maxLen; omega, ?_, ?_⟩⟩
      · rw [HW2.out]; exact setRow_heap w1 g cur1 _ _ _ G1.out
      · rw [List.size_toArray, length_splice _ _ _ (by rw [Array.length_toList]; have h1 := HZS.out; have h2 := E2.out; first | (rw [h1]; exact h2) | (simp only [List.size_toArray, h1]; exact h2)), Array.length_toList, HS1.out]
      · rw [delAt_cells l i (by rw [← HN.out]; exact hi)]
        have h1 := del_place cur.toList (cellsBk l) (i * 27) 27 (by rw [HCL.out]; exact HT.out) (by rw [HCL.out]; omega)
        have hcu : cur1.toList = splice cur.toList (i * 27) ((cellsBk l).drop (i * 27 + 27)) := by rw [HC1.out]
        rw [HCL.out, show n * 27 - 27 = (n - 1) * 27 by omega, ← hcu] at h1
        show List.take ((n - 1) * 27) (splice cur1.toList ((n - 1) * 27) zs) = _
        rw [splice, List.take_append_of_le_length (by rw [List.length_take, Array.length_toList, HS1.out]; omega), List.take_take, Nat.min_self]
        exact h1
    · rw [HW2.out]
      have hG : w.grownBy w1 (some g) := by rw [HW1.out]; exact ⟨rfl, rfl, rfl, by simp [World.setRow], fun k hk hkg => setRow_other w.drew g k _ (fun e => hkg (by rw [e]))⟩
      refine gb_trans hG ⟨rfl, rfl, rfl, by simp [World.setRow], fun k hk hkg => setRow_other w1 g k _ (fun e => hkg (by rw [e]))⟩
end Go.Proofs.YtmpemeemlhmaaaaGreat

namespace Go.Proofs.YtmpemeemlhmaaaaGreat
open Go.RowKit

/-- clone, nil or not -/
def CloneP (w : World) (l : List Bk) (e : Ending) (w' : World) : Prop :=
  ∃ A c, e = .returned (.slice A l.length c) ∧ w'.ownsRow w.heap.size 60 27 (.slice A l.length c) l.length (cellsBk l) ∧ Below w.heap.size w w'
theorem clone_all (l : List Bk) (A : Option Addr) (c : Nat) (w : World) (hR : RdK w w.heap.size A l.length l) (hn : l.length ≤ 100000) :
    Calls Tryz.prog 73 #[.slice A l.length c] w (CloneP w l) := by
  cases A with
  | some a => exact cloneBk_any l a c w hR (by omega)
  | none =>
    have h0 : l.length = 0 := by
      rcases Nat.eq_zero_or_pos l.length with h0 | h0
      · exact h0
      · obtain ⟨a, ha, _⟩ := hR.2.1.2 h0; cases ha
    have hl : l = [] := List.eq_nil_of_length_eq_zero h0
    subst hl
    have hnil : ∀ W : World, (binOp .eql 22 (.slice none 0 c) (.slice none 0 0)).run Tryz.prog W = .ok (.bool true) W := fun W => by
      simp only [binOp]
      simp [run_equal_slice_nil, Tryz.underlying22]
    have fin : CloneP w [] (.returned (.slice none 0 0)) w := ⟨none, 0, rfl, World.ownsRow_nil _ _ _ _, Below.refl _ _⟩
    have FIN := Lib.hid fin
    clear fin
    clear hR
    simp only [List.length_nil]
    go_enter Tryz.func73, Tryz.ntmps73
    go_wp2
    go_ret
    exact FIN.out
theorem own_reads {w : World} {base : Nat} {l : List Bk} {A : Option Addr} {c : Nat} (h : w.ownsRow base 60 27 (.slice A l.length c) l.length (cellsBk l)) : RdK w w.heap.size A l.length l :=
  ⟨rfl, Rd.of_own h, fun a ha _ => by
    rcases h.2 with ⟨hv, h0⟩ | ⟨g, cap, cur, hv, _⟩
    · injection hv with e1 _ _
      rw [e1] at ha; cases ha
    · injection hv with e1 _ _
      rw [e1] at ha
      injection ha with ha
      rw [← ha]⟩
theorem cellsBk_ext (l : List Bk) (k : Nat) (hk : k < l.length) (y : Bk) (j : Nat) (hj : j < 27) (u : Value) (h : y.arr = (l.getD k noBk).arr.setIfInBounds j u) : (cellsBk l).set (k * 27 + j) u = cellsBk (l.set k y) := by
  have hs := Bk.arr_size (l.getD k noBk)
  have hlen := cellsBk_length l
  have hlen2 := cellsBk_length (l.set k y)
  rw [List.length_set] at hlen2
  apply List.ext_getElem?
  intro i
  rcases Nat.lt_or_ge i (l.length * 27) with h1 | h1
  · have e1 : i = i / 27 * 27 + i % 27 := by omega
    have h2 : i / 27 < l.length := by omega
    have h3 : i % 27 < 27 := Nat.mod_lt _ (by omega)
    have g1 := cellsBk_get l (i / 27) (i % 27) h2 h3
    have g2 := cellsBk_get (l.set k y) (i / 27) (i % 27) (by rw [List.length_set]; exact h2) h3
    rw [← e1] at g1 g2
    rw [g2, List.getElem?_set, hlen]
    by_cases h4 : i / 27 = k
    · have e2 : (l.set k y).getD (i / 27) noBk = y := by
        rw [List.getD_eq_getElem?_getD, h4, List.getElem?_set_self hk]; rfl
      rw [e2, h, Array.getElem?_setIfInBounds, hs]
      by_cases h5 : j = i % 27
      · have : k * 27 + j = i := by omega
        simp [h5, h3]
        rw [if_pos (by omega), if_pos (by omega)]
      · have : ¬ k * 27 + j = i := by omega
        rw [if_neg this, if_neg h5, g1, h4]
    · have e2 : (l.set k y).getD (i / 27) noBk = l.getD (i / 27) noBk := by
        rw [List.getD_eq_getElem?_getD, List.getD_eq_getElem?_getD, List.getElem?_set_ne (fun e => h4 e.symm)]
      have : ¬ k * 27 + j = i := by omega
      rw [if_neg this, e2, g1]
  · rw [List.getElem?_eq_none (by rw [List.length_set, hlen]; exact h1), List.getElem?_eq_none (by rw [hlen2]; exact h1)]
theorem why_ok {v : Int} {l : List Bk} {o : Opr} (h : whyNot v l o = 0) : 1 ≤ o.kind ∧ o.kind ≤ 5 ∧ v < 1099511627776 ∧ (o.kind = 1 → o.bk.fair = true ∧ hasN l o.bk.name = false ∧ l.length < 1024) ∧ (o.kind = 3 → wOk o.w = true) ∧ (o.kind ≠ 1 → hasN l o.name = true) := by
  unfold whyNot at h
  repeat' split at h
  all_goals first | (exact absurd h (by decide)) | skip
  rename_i h1 h2 h3 h4 h5 h6 h7 h8 h9 h10
  refine ⟨by omega, by omega, by omega, fun hk => ⟨?_, ?_, ?_⟩, fun hk => ?_, fun hk => ?_⟩
  · simpa [hk] using h3
  · simpa [hk, Opr.who] using h5
  · simp [hk] at h6; omega
  · simpa [hk] using h4
  · simpa [hk, Opr.who] using h7
end Go.Proofs.YtmpemeemlhmaaaaGreat

namespace Go.Proofs.YtmpemeemlhmaaaaGreat
open Go.RowKit

/-- the backends behind what is done -/
def doneTo (l : List Bk) (o : Opr) : List Bk :=
  if o.kind = 1 then insAt l (lowN l o.bk.name) (o.bk.toW (wPlain o.bk.w))
  else if o.kind = 2 then delAt l (lowN l o.name)
  else if o.kind = 3 then l.set (lowN l o.name) ((gotN l o.name).toW (wPlain o.w))
  else l.set (lowN l o.name) ((gotN l o.name).toD (o.kind == 4))
/-- a pool is answered: it reads as l in memory of the call's own -/
def PoolP (w : World) (v : Int) (l : List Bk) (er : Int) (e : Ending) (w' : World) : Prop :=
  ∃ A c, e = .returned (.tuple #[.agg #[.int .i64 v, .slice A l.length c], .int .i64 er]) ∧ w'.ownsRow w.heap.size 60 27 (.slice A l.length c) l.length (cellsBk l) ∧ Below w.heap.size w w'

theorem ret_pool {fn : Func} {p u : Tmp} (h : fn.results = #[.cell p 24, .tmp u]) (tmps : Array Value) (W : World) (b o : Nat) (hp : tmps.getD p undef = .pointer (some ⟨b, o, none⟩)) (hh : Has W b o 2) :
    (results fn tmps).run Tryz.prog W = .ok (.tuple #[.agg (cellsAt W b o 2), tmps.getD u undef]) W := by
  have hl := run_loadAt_has W b o 2 _ _ Tryz.underlying24 rfl (by kernel_rfl) hh
  simp only [Instr.loadAt, Instr.sureAddr, Sem.run_bind, Sem.run_pure, Result.andThen_ok] at hl
  rw [results_cell_tmp h, hp]
  simp [asAddr, Result.andThen, hl]
set_option maxHeartbeats 400000 in
set_option maxRecDepth 100000 in
theorem do_not (l : List Bk) (hs : Srt l) (v : Int) (o : Opr) (hf : o.bk.fine) (hw : o.w < 18446744073709551616) (hwhy : whyNot v l o ≠ 0) (A : Option Addr) (c : Nat) (w : World) (hR : RdK w w.heap.size A l.length l) (hn : l.length ≤ 100000) :
    Calls Tryz.prog 27 #[.agg #[.int .i64 v, .slice A l.length c], .agg o.arr] w (PoolP w v l (whyNot v l o)) := by
  have HS := Lib.hid hs
  have HR1 := Lib.hid (fun ob ob' ob2 => (((hR.alloc (Nat.le_refl _) ob).alloc (by simp) ob').alloc (by simp; omega) ob2).more (B' := (((w.alloc ob).alloc ob').alloc ob2).heap.size) (by simp; omega))
  have HB0 := Lib.hid (fun ob ob' ob2 => ((((Below.refl w.heap.size w).alloc (Nat.le_refl _) ob).alloc (by simp) ob').alloc (by simp; omega) ob2 : Below w.heap.size w (((w.alloc ob).alloc ob').alloc ob2)))
  obtain ⟨K, hK⟩ : ∃ K, whyNot v l o = K := ⟨_, rfl⟩
  have hwy := fun A c W (hR : RdK W W.heap.size A l.length l) => why_any l hs v o hf hw A c W hR (by omega)
  rw [hK] at hwhy hwy ⊢
  have HWY := Lib.hid hwy
  clear hR hs hwy hK
  have hk0 : (K != 0) = true := by simpa using hwhy
  clear hwhy
  go_enter Tryz.func27, Tryz.ntmps27
  go_wp2_with fail
  refine (clone_all l A c _ (HR1.out _ _ _) hn).mono ?_
  rintro e w1 ⟨A1, c1, rfl, ho1, hb1⟩
  have b0 := (((Box.new w _ _).alloc _).alloc _).below hb1 (by simp; omega)
  have b1 := ((Box.new1 w _ _ _).alloc _).below hb1 (by simp)
  have b2 := (Box.new2 w _ _ _ _).below hb1 (by simp)
  have hz1 : w.heap.size + 2 < w1.heap.size := b2.lt
  have O1 := Lib.hid (own_less ho1 (show w.heap.size + 3 ≤ _ by simp))
  have HB1 := Lib.hid ((HB0.out _ _ _).trans (hb1.mono (by simp; omega)))
  clear ho1 hb1
  obtain ⟨x1, x2, x3, x4⟩ := b0.facts
  obtain ⟨y1, y2, y3, y4⟩ := b1.facts
  have B0 := Lib.hid b0
  have B1 := Lib.hid b1
  have B2 := Lib.hid b2
  clear b0 b1 b2
  go_wp2_with fail
  refine (HWY.out A1 c1 _ (own_reads (own_set O1.out (by simp) _))).mono ?_
  rintro e w2 ⟨rfl, hb2⟩
  have hsz : (w1.setCell ⟨w.heap.size, 1, none⟩ (Value.slice A1 l.length c1)).heap.size = w1.heap.size := by simp [World.setCell]
  have b0 := (B0.out.set_same 1 (Value.slice A1 l.length c1)).below hb2 (by rw [hsz]; omega)
  have b2 := (B2.out.set_other ⟨w.heap.size, 1, none⟩ (Value.slice A1 l.length c1) (by simp)).below hb2 (by rw [hsz]; omega)
  have O2 := Lib.hid (own_below (own_set O1.out (by simp) _) hb2)
  have HB2 := Lib.hid ((HB1.out.setCell (Nat.le_refl _) _).trans (hb2.mono (by rw [hsz]; omega)))
  clear hb2 hsz x1 x2 x3 x4 y1 y2 y3 y4
  obtain ⟨x1, x2, x3, x4⟩ := b0.facts
  obtain ⟨y1, y2, y3, y4⟩ := b2.facts
  have B0 := Lib.hid b0
  have B2 := Lib.hid b2
  clear b0 b2
  go_wp2_with fail
  have b2 := (B2.out.set_same 0 (.int .i64 v)).set_same 1 (.slice A1 l.length c1)
  obtain ⟨z1, z2, z3, z4⟩ := b2.facts
  have hZ := z3 0 2 (Nat.le_refl _)
  refine bodyPost_ret (ret_pool rfl _ _ _ _ rfl (by rw [hZ]; trivial)) rfl ⟨A1, c1, ?_, own_less (own_set (own_set O2.out (by simp) _) (by simp) _) (by omega), (HB2.out.setCell (show w.heap.size ≤ w.heap.size + 2 by omega) _).setCell (show w.heap.size ≤ w.heap.size + 2 by omega) _⟩
  rw [z4 0 2 (Nat.le_refl _)]
  rfl
end Go.Proofs.YtmpemeemlhmaaaaGreat

namespace Go.Proofs.YtmpemeemlhmaaaaGreat
open Go.RowKit

theorem lowN_le (l : List Bk) (s : List UInt8) : lowN l s ≤ l.length := by
  unfold lowN
  exact (List.takeWhile_sublist _).length_le
set_option maxHeartbeats 400000 in
set_option maxRecDepth 100000 in
theorem do_add (l : List Bk) (hs : Srt l) (v : Int) (hv : -9223372036854775808 ≤ v ∧ v < 9223372036854775807) (o : Opr) (hf : o.bk.fine) (hw : o.w < 18446744073709551616) (hwhy : whyNot v l o = 0) (h1 : o.kind = 1) (A : Option Addr) (c : Nat) (w : World) (hR : RdK w w.heap.size A l.length l) (hn : l.length ≤ 100000) :
    Calls Tryz.prog 27 #[.agg #[.int .i64 v, .slice A l.length c], .agg o.arr] w (PoolP w (v + 1) (insAt l (lowN l o.bk.name) (o.bk.toW (wPlain o.bk.w))) 0) := by
  have HS := Lib.hid hs
  have HR1 := Lib.hid (fun ob ob' ob2 => (((hR.alloc (Nat.le_refl _) ob).alloc (by simp) ob').alloc (by simp; omega) ob2).more (B' := (((w.alloc ob).alloc ob').alloc ob2).heap.size) (by simp; omega))
  have HB0 := Lib.hid (fun ob ob' ob2 => ((((Below.refl w.heap.size w).alloc (Nat.le_refl _) ob).alloc (by simp) ob').alloc (by simp; omega) ob2 : Below w.heap.size w (((w.alloc ob).alloc ob').alloc ob2)))
  have hwy := fun A c W (hR : RdK W W.heap.size A l.length l) => why_any l hs v o hf hw A c W hR (by omega)
  rw [hwhy] at hwy
  have HWY := Lib.hid hwy
  clear hR hs hwy hwhy
  obtain ⟨hv1, hv2⟩ := hv
  go_enter Tryz.func27, Tryz.ntmps27
  go_wp2_with fail
  refine (clone_all l A c _ (HR1.out _ _ _) hn).mono ?_
  rintro e w1 ⟨A1, c1, rfl, ho1, hb1⟩
  have b0 := (((Box.new w _ _).alloc _).alloc _).below hb1 (by simp; omega)
  have b1 := ((Box.new1 w _ _ _).alloc _).below hb1 (by simp)
  have b2 := (Box.new2 w _ _ _ _).below hb1 (by simp)
  have hz1 : w.heap.size + 2 < w1.heap.size := b2.lt
  have O1 := Lib.hid (own_less ho1 (show w.heap.size + 3 ≤ _ by simp))
  have HB1 := Lib.hid ((HB0.out _ _ _).trans (hb1.mono (by simp; omega)))
  clear ho1 hb1
  obtain ⟨x1, x2, x3, x4⟩ := b0.facts
  obtain ⟨y1, y2, y3, y4⟩ := b1.facts
  have B0 := Lib.hid b0
  have B1 := Lib.hid b1
  have B2 := Lib.hid b2
  clear b0 b1 b2
  go_wp2_with fail
  refine (HWY.out A1 c1 _ (own_reads (own_set O1.out (by simp) _))).mono ?_
  rintro e w2 ⟨rfl, hb2⟩
  have hsz : (w1.setCell ⟨w.heap.size, 1, none⟩ (Value.slice A1 l.length c1)).heap.size = w1.heap.size := by simp [World.setCell]
  have b0 := (B0.out.set_same 1 (Value.slice A1 l.length c1)).below hb2 (by rw [hsz]; omega)
  have b1 := (B1.out.set_other ⟨w.heap.size, 1, none⟩ (Value.slice A1 l.length c1) (by simp)).below hb2 (by rw [hsz]; omega)
  have b2 := (B2.out.set_other ⟨w.heap.size, 1, none⟩ (Value.slice A1 l.length c1) (by simp)).below hb2 (by rw [hsz]; omega)
  have O2 := Lib.hid (own_below (own_set O1.out (by simp) _) hb2)
  have HB2 := Lib.hid ((HB1.out.setCell (Nat.le_refl _) _).trans (hb2.mono (by rw [hsz]; omega)))
  have hz2 : w.heap.size + 2 < w2.heap.size := b2.lt
  have hz21 : w.heap.size + 1 < w2.heap.size := b1.lt
  have hz20 : w.heap.size < w2.heap.size := b0.lt
  clear hb2 hsz x1 x2 x3 x4 y1 y2 y3 y4 hz1 HB1 O1 HR1 HWY
  obtain ⟨x1, x2, x3, x4⟩ := b0.facts
  obtain ⟨y1, y2, y3, y4⟩ := b1.facts
  have B0 := Lib.hid b0
  have B1 := Lib.hid b1
  have B2 := Lib.hid b2
  clear b0 b1 b2
  go_wp2_with fail
  refine (plain_any _ _).mono ?_
  rintro e w' ⟨rfl, rfl⟩
  go_wp2_with fail
  refine (at_any l HS.out o.bk.name (v + 1) A1 c1 _ (own_reads (own_alloc (own_set O2.out (by simp) _) _)) (by omega)).mono ?_
  rintro e w3 ⟨rfl, hb3⟩
  have hsz : ((w2.setCell ⟨w.heap.size, 0, none⟩ (Value.int .i64 (v + 1))).alloc (.cells (o.bk.toW (wPlain o.bk.w)).arr 60)).heap.size = w2.heap.size + 1 := by simp [World.setCell]
  have b0 := ((B0.out.set_same 0 (Value.int .i64 (v + 1))).alloc (.cells (o.bk.toW (wPlain o.bk.w)).arr 60)).below hb3 (by rw [hsz]; omega)
  have b2 := ((B2.out.set_other ⟨w.heap.size, 0, none⟩ (Value.int .i64 (v + 1)) (by simp)).alloc (.cells (o.bk.toW (wPlain o.bk.w)).arr 60)).below hb3 (by rw [hsz]; omega)
  have b3 := (Box.new (w2.setCell ⟨w.heap.size, 0, none⟩ (Value.int .i64 (v + 1))) (o.bk.toW (wPlain o.bk.w)).arr 60).below hb3 (by simp)
  rw [show (w2.setCell ⟨w.heap.size, 0, none⟩ (Value.int .i64 (v + 1))).heap.size = w2.heap.size by simp [World.setCell]] at b3
  have O3 := Lib.hid (own_below (own_alloc (own_set O2.out (by simp) _) (.cells (o.bk.toW (wPlain o.bk.w)).arr 60)) hb3)
  have HB3 := Lib.hid (((HB2.out.setCell (Nat.le_refl _) (Value.int .i64 (v + 1))).alloc (by simp [World.setCell]; omega) (.cells (o.bk.toW (wPlain o.bk.w)).arr 60)).trans (hb3.mono (by rw [hsz]; omega)))
  have hz3 : w2.heap.size < w3.heap.size := b3.lt
  clear hb3 hsz x1 x2 x3 x4 y1 y2 y3 y4 HB2 O2
  obtain ⟨x1, x2, x3, x4⟩ := b0.facts
  obtain ⟨z1, z2, z3, z4⟩ := b3.facts
  have B0 := Lib.hid b0
  have B2 := Lib.hid b2
  have B3 := Lib.hid b3
  clear b0 b2 b3
  go_wp2_with fail
  have hli : lowN l o.bk.name ≤ l.length := lowN_le l _
  have hrow : ∀ k, (Value.slice A1 l.length c1).ownBlock = some k → w.heap.size + 3 ≤ k := fun k hk => (O3.out.lt k hk).1
  refine (insert_any l (o.bk.toW (wPlain o.bk.w)) (lowN l o.bk.name) hli (w.heap.size + 3) c1 w3.heap.size A1 _ ⟨own_alloc O3.out _, heap_alloc_new w3 _, fun g hg => ?_, by simp; omega, hn⟩).mono ?_
  · have := (O3.out.lt g.block (by rw [hg]; rfl)).2
    omega
  rintro e w4 ⟨A4, c4, rfl, ho4, hg4⟩
  have b0 := (B0.out.alloc (.cells (o.bk.toW (wPlain o.bk.w)).arr 60)).grown hg4 (fun e => by have := hrow _ e.symm; omega)
  have b2 := (B2.out.alloc (.cells (o.bk.toW (wPlain o.bk.w)).arr 60)).grown hg4 (fun e => by have := hrow _ e.symm; omega)
  have O4 := Lib.hid ho4
  have hz4 : w.heap.size + 2 < w4.heap.size := b2.lt
  have HB4 := Lib.hid ((HB3.out.alloc (by omega) (.cells (o.bk.toW (wPlain o.bk.w)).arr 60)).grown hg4 (by simp; omega) (fun k hk => by have := hrow k hk; omega))
  have hil := insAt_length l (lowN l o.bk.name) (o.bk.toW (wPlain o.bk.w))
  obtain ⟨l4, hl4⟩ : ∃ l4, l4 = insAt l (lowN l o.bk.name) (o.bk.toW (wPlain o.bk.w)) := ⟨_, rfl⟩
  rw [← hl4] at ho4 O4 ⊢
  have HL4 := Lib.hid hl4
  clear hg4 ho4 x1 x2 x3 x4 z1 z2 z3 z4 HB3 O3 hl4 hil
  obtain ⟨x1, x2, x3, x4⟩ := b0.facts
  obtain ⟨y1, y2, y3, y4⟩ := b2.facts
  have B0 := Lib.hid b0
  have B2 := Lib.hid b2
  clear b0 b2
  go_wp2_with fail
  have b2 := (B2.out.set_other ⟨w.heap.size, 1, none⟩ (.slice A4 l4.length c4) (by simp)).set_same 0 (.int .i64 (v + 1)) |>.set_same 1 (.slice A4 l4.length c4)
  obtain ⟨z1, z2, z3, z4⟩ := b2.facts
  have hl4 := HL4.out
  subst hl4
  have hZ := z3 0 2 (Nat.le_refl _)
  refine bodyPost_ret (ret_pool rfl _ _ _ _ rfl (by rw [hZ]; trivial)) rfl ⟨A4, c4, ?_, own_less (base := w.heap.size + 3) (own_set (own_set (own_set O4.out (show w.heap.size < w.heap.size + 3 by omega) _) (show w.heap.size + 2 < w.heap.size + 3 by omega) _) (show w.heap.size + 2 < w.heap.size + 3 by omega) _) (by omega), ((HB4.out.setCell (Nat.le_refl _) _).setCell (show w.heap.size ≤ w.heap.size + 2 by omega) _).setCell (show w.heap.size ≤ w.heap.size + 2 by omega) _⟩
  rw [z4 0 2 (Nat.le_refl _)]
  rfl
end Go.Proofs.YtmpemeemlhmaaaaGreat

namespace Go.Proofs.YtmpemeemlhmaaaaGreat
open Go.RowKit

theorem lowN_lt {l : List Bk} {s : List UInt8} (h : hasN l s = true) : lowN l s < l.length := by
  unfold hasN at h
  simp at h
  exact h.1
set_option maxHeartbeats 400000 in
set_option maxRecDepth 100000 in
theorem do_del (l : List Bk) (hs : Srt l) (v : Int) (hv : -9223372036854775808 ≤ v ∧ v < 9223372036854775807) (o : Opr) (hf : o.bk.fine) (hw : o.w < 18446744073709551616) (hwhy : whyNot v l o = 0) (h1 : o.kind = 2) (hn0 : hasN l o.name = true) (A : Option Addr) (c : Nat) (w : World) (hR : RdK w w.heap.size A l.length l) (hn : l.length ≤ 100000) :
    Calls Tryz.prog 27 #[.agg #[.int .i64 v, .slice A l.length c], .agg o.arr] w (PoolP w (v + 1) (delAt l (lowN l o.name)) 0) := by
  have HS := Lib.hid hs
  have HR1 := Lib.hid (fun ob ob' ob2 => (((hR.alloc (Nat.le_refl _) ob).alloc (by simp) ob').alloc (by simp; omega) ob2).more (B' := (((w.alloc ob).alloc ob').alloc ob2).heap.size) (by simp; omega))
  have HB0 := Lib.hid (fun ob ob' ob2 => ((((Below.refl w.heap.size w).alloc (Nat.le_refl _) ob).alloc (by simp) ob').alloc (by simp; omega) ob2 : Below w.heap.size w (((w.alloc ob).alloc ob').alloc ob2)))
  have hwy := fun A c W (hR : RdK W W.heap.size A l.length l) => why_any l hs v o hf hw A c W hR (by omega)
  rw [hwhy] at hwy
  have HWY := Lib.hid hwy
  clear hR hs hwy hwhy
  obtain ⟨hv1, hv2⟩ := hv
  have hli := lowN_lt hn0
  have hin : ((lowN l o.name : Nat) : Int) < (l.length : Nat) := by omega
  clear hn0
  go_enter Tryz.func27, Tryz.ntmps27
  go_wp2_with fail
  refine (clone_all l A c _ (HR1.out _ _ _) hn).mono ?_
  rintro e w1 ⟨A1, c1, rfl, ho1, hb1⟩
  have b0 := (((Box.new w _ _).alloc _).alloc _).below hb1 (by simp; omega)
  have b1 := ((Box.new1 w _ _ _).alloc _).below hb1 (by simp)
  have b2 := (Box.new2 w _ _ _ _).below hb1 (by simp)
  have hz1 : w.heap.size + 2 < w1.heap.size := b2.lt
  have O1 := Lib.hid (own_less ho1 (show w.heap.size + 3 ≤ _ by simp))
  have HB1 := Lib.hid ((HB0.out _ _ _).trans (hb1.mono (by simp; omega)))
  clear ho1 hb1
  obtain ⟨x1, x2, x3, x4⟩ := b0.facts
  obtain ⟨y1, y2, y3, y4⟩ := b1.facts
  have B0 := Lib.hid b0
  have B1 := Lib.hid b1
  have B2 := Lib.hid b2
  clear b0 b1 b2
  go_wp2_with fail
  refine (HWY.out A1 c1 _ (own_reads (own_set O1.out (by simp) _))).mono ?_
  rintro e w2 ⟨rfl, hb2⟩
  have hsz : (w1.setCell ⟨w.heap.size, 1, none⟩ (Value.slice A1 l.length c1)).heap.size = w1.heap.size := by simp [World.setCell]
  have b0 := (B0.out.set_same 1 (Value.slice A1 l.length c1)).below hb2 (by rw [hsz]; omega)
  have b1 := (B1.out.set_other ⟨w.heap.size, 1, none⟩ (Value.slice A1 l.length c1) (by simp)).below hb2 (by rw [hsz]; omega)
  have b2 := (B2.out.set_other ⟨w.heap.size, 1, none⟩ (Value.slice A1 l.length c1) (by simp)).below hb2 (by rw [hsz]; omega)
  have O2 := Lib.hid (own_below (own_set O1.out (by simp) _) hb2)
  have HB2 := Lib.hid ((HB1.out.setCell (Nat.le_refl _) _).trans (hb2.mono (by rw [hsz]; omega)))
  have hz2 : w.heap.size + 2 < w2.heap.size := b2.lt
  have hz21 : w.heap.size + 1 < w2.heap.size := b1.lt
  have hz20 : w.heap.size < w2.heap.size := b0.lt
  clear hb2 hsz x1 x2 x3 x4 y1 y2 y3 y4 hz1 HB1 O1 HR1 HWY
  obtain ⟨x1, x2, x3, x4⟩ := b0.facts
  obtain ⟨y1, y2, y3, y4⟩ := b1.facts
  have B0 := Lib.hid b0
  have B1 := Lib.hid b1
  have B2 := Lib.hid b2
  clear b0 b1 b2
  go_wp2_with fail
  refine (at_any l HS.out o.name (v + 1) A1 c1 _ (own_reads (own_set O2.out (by simp) _)) (by omega)).mono ?_
  rintro e w3 ⟨rfl, hb3⟩
  have hsz : (w2.setCell ⟨w.heap.size, 0, none⟩ (Value.int .i64 (v + 1))).heap.size = w2.heap.size := by simp [World.setCell]
  have b0 := (B0.out.set_same 0 (Value.int .i64 (v + 1))).below hb3 (by rw [hsz]; omega)
  have b1 := (B1.out.set_other ⟨w.heap.size, 0, none⟩ (Value.int .i64 (v + 1)) (by simp)).below hb3 (by rw [hsz]; omega)
  have b2 := (B2.out.set_other ⟨w.heap.size, 0, none⟩ (Value.int .i64 (v + 1)) (by simp)).below hb3 (by rw [hsz]; omega)
  have ho3 := own_below (own_set O2.out (show w.heap.size < w.heap.size + 3 by omega) (Value.int .i64 (v + 1))) hb3
  have HB3 := Lib.hid ((HB2.out.setCell (Nat.le_refl _) (Value.int .i64 (v + 1))).trans (hb3.mono (by rw [hsz]; omega)))
  obtain ⟨g, hA1⟩ : ∃ g, A1 = some ⟨g, 0, none⟩ := by
    rcases ho3.2 with ⟨hv, h0⟩ | ⟨g, cap, cur, hv, _⟩
    · omega
    · injection hv with e1 _ _
      exact ⟨g, e1⟩
  subst hA1
  have hgb : w.heap.size + 3 ≤ g := (ho3.lt g rfl).1
  have hgl : g < w3.heap.size := (ho3.lt g rfl).2
  obtain ⟨bb, oo, hbo, _, hcc⟩ := (own_reads ho3).cell hli
  injection hbo with hbo
  injection hbo with e1 e2
  subst e1 e2
  have O3 := Lib.hid ho3
  have hz3 : w.heap.size < w3.heap.size := b0.lt
  have hz31 : w.heap.size + 1 < w3.heap.size := b1.lt
  have hz32 : w.heap.size + 2 < w3.heap.size := b2.lt
  clear hb3 hsz x1 x2 x3 x4 y1 y2 y3 y4 HB2 O2 ho3
  obtain ⟨x1, x2, x3, x4⟩ := b0.facts
  obtain ⟨y1, y2, y3, y4⟩ := b1.facts
  obtain ⟨u1, u2, u3, u4⟩ := b2.facts
  have B0 := Lib.hid b0
  have B2 := Lib.hid b2
  clear b0 b1 b2
  clear hcc
  go_wp2_with fail
  rcases O3.out.2 with ⟨hv, h0⟩ | ⟨g', cap, cur, hv, q2, q3, q4, q5, q6, q7⟩
  · cases hv
  injection hv with e1 e2 e3
  injection e1 with e1
  injection e1 with e1
  subst e1 e3
  refine (delete_any l (lowN l o.name) hli (w.heap.size + 3) g c1 cur _ q2 q3 q4 q5 q6 q7 hn).mono ?_
  rintro e w4 ⟨A4, c4, rfl, ho4, hg4⟩
  have b0 := B0.out.grown hg4 (fun e => by injection e with e; omega)
  have b2 := B2.out.grown hg4 (fun e => by injection e with e; omega)
  have hz4 : w.heap.size + 2 < w4.heap.size := b2.lt
  have HB4 := Lib.hid (HB3.out.grown hg4 (by omega) (fun k hk => by injection hk with hk; omega))
  obtain ⟨l4, hl4⟩ : ∃ l4, l4 = delAt l (lowN l o.name) := ⟨_, rfl⟩
  rw [← hl4] at ho4 ⊢
  have O4 := Lib.hid ho4
  have HL4 := Lib.hid hl4
  clear hg4 ho4 x1 x2 x3 x4 y1 y2 y3 y4 u1 u2 u3 u4 HB3 O3 hl4 q3 q6 q7
  obtain ⟨x1, x2, x3, x4⟩ := b0.facts
  obtain ⟨y1, y2, y3, y4⟩ := b2.facts
  have B0 := Lib.hid b0
  have B2 := Lib.hid b2
  clear b0 b2
  go_wp2_with fail
  have b2 := (B2.out.set_other ⟨w.heap.size, 1, none⟩ (.slice A4 l4.length c4) (by simp)).set_same 0 (.int .i64 (v + 1)) |>.set_same 1 (.slice A4 l4.length c4)
  obtain ⟨z1, z2, z3, z4⟩ := b2.facts
  have hl4 := HL4.out
  subst hl4
  have hZ := z3 0 2 (Nat.le_refl _)
  refine bodyPost_ret (ret_pool rfl _ _ _ _ rfl (by rw [hZ]; trivial)) rfl ⟨A4, c4, ?_, own_less (base := w.heap.size + 3) (own_set (own_set (own_set O4.out (show w.heap.size < w.heap.size + 3 by omega) _) (show w.heap.size + 2 < w.heap.size + 3 by omega) _) (show w.heap.size + 2 < w.heap.size + 3 by omega) _) (by omega), ((HB4.out.setCell (Nat.le_refl _) _).setCell (show w.heap.size ≤ w.heap.size + 2 by omega) _).setCell (show w.heap.size ≤ w.heap.size + 2 by omega) _⟩
  rw [z4 0 2 (Nat.le_refl _)]
  rfl
set_option maxHeartbeats 400000 in
set_option maxRecDepth 100000 in
theorem do_weight (l : List Bk) (hs : Srt l) (v : Int) (hv : -9223372036854775808 ≤ v ∧ v < 9223372036854775807) (o : Opr) (hf : o.bk.fine) (hw : o.w < 18446744073709551616) (hwhy : whyNot v l o = 0) (h1 : o.kind = 3) (hn0 : hasN l o.name = true) (A : Option Addr) (c : Nat) (w : World) (hR : RdK w w.heap.size A l.length l) (hn : l.length ≤ 100000) :
    Calls Tryz.prog 27 #[.agg #[.int .i64 v, .slice A l.length c], .agg o.arr] w (PoolP w (v + 1) (l.set (lowN l o.name) ((gotN l o.name).toW (wPlain o.w))) 0) := by
  have HS := Lib.hid hs
  have HR1 := Lib.hid (fun ob ob' ob2 => (((hR.alloc (Nat.le_refl _) ob).alloc (by simp) ob').alloc (by simp; omega) ob2).more (B' := (((w.alloc ob).alloc ob').alloc ob2).heap.size) (by simp; omega))
  have HB0 := Lib.hid (fun ob ob' ob2 => ((((Below.refl w.heap.size w).alloc (Nat.le_refl _) ob).alloc (by simp) ob').alloc (by simp; omega) ob2 : Below w.heap.size w (((w.alloc ob).alloc ob').alloc ob2)))
  have hwy := fun A c W (hR : RdK W W.heap.size A l.length l) => why_any l hs v o hf hw A c W hR (by omega)
  rw [hwhy] at hwy
  have HWY := Lib.hid hwy
  clear hR hs hwy hwhy
  obtain ⟨hv1, hv2⟩ := hv
  have hli := lowN_lt hn0
  have hin : ((lowN l o.name : Nat) : Int) < (l.length : Nat) := by omega
  have HG := Lib.hid (gotN_yes hn0)
  clear hn0
  go_enter Tryz.func27, Tryz.ntmps27
  go_wp2_with fail
  refine (clone_all l A c _ (HR1.out _ _ _) hn).mono ?_
  rintro e w1 ⟨A1, c1, rfl, ho1, hb1⟩
  have b0 := (((Box.new w _ _).alloc _).alloc _).below hb1 (by simp; omega)
  have b1 := ((Box.new1 w _ _ _).alloc _).below hb1 (by simp)
  have b2 := (Box.new2 w _ _ _ _).below hb1 (by simp)
  have hz1 : w.heap.size + 2 < w1.heap.size := b2.lt
  have O1 := Lib.hid (own_less ho1 (show w.heap.size + 3 ≤ _ by simp))
  have HB1 := Lib.hid ((HB0.out _ _ _).trans (hb1.mono (by simp; omega)))
  clear ho1 hb1
  obtain ⟨x1, x2, x3, x4⟩ := b0.facts
  obtain ⟨y1, y2, y3, y4⟩ := b1.facts
  have B0 := Lib.hid b0
  have B1 := Lib.hid b1
  have B2 := Lib.hid b2
  clear b0 b1 b2
  go_wp2_with fail
  refine (HWY.out A1 c1 _ (own_reads (own_set O1.out (by simp) _))).mono ?_
  rintro e w2 ⟨rfl, hb2⟩
  have hsz : (w1.setCell ⟨w.heap.size, 1, none⟩ (Value.slice A1 l.length c1)).heap.size = w1.heap.size := by simp [World.setCell]
  have b0 := (B0.out.set_same 1 (Value.slice A1 l.length c1)).below hb2 (by rw [hsz]; omega)
  have b1 := (B1.out.set_other ⟨w.heap.size, 1, none⟩ (Value.slice A1 l.length c1) (by simp)).below hb2 (by rw [hsz]; omega)
  have b2 := (B2.out.set_other ⟨w.heap.size, 1, none⟩ (Value.slice A1 l.length c1) (by simp)).below hb2 (by rw [hsz]; omega)
  have O2 := Lib.hid (own_below (own_set O1.out (by simp) _) hb2)
  have HB2 := Lib.hid ((HB1.out.setCell (Nat.le_refl _) _).trans (hb2.mono (by rw [hsz]; omega)))
  have hz2 : w.heap.size + 2 < w2.heap.size := b2.lt
  have hz21 : w.heap.size + 1 < w2.heap.size := b1.lt
  have hz20 : w.heap.size < w2.heap.size := b0.lt
  clear hb2 hsz x1 x2 x3 x4 y1 y2 y3 y4 hz1 HB1 O1 HR1 HWY
  obtain ⟨x1, x2, x3, x4⟩ := b0.facts
  obtain ⟨y1, y2, y3, y4⟩ := b1.facts
  have B0 := Lib.hid b0
  have B1 := Lib.hid b1
  have B2 := Lib.hid b2
  clear b0 b1 b2
  go_wp2_with fail
  refine (at_any l HS.out o.name (v + 1) A1 c1 _ (own_reads (own_set O2.out (by simp) _)) (by omega)).mono ?_
  rintro e w3 ⟨rfl, hb3⟩
  have hsz : (w2.setCell ⟨w.heap.size, 0, none⟩ (Value.int .i64 (v + 1))).heap.size = w2.heap.size := by simp [World.setCell]
  have b0 := (B0.out.set_same 0 (Value.int .i64 (v + 1))).below hb3 (by rw [hsz]; omega)
  have b1 := (B1.out.set_other ⟨w.heap.size, 0, none⟩ (Value.int .i64 (v + 1)) (by simp)).below hb3 (by rw [hsz]; omega)
  have b2 := (B2.out.set_other ⟨w.heap.size, 0, none⟩ (Value.int .i64 (v + 1)) (by simp)).below hb3 (by rw [hsz]; omega)
  have ho3 := own_below (own_set O2.out (show w.heap.size < w.heap.size + 3 by omega) (Value.int .i64 (v + 1))) hb3
  have HB3 := Lib.hid ((HB2.out.setCell (Nat.le_refl _) (Value.int .i64 (v + 1))).trans (hb3.mono (by rw [hsz]; omega)))
  obtain ⟨g, hA1⟩ : ∃ g, A1 = some ⟨g, 0, none⟩ := by
    rcases ho3.2 with ⟨hv, h0⟩ | ⟨g, cap, cur, hv, _⟩
    · omega
    · injection hv with e1 _ _
      exact ⟨g, e1⟩
  subst hA1
  have hgb : w.heap.size + 3 ≤ g := (ho3.lt g rfl).1
  have hgl : g < w3.heap.size := (ho3.lt g rfl).2
  obtain ⟨bb, oo, hbo, _, hcc⟩ := (own_reads ho3).cell hli
  injection hbo with hbo
  injection hbo with e1 e2
  subst e1 e2
  have O3 := Lib.hid ho3
  have hz3 : w.heap.size < w3.heap.size := b0.lt
  have hz31 : w.heap.size + 1 < w3.heap.size := b1.lt
  have hz32 : w.heap.size + 2 < w3.heap.size := b2.lt
  clear hb3 hsz x1 x2 x3 x4 y1 y2 y3 y4 HB2 O2 ho3
  have hcl : w3.cell? ⟨g, lowN l o.name * 27 + 25, none⟩ = some (.float .f64 (gotN l o.name).w) := by
    have := hcc 25 (by omega)
    rw [Nat.zero_add] at this
    rw [this, ← HG.out]
    exact Bk.arr_25 _
  have hfr : w3.frozen? ⟨g, lowN l o.name * 27 + 25, none⟩ = false := by
    rcases O3.out.2 with ⟨hv, h0⟩ | ⟨g', cap, cur, hv, q2, q3, q4, q5, q6, q7⟩
    · cases hv
    injection hv with e1 e2 e3
    injection e1 with e1
    injection e1 with e1
    subst e1
    simp [World.frozen?, q3]
  clear hcc
  obtain ⟨x1, x2, x3, x4⟩ := b0.facts
  obtain ⟨y1, y2, y3, y4⟩ := b1.facts
  obtain ⟨u1, u2, u3, u4⟩ := b2.facts
  have B0 := Lib.hid b0
  have B2 := Lib.hid b2
  clear b0 b1 b2
  go_wp2_with fail
  refine (plain_any _ _).mono ?_
  rintro e w' ⟨rfl, rfl⟩
  go_wp2_with fail
  have O4 := Lib.hid (own_put O3.out (lowN l o.name * 27 + 25) (by omega) (.float .f64 (wPlain o.w)))
  have hxs : (cellsBk l).set (lowN l o.name * 27 + 25) (.float .f64 (wPlain o.w)) = cellsBk (l.set (lowN l o.name) ((gotN l o.name).toW (wPlain o.w))) :=
    cellsBk_ext l (lowN l o.name) hli _ 25 (by omega) _ (by rw [← HG.out]; exact (Bk.set_w (gotN l o.name) _).symm)
  rw [hxs] at O4
  have b2 := ((B2.out.set_other ⟨g, lowN l o.name * 27 + 25, none⟩ (.float .f64 (wPlain o.w)) (by show g ≠ _; omega)).set_same 0 (.int .i64 (v + 1))).set_same 1 (.slice (some ⟨g, 0, none⟩) l.length c1)
  obtain ⟨z1, z2, z3, z4⟩ := b2.facts
  have hZ := z3 0 2 (Nat.le_refl _)
  have hlen : (l.set (lowN l o.name) ((gotN l o.name).toW (wPlain o.w))).length = l.length := List.length_set
  refine bodyPost_ret (ret_pool rfl _ _ _ _ rfl (by rw [hZ]; trivial)) rfl ⟨some ⟨g, 0, none⟩, c1, ?_, ?_, ((HB3.out.setCell (show w.heap.size ≤ g by omega) _).setCell (show w.heap.size ≤ w.heap.size + 2 by omega) _).setCell (show w.heap.size ≤ w.heap.size + 2 by omega) _⟩
  · rw [z4 0 2 (Nat.le_refl _), hlen]
    rfl
  · rw [hlen]
    exact own_less (base := w.heap.size + 3) (own_set (own_set O4.out (show w.heap.size + 2 < w.heap.size + 3 by omega) _) (show w.heap.size + 2 < w.heap.size + 3 by omega) _) (by omega)
set_option maxHeartbeats 400000 in
set_option maxRecDepth 100000 in
theorem do_drain (l : List Bk) (hs : Srt l) (v : Int) (hv : -9223372036854775808 ≤ v ∧ v < 9223372036854775807) (o : Opr) (hf : o.bk.fine) (hw : o.w < 18446744073709551616) (hwhy : whyNot v l o = 0) (h1 : o.kind = 4) (hn0 : hasN l o.name = true) (A : Option Addr) (c : Nat) (w : World) (hR : RdK w w.heap.size A l.length l) (hn : l.length ≤ 100000) :
    Calls Tryz.prog 27 #[.agg #[.int .i64 v, .slice A l.length c], .agg o.arr] w (PoolP w (v + 1) (l.set (lowN l o.name) ((gotN l o.name).toD true)) 0) := by
  have HS := Lib.hid hs
  have HR1 := Lib.hid (fun ob ob' ob2 => (((hR.alloc (Nat.le_refl _) ob).alloc (by simp) ob').alloc (by simp; omega) ob2).more (B' := (((w.alloc ob).alloc ob').alloc ob2).heap.size) (by simp; omega))
  have HB0 := Lib.hid (fun ob ob' ob2 => ((((Below.refl w.heap.size w).alloc (Nat.le_refl _) ob).alloc (by simp) ob').alloc (by simp; omega) ob2 : Below w.heap.size w (((w.alloc ob).alloc ob').alloc ob2)))
  have hwy := fun A c W (hR : RdK W W.heap.size A l.length l) => why_any l hs v o hf hw A c W hR (by omega)
  rw [hwhy] at hwy
  have HWY := Lib.hid hwy
  clear hR hs hwy hwhy
  obtain ⟨hv1, hv2⟩ := hv
  have hli := lowN_lt hn0
  have hin : ((lowN l o.name : Nat) : Int) < (l.length : Nat) := by omega
  have HG := Lib.hid (gotN_yes hn0)
  clear hn0
  go_enter Tryz.func27, Tryz.ntmps27
  go_wp2_with fail
  refine (clone_all l A c _ (HR1.out _ _ _) hn).mono ?_
  rintro e w1 ⟨A1, c1, rfl, ho1, hb1⟩
  have b0 := (((Box.new w _ _).alloc _).alloc _).below hb1 (by simp; omega)
  have b1 := ((Box.new1 w _ _ _).alloc _).below hb1 (by simp)
  have b2 := (Box.new2 w _ _ _ _).below hb1 (by simp)
  have hz1 : w.heap.size + 2 < w1.heap.size := b2.lt
  have O1 := Lib.hid (own_less ho1 (show w.heap.size + 3 ≤ _ by simp))
  have HB1 := Lib.hid ((HB0.out _ _ _).trans (hb1.mono (by simp; omega)))
  clear ho1 hb1
  obtain ⟨x1, x2, x3, x4⟩ := b0.facts
  obtain ⟨y1, y2, y3, y4⟩ := b1.facts
  have B0 := Lib.hid b0
  have B1 := Lib.hid b1
  have B2 := Lib.hid b2
  clear b0 b1 b2
  go_wp2_with fail
  refine (HWY.out A1 c1 _ (own_reads (own_set O1.out (by simp) _))).mono ?_
  rintro e w2 ⟨rfl, hb2⟩
  have hsz : (w1.setCell ⟨w.heap.size, 1, none⟩ (Value.slice A1 l.length c1)).heap.size = w1.heap.size := by simp [World.setCell]
  have b0 := (B0.out.set_same 1 (Value.slice A1 l.length c1)).below hb2 (by rw [hsz]; omega)
  have b1 := (B1.out.set_other ⟨w.heap.size, 1, none⟩ (Value.slice A1 l.length c1) (by simp)).below hb2 (by rw [hsz]; omega)
  have b2 := (B2.out.set_other ⟨w.heap.size, 1, none⟩ (Value.slice A1 l.length c1) (by simp)).below hb2 (by rw [hsz]; omega)
  have O2 := Lib.hid (own_below (own_set O1.out (by simp) _) hb2)
  have HB2 := Lib.hid ((HB1.out.setCell (Nat.le_refl _) _).trans (hb2.mono (by rw [hsz]; omega)))
  have hz2 : w.heap.size + 2 < w2.heap.size := b2.lt
  have hz21 : w.heap.size + 1 < w2.heap.size := b1.lt
  have hz20 : w.heap.size < w2.heap.size := b0.lt
  clear hb2 hsz x1 x2 x3 x4 y1 y2 y3 y4 hz1 HB1 O1 HR1 HWY
  obtain ⟨x1, x2, x3, x4⟩ := b0.facts
  obtain ⟨y1, y2, y3, y4⟩ := b1.facts
  have B0 := Lib.hid b0
  have B1 := Lib.hid b1
  have B2 := Lib.hid b2
  clear b0 b1 b2
  go_wp2_with fail
  refine (at_any l HS.out o.name (v + 1) A1 c1 _ (own_reads (own_set O2.out (by simp) _)) (by omega)).mono ?_
  rintro e w3 ⟨rfl, hb3⟩
  have hsz : (w2.setCell ⟨w.heap.size, 0, none⟩ (Value.int .i64 (v + 1))).heap.size = w2.heap.size := by simp [World.setCell]
  have b0 := (B0.out.set_same 0 (Value.int .i64 (v + 1))).below hb3 (by rw [hsz]; omega)
  have b1 := (B1.out.set_other ⟨w.heap.size, 0, none⟩ (Value.int .i64 (v + 1)) (by simp)).below hb3 (by rw [hsz]; omega)
  have b2 := (B2.out.set_other ⟨w.heap.size, 0, none⟩ (Value.int .i64 (v + 1)) (by simp)).below hb3 (by rw [hsz]; omega)
  have ho3 := own_below (own_set O2.out (show w.heap.size < w.heap.size + 3 by omega) (Value.int .i64 (v + 1))) hb3
  have HB3 := Lib.hid ((HB2.out.setCell (Nat.le_refl _) (Value.int .i64 (v + 1))).trans (hb3.mono (by rw [hsz]; omega)))
  obtain ⟨g, hA1⟩ : ∃ g, A1 = some ⟨g, 0, none⟩ := by
    rcases ho3.2 with ⟨hv, h0⟩ | ⟨g, cap, cur, hv, _⟩
    · omega
    · injection hv with e1 _ _
      exact ⟨g, e1⟩
  subst hA1
  have hgb : w.heap.size + 3 ≤ g := (ho3.lt g rfl).1
  have hgl : g < w3.heap.size := (ho3.lt g rfl).2
  obtain ⟨bb, oo, hbo, _, hcc⟩ := (own_reads ho3).cell hli
  injection hbo with hbo
  injection hbo with e1 e2
  subst e1 e2
  have O3 := Lib.hid ho3
  have hz3 : w.heap.size < w3.heap.size := b0.lt
  have hz31 : w.heap.size + 1 < w3.heap.size := b1.lt
  have hz32 : w.heap.size + 2 < w3.heap.size := b2.lt
  clear hb3 hsz x1 x2 x3 x4 y1 y2 y3 y4 HB2 O2 ho3
  have hcl : w3.cell? ⟨g, lowN l o.name * 27 + 26, none⟩ = some (.bool (gotN l o.name).drain) := by
    have := hcc 26 (by omega)
    rw [Nat.zero_add] at this
    rw [this, ← HG.out]
    exact Bk.arr_26 _
  have hfr : w3.frozen? ⟨g, lowN l o.name * 27 + 26, none⟩ = false := by
    rcases O3.out.2 with ⟨hv, h0⟩ | ⟨g', cap, cur, hv, q2, q3, q4, q5, q6, q7⟩
    · cases hv
    injection hv with e1 e2 e3
    injection e1 with e1
    injection e1 with e1
    subst e1
    simp [World.frozen?, q3]
  clear hcc
  obtain ⟨x1, x2, x3, x4⟩ := b0.facts
  obtain ⟨y1, y2, y3, y4⟩ := b1.facts
  obtain ⟨u1, u2, u3, u4⟩ := b2.facts
  have B0 := Lib.hid b0
  have B2 := Lib.hid b2
  clear b0 b1 b2
  go_wp2_with fail
  have O4 := Lib.hid (own_put O3.out (lowN l o.name * 27 + 26) (by omega) (.bool true))
  have hxs : (cellsBk l).set (lowN l o.name * 27 + 26) (.bool true) = cellsBk (l.set (lowN l o.name) ((gotN l o.name).toD true)) :=
    cellsBk_ext l (lowN l o.name) hli _ 26 (by omega) _ (by rw [← HG.out]; exact (Bk.set_d (gotN l o.name) _).symm)
  rw [hxs] at O4
  have b2 := ((B2.out.set_other ⟨g, lowN l o.name * 27 + 26, none⟩ (.bool true) (by show g ≠ _; omega)).set_same 0 (.int .i64 (v + 1))).set_same 1 (.slice (some ⟨g, 0, none⟩) l.length c1)
  obtain ⟨z1, z2, z3, z4⟩ := b2.facts
  have hZ := z3 0 2 (Nat.le_refl _)
  have hlen : (l.set (lowN l o.name) ((gotN l o.name).toD true)).length = l.length := List.length_set
  refine bodyPost_ret (ret_pool rfl _ _ _ _ rfl (by rw [hZ]; trivial)) rfl ⟨some ⟨g, 0, none⟩, c1, ?_, ?_, ((HB3.out.setCell (show w.heap.size ≤ g by omega) _).setCell (show w.heap.size ≤ w.heap.size + 2 by omega) _).setCell (show w.heap.size ≤ w.heap.size + 2 by omega) _⟩
  · rw [z4 0 2 (Nat.le_refl _), hlen]
    rfl
  · rw [hlen]
    exact own_less (base := w.heap.size + 3) (own_set (own_set O4.out (show w.heap.size + 2 < w.heap.size + 3 by omega) _) (show w.heap.size + 2 < w.heap.size + 3 by omega) _) (by omega)
set_option maxHeartbeats 400000 in
set_option maxRecDepth 100000 in
theorem do_back (l : List Bk) (hs : Srt l) (v : Int) (hv : -9223372036854775808 ≤ v ∧ v < 9223372036854775807) (o : Opr) (hf : o.bk.fine) (hw : o.w < 18446744073709551616) (hwhy : whyNot v l o = 0) (h1 : o.kind = 5) (hn0 : hasN l o.name = true) (A : Option Addr) (c : Nat) (w : World) (hR : RdK w w.heap.size A l.length l) (hn : l.length ≤ 100000) :
    Calls Tryz.prog 27 #[.agg #[.int .i64 v, .slice A l.length c], .agg o.arr] w (PoolP w (v + 1) (l.set (lowN l o.name) ((gotN l o.name).toD false)) 0) := by
  have HS := Lib.hid hs
  have HR1 := Lib.hid (fun ob ob' ob2 => (((hR.alloc (Nat.le_refl _) ob).alloc (by simp) ob').alloc (by simp; omega) ob2).more (B' := (((w.alloc ob).alloc ob').alloc ob2).heap.size) (by simp; omega))
  have HB0 := Lib.hid (fun ob ob' ob2 => ((((Below.refl w.heap.size w).alloc (Nat.le_refl _) ob).alloc (by simp) ob').alloc (by simp; omega) ob2 : Below w.heap.size w (((w.alloc ob).alloc ob').alloc ob2)))
  have hwy := fun A c W (hR : RdK W W.heap.size A l.length l) => why_any l hs v o hf hw A c W hR (by omega)
  rw [hwhy] at hwy
  have HWY := Lib.hid hwy
  clear hR hs hwy hwhy
  obtain ⟨hv1, hv2⟩ := hv
  have hli := lowN_lt hn0
  have hin : ((lowN l o.name : Nat) : Int) < (l.length : Nat) := by omega
  have HG := Lib.hid (gotN_yes hn0)
  clear hn0
  go_enter Tryz.func27, Tryz.ntmps27
  go_wp2_with fail
  refine (clone_all l A c _ (HR1.out _ _ _) hn).mono ?_
  rintro e w1 ⟨A1, c1, rfl, ho1, hb1⟩
  have b0 := (((Box.new w _ _).alloc _).alloc _).below hb1 (by simp; omega)
  have b1 := ((Box.new1 w _ _ _).alloc _).below hb1 (by simp)
  have b2 := (Box.new2 w _ _ _ _).below hb1 (by simp)
  have hz1 : w.heap.size + 2 < w1.heap.size := b2.lt
  have O1 := Lib.hid (own_less ho1 (show w.heap.size + 3 ≤ _ by simp))
  have HB1 := Lib.hid ((HB0.out _ _ _).trans (hb1.mono (by simp; omega)))
  clear ho1 hb1
  obtain ⟨x1, x2, x3, x4⟩ := b0.facts
  obtain ⟨y1, y2, y3, y4⟩ := b1.facts
  have B0 := Lib.hid b0
  have B1 := Lib.hid b1
  have B2 := Lib.hid b2
  clear b0 b1 b2
  go_wp2_with fail
  refine (HWY.out A1 c1 _ (own_reads (own_set O1.out (by simp) _))).mono ?_
  rintro e w2 ⟨rfl, hb2⟩
  have hsz : (w1.setCell ⟨w.heap.size, 1, none⟩ (Value.slice A1 l.length c1)).heap.size = w1.heap.size := by simp [World.setCell]
  have b0 := (B0.out.set_same 1 (Value.slice A1 l.length c1)).below hb2 (by rw [hsz]; omega)
  have b1 := (B1.out.set_other ⟨w.heap.size, 1, none⟩ (Value.slice A1 l.length c1) (by simp)).below hb2 (by rw [hsz]; omega)
  have b2 := (B2.out.set_other ⟨w.heap.size, 1, none⟩ (Value.slice A1 l.length c1) (by simp)).below hb2 (by rw [hsz]; omega)
  have O2 := Lib.hid (own_below (own_set O1.out (by simp) _) hb2)
  have HB2 := Lib.hid ((HB1.out.setCell (Nat.le_refl _) _).trans (hb2.mono (by rw [hsz]; omega)))
  have hz2 : w.heap.size + 2 < w2.heap.size := b2.lt
  have hz21 : w.heap.size + 1 < w2.heap.size := b1.lt
  have hz20 : w.heap.size < w2.heap.size := b0.lt
  clear hb2 hsz x1 x2 x3 x4 y1 y2 y3 y4 hz1 HB1 O1 HR1 HWY
  obtain ⟨x1, x2, x3, x4⟩ := b0.facts
  obtain ⟨y1, y2, y3, y4⟩ := b1.facts
  have B0 := Lib.hid b0
  have B1 := Lib.hid b1
  have B2 := Lib.hid b2
  clear b0 b1 b2
  go_wp2_with fail
  refine (at_any l HS.out o.name (v + 1) A1 c1 _ (own_reads (own_set O2.out (by simp) _)) (by omega)).mono ?_
  rintro e w3 ⟨rfl, hb3⟩
  have hsz : (w2.setCell ⟨w.heap.size, 0, none⟩ (Value.int .i64 (v + 1))).heap.size = w2.heap.size := by simp [World.setCell]
  have b0 := (B0.out.set_same 0 (Value.int .i64 (v + 1))).below hb3 (by rw [hsz]; omega)
  have b1 := (B1.out.set_other ⟨w.heap.size, 0, none⟩ (Value.int .i64 (v + 1)) (by simp)).below hb3 (by rw [hsz]; omega)
  have b2 := (B2.out.set_other ⟨w.heap.size, 0, none⟩ (Value.int .i64 (v + 1)) (by simp)).below hb3 (by rw [hsz]; omega)
  have ho3 := own_below (own_set O2.out (show w.heap.size < w.heap.size + 3 by omega) (Value.int .i64 (v + 1))) hb3
  have HB3 := Lib.hid ((HB2.out.setCell (Nat.le_refl _) (Value.int .i64 (v + 1))).trans (hb3.mono (by rw [hsz]; omega)))
  obtain ⟨g, hA1⟩ : ∃ g, A1 = some ⟨g, 0, none⟩ := by
    rcases ho3.2 with ⟨hv, h0⟩ | ⟨g, cap, cur, hv, _⟩
    · omega
    · injection hv with e1 _ _
      exact ⟨g, e1⟩
  subst hA1
  have hgb : w.heap.size + 3 ≤ g := (ho3.lt g rfl).1
  have hgl : g < w3.heap.size := (ho3.lt g rfl).2
  obtain ⟨bb, oo, hbo, _, hcc⟩ := (own_reads ho3).cell hli
  injection hbo with hbo
  injection hbo with e1 e2
  subst e1 e2
  have O3 := Lib.hid ho3
  have hz3 : w.heap.size < w3.heap.size := b0.lt
  have hz31 : w.heap.size + 1 < w3.heap.size := b1.lt
  have hz32 : w.heap.size + 2 < w3.heap.size := b2.lt
  clear hb3 hsz x1 x2 x3 x4 y1 y2 y3 y4 HB2 O2 ho3
  have hcl : w3.cell? ⟨g, lowN l o.name * 27 + 26, none⟩ = some (.bool (gotN l o.name).drain) := by
    have := hcc 26 (by omega)
    rw [Nat.zero_add] at this
    rw [this, ← HG.out]
    exact Bk.arr_26 _
  have hfr : w3.frozen? ⟨g, lowN l o.name * 27 + 26, none⟩ = false := by
    rcases O3.out.2 with ⟨hv, h0⟩ | ⟨g', cap, cur, hv, q2, q3, q4, q5, q6, q7⟩
    · cases hv
    injection hv with e1 e2 e3
    injection e1 with e1
    injection e1 with e1
    subst e1
    simp [World.frozen?, q3]
  clear hcc
  obtain ⟨x1, x2, x3, x4⟩ := b0.facts
  obtain ⟨y1, y2, y3, y4⟩ := b1.facts
  obtain ⟨u1, u2, u3, u4⟩ := b2.facts
  have B0 := Lib.hid b0
  have B2 := Lib.hid b2
  clear b0 b1 b2
  go_wp2_with fail
  have O4 := Lib.hid (own_put O3.out (lowN l o.name * 27 + 26) (by omega) (.bool false))
  have hxs : (cellsBk l).set (lowN l o.name * 27 + 26) (.bool false) = cellsBk (l.set (lowN l o.name) ((gotN l o.name).toD false)) :=
    cellsBk_ext l (lowN l o.name) hli _ 26 (by omega) _ (by rw [← HG.out]; exact (Bk.set_d (gotN l o.name) _).symm)
  rw [hxs] at O4
  have b2 := ((B2.out.set_other ⟨g, lowN l o.name * 27 + 26, none⟩ (.bool false) (by show g ≠ _; omega)).set_same 0 (.int .i64 (v + 1))).set_same 1 (.slice (some ⟨g, 0, none⟩) l.length c1)
  obtain ⟨z1, z2, z3, z4⟩ := b2.facts
  have hZ := z3 0 2 (Nat.le_refl _)
  have hlen : (l.set (lowN l o.name) ((gotN l o.name).toD false)).length = l.length := List.length_set
  refine bodyPost_ret (ret_pool rfl _ _ _ _ rfl (by rw [hZ]; trivial)) rfl ⟨some ⟨g, 0, none⟩, c1, ?_, ?_, ((HB3.out.setCell (show w.heap.size ≤ g by omega) _).setCell (show w.heap.size ≤ w.heap.size + 2 by omega) _).setCell (show w.heap.size ≤ w.heap.size + 2 by omega) _⟩
  · rw [z4 0 2 (Nat.le_refl _), hlen]
    rfl
  · rw [hlen]
    exact own_less (base := w.heap.size + 3) (own_set (own_set O4.out (show w.heap.size + 2 < w.heap.size + 3 by omega) _) (show w.heap.size + 2 < w.heap.size + 3 by omega) _) (by omega)
end Go.Proofs.YtmpemeemlhmaaaaGreat
