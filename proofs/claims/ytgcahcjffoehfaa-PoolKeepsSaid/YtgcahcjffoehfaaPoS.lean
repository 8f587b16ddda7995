/- slices.Delete of a backend out of a row of the call's own. -/
import Derived.Test.YtgcahcjffoehfaaPoR
set_option linter.unusedSimpArgs false
set_option linter.unusedVariables false
namespace Go.Proofs.Ytgcahcjffoehfaa
open Go.RowKit

def delAt (l : List Bk) (i : Nat) : List Bk := l.take i ++ l.drop (i + 1)
theorem delAt_length (l : List Bk) (i : Nat) (hi : i < l.length) : (delAt l i).length = l.length - 1 := by
  simp [delAt]; omega
theorem delAt_cells (l : List Bk) (i : Nat) (hi : i < l.length) : cellsBk (delAt l i) = (cellsBk l).take (i * 27) ++ (cellsBk l).drop (i * 27 + 27) := by
  rw [delAt, cellsBk_append, cellsBk_take l i (by omega), cellsBk_drop l (i + 1) (by omega), show (i + 1) * 27 = i * 27 + 27 by omega]
set_option maxHeartbeats 400000 in
set_option maxRecDepth 100000 in
theorem delete_any (l : List Bk) (i : Nat) (hi : i < l.length) (base g c : Nat) (cur : Array Value) (w : World) (hb : base ≤ g) (hg : w.heap[g]? = some (.cells cur 36 (0, 0))) (hc : l.length ≤ c) (hcm : c ≤ maxLen) (hcs : cur.size = c * 27)
    (ht : cur.toList.take (l.length * 27) = cellsBk l) (hn : l.length ≤ 100000) :
    Calls Try.prog 39 #[.slice (some ⟨g, 0, none⟩) l.length c, .int .i64 i, .int .i64 ((i : Int) + 1)] w (OwnBk base w (some g) (delAt l i)) := by
  have hln := delAt_length l i hi
  have hcl := cellsBk_length l
  unfold maxLen at hcm
  obtain ⟨n, hnl⟩ : ∃ n, n = l.length := ⟨_, rfl⟩
  rw [← hnl] at hi hc hn ht hln hcl ⊢
  have HN := Lib.hid hnl
  have HG := Lib.hid (show w.drew.heap[g]? = some (.cells cur 36 (0, 0)) from hg)
  have HT := Lib.hid ht
  have HCS := Lib.hid hcs
  have HLN := Lib.hid hln
  have HCL := Lib.hid hcl
  obtain ⟨i0, hi0, hz0, hz1, hzb⟩ := infoBk
  have HI0 := Lib.hid hi0
  have HZ0 := Lib.hid hz0
  have HZ1 := Lib.hid hz1
  have HZ2 := Lib.hid (show (Value.agg noBk.arr).cells.size = 27 by simp [Value.cells, Bk.arr_size])
  have HZ3 := Lib.hid (show (Value.agg noBk.arr).cells.all (·.oneCell') = true from Bk.arr_one noBk)
  have M2 := Lib.hid (show ((cellsBk l).drop (i * 27 + 27)).length = (n - (i + 1)) * 27 by rw [List.length_drop, hcl, Nat.sub_mul]; omega)
  have M3 := Lib.hid (show ∀ j v, ((cellsBk l).drop (i * 27 + 27))[j]? = some v → w.drew.cell? ((⟨g, (i + 1) * 27, none⟩ : Addr).add j) = some v from fun j v hv => by
    show w.cell? _ = _
    rw [Addr.add_mid, cell_of_row w g _ cur _ _ hg, show (i + 1) * 27 = i * 27 + 27 by omega]
    rw [List.getElem?_drop] at hv
    rw [← ht, List.getElem?_take] at hv
    split at hv
    · rw [Array.getElem?_toList] at hv; exact hv
    · cases hv)
  have M4 := Lib.hid (show i * 27 + ((cellsBk l).drop (i * 27 + 27)).length ≤ cur.size by rw [M2.out, hcs]; have := Nat.mul_le_mul_right 27 hc; have := Nat.sub_mul n (i + 1) 27; omega)
  have M5 := Lib.hid (show ∀ v ∈ (cellsBk l).drop (i * 27 + 27), v.oneCell' = true from fun v hv => cellsBk_one l v (List.mem_of_mem_drop hv))
  have M6 := Lib.hid (show i + (n - (i + 1)) ≤ c by omega)
  have EN := Lib.hid (show i + (n - (i + 1)) = n - 1 by omega)
  have M7' := Lib.hid (show c = i + 1 → Hid (∀ j v, ((cellsBk l).drop (i * 27 + 27))[j]? = some v → w.drew.cell? ((⟨g, 0, none⟩ : Addr).add j) = some v) from fun h => Lib.hid fun j v hv => by
    have hz : (cellsBk l).drop (i * 27 + 27) = [] := List.eq_nil_of_length_eq_zero (by rw [M2.out, show n - (i + 1) = 0 by omega, Nat.zero_mul])
    rw [hz] at hv; simp at hv)
  have HN1 := Lib.hid (show 1 ≤ n by omega)
  clear hnl hg ht hcs hi0 hz0 hz1 hcl hln
  have b1 : (i : Int) ≤ n := by omega
  have b2 : (i : Int) + 1 ≤ n := by omega
  go_enter Try.func39, Try.ntmps39
  go_wp2_with fail
  by_cases hci : c = i + 1
  rotate_left
  · have a4 : ((i : Int) + 1).toNat = i + 1 := by omega
    have a2 : (0 : Int) ≤ (i : Int) + 1 := by omega
    have a8 : ¬ c = i := by omega
    have a9 : (i : Int) ≤ c := by omega
    go_region_law (refine step_app_room rfl (.tmp 22) (.tmp 25) _ rfl 36 i0 27 Try.underlying22 HI0.out HZ1.out g i c ⟨g, (i + 1) * 27, none⟩ (n - (i + 1)) (c - (i + 1)) (by kernel_rfl) (by kernel_rfl) cur HG.out ((cellsBk l).drop (i * 27 + 27)) M2.out M3.out M5.out M6.out M4.out ?_; intro w1 hw1; rw [EN.out]; have HW1 := Lib.hid hw1; clear hw1)
    clear a2 a4 a8 a9
    obtain ⟨cur1, hc1⟩ : ∃ cur1 : Array Value, cur1 = (splice cur.toList (i * 27) ((cellsBk l).drop (i * 27 + 27))).toArray := ⟨_, rfl⟩
    have G1 := Lib.hid (show w1.heap[g]? = some (.cells cur1 36 (0, 0)) by rw [HW1.out, hc1]; exact setRow_heap w.drew g cur _ _ _ HG.out)
    have hs1 : cur1.size = c * 27 := by
      rw [hc1, List.size_toArray, length_splice _ _ _ (by rw [Array.length_toList]; exact M4.out), Array.length_toList, HCS.out]
    have E1 := Lib.hid (show 0 < n - (n - 1) by have := HN1.out; omega)
    have E2 := Lib.hid (show (n - 1) * 27 + (n - (n - 1)) * 27 ≤ cur1.size by rw [hs1, show n - (n - 1) = 1 by have := HN1.out; omega]; have := HN1.out; omega)
    have HC1 := Lib.hid hc1
    have HS1 := Lib.hid hs1
    clear hc1 hs1
    go_wp2_with (refine wpList_clear_row rfl (.tmp 31) _ rfl 36 i0 (.agg noBk.arr) 27 Try.underlying22 HI0.out HZ0.out HZ2.out HZ3.out g ((n - 1) * 27) (n - (n - 1)) (c - (n - 1)) rfl E1.out cur1 _ G1.out E2.out ?_; intro w2 zs hzs hw2; have HW2 := Lib.hid hw2; have HZS := Lib.hid hzs; clear hw2 hzs)
    go_ret
    refine ⟨some ⟨g, 0, none⟩, c, by rw [HLN.out]; rfl, ?_, ?_⟩
    · rw [HLN.out]
      refine ⟨by rw [cellsBk_length, HLN.out], .inr ⟨g, c, (splice cur1.toList ((n - 1) * 27) zs).toArray, rfl, hb, ?_, by omega, by unfold maxLen; omega, ?_, ?_⟩⟩
      · rw [HW2.out]; exact setRow_heap w1 g cur1 _ _ _ G1.out
      · rw [List.size_toArray, length_splice _ _ _ (by rw [Array.length_toList]; have h1 := HZS.out; have h2 := E2.out; first | (rw [h1]; exact h2) | (simp only [List.size_toArray, h1]; exact h2)), Array.length_toList, HS1.out]
      · rw [delAt_cells l i (by rw [← HN.out]; exact hi)]
        have h1 := del_place cur.toList (cellsBk l) (i * 27) 27 (by rw [HCL.out]; exact HT.out) (by rw [HCL.out]; omega)
        have hcu : cur1.toList = splice cur.toList (i * 27) ((cellsBk l).drop (i * 27 + 27)) := by rw [HC1.out]
        rw [HCL.out, show n * 27 - 27 = (n - 1) * 27 by omega, ← hcu] at h1
        show List.take ((n - 1) * 27) (splice cur1.toList ((n - 1) * 27) zs) = _
        rw [splice, List.take_append_of_le_length (by rw [List.length_take, Array.length_toList, HS1.out]; omega), List.take_take, Nat.min_self]
        exact h1
    · rw [HW2.out]
      have hG : w.grownBy w1 (some g) := by rw [HW1.out]; exact ⟨rfl, rfl, rfl, by simp [World.setRow], fun k hk hkg => setRow_other w.drew g k _ (fun e => hkg (by rw [e]))⟩
      refine gb_trans hG ⟨rfl, rfl, rfl, by simp [World.setRow], fun k hk hkg => setRow_other w1 g k _ (fun e => hkg (by rw [e]))⟩
  · have M3 := M7'.out hci
    have HCI := Lib.hid hci
    have a0 : (c = i + 1) = True := by simpa using hci
    clear hci
    have a4 : ((i : Int) + 1).toNat = i + 1 := by omega
    have a2 : (0 : Int) ≤ (i : Int) + 1 := by omega
    have a8 : ¬ c = i := by have := HCI.out; omega
    have a9 : (i : Int) ≤ c := by omega
    go_region_law (refine step_app_room rfl (.tmp 22) (.tmp 25) _ rfl 36 i0 27 Try.underlying22 HI0.out HZ1.out g i c ⟨g, 0, none⟩ (n - (i + 1)) (c - (i + 1)) (by kernel_rfl) (by kernel_rfl) cur HG.out ((cellsBk l).drop (i * 27 + 27)) M2.out M3.out M5.out M6.out M4.out ?_; intro w1 hw1; rw [EN.out]; have HW1 := Lib.hid hw1; clear hw1)
    clear a2 a4 a8 a9
    obtain ⟨cur1, hc1⟩ : ∃ cur1 : Array Value, cur1 = (splice cur.toList (i * 27) ((cellsBk l).drop (i * 27 + 27))).toArray := ⟨_, rfl⟩
    have G1 := Lib.hid (show w1.heap[g]? = some (.cells cur1 36 (0, 0)) by rw [HW1.out, hc1]; exact setRow_heap w.drew g cur _ _ _ HG.out)
    have hs1 : cur1.size = c * 27 := by
      rw [hc1, List.size_toArray, length_splice _ _ _ (by rw [Array.length_toList]; exact M4.out), Array.length_toList, HCS.out]
    have E1 := Lib.hid (show 0 < n - (n - 1) by have := HN1.out; omega)
    have E2 := Lib.hid (show (n - 1) * 27 + (n - (n - 1)) * 27 ≤ cur1.size by rw [hs1, show n - (n - 1) = 1 by have := HN1.out; omega]; have := HN1.out; omega)
    have HC1 := Lib.hid hc1
    have HS1 := Lib.hid hs1
    clear hc1 hs1
    go_wp2_with (refine wpList_clear_row rfl (.tmp 31) _ rfl 36 i0 (.agg noBk.arr) 27 Try.underlying22 HI0.out HZ0.out HZ2.out HZ3.out g ((n - 1) * 27) (n - (n - 1)) (c - (n - 1)) rfl E1.out cur1 _ G1.out E2.out ?_; intro w2 zs hzs hw2; have HW2 := Lib.hid hw2; have HZS := Lib.hid hzs; clear hw2 hzs)
    go_ret
    refine ⟨some ⟨g, 0, none⟩, c, by rw [HLN.out]; rfl, ?_, ?_⟩
    · rw [HLN.out]
      refine ⟨by rw [cellsBk_length, HLN.out], .inr ⟨g, c, (splice cur1.toList ((n - 1) * 27) zs).toArray, rfl, hb, ?_, by omega, by unfold maxLen; omega, ?_, ?_⟩⟩
      · rw [HW2.out]; exact setRow_heap w1 g cur1 _ _ _ G1.out
      · rw [List.size_toArray, length_splice _ _ _ (by rw [Array.length_toList]; have h1 := HZS.out; have h2 := E2.out; first | (rw [h1]; exact h2) | (simp only [List.size_toArray, h1]; exact h2)), Array.length_toList, HS1.out]
      · rw [delAt_cells l i (by rw [← HN.out]; exact hi)]
        have h1 := del_place cur.toList (cellsBk l) (i * 27) 27 (by rw [HCL.out]; exact HT.out) (by rw [HCL.out]; omega)
        have hcu : cur1.toList = splice cur.toList (i * 27) ((cellsBk l).drop (i * 27 + 27)) := by rw [HC1.out]
        rw [HCL.out, show n * 27 - 27 = (n - 1) * 27 by omega, ← hcu] at h1
        show List.take ((n - 1) * 27) (splice cur1.toList ((n - 1) * 27) zs) = _
        rw [splice, List.take_append_of_le_length (by rw [List.length_take, Array.length_toList, HS1.out]; omega), List.take_take, Nat.min_self]
        exact h1
    · rw [HW2.out]
      have hG : w.grownBy w1 (some g) := by rw [HW1.out]; exact ⟨rfl, rfl, rfl, by simp [World.setRow], fun k hk hkg => setRow_other w.drew g k _ (fun e => hkg (by rw [e]))⟩
      refine gb_trans hG ⟨rfl, rfl, rfl, by simp [World.setRow], fun k hk hkg => setRow_other w1 g k _ (fun e => hkg (by rw [e]))⟩
end Go.Proofs.Ytgcahcjffoehfaa
