/- slices.Clone of backends. -/
import Derived.Test.YtmpemeemlhmaaaaGreatQ13
import Derived.Laws.Cover3
set_option linter.unusedSimpArgs false
set_option linter.unusedVariables false
set_option maxRecDepth 100000
namespace Go.Proofs.YtmpemeemlhmaaaaGreat
open Go.RowKit

set_option maxRecDepth 100000 in
theorem cloneBk_any (l : List Bk) (a : Addr) (c : Nat) (w : World) (hR : RdK w w.heap.size (some a) l.length l) (hn : l.length ≤ 100000000000) :
    Calls Tryz.prog 73 #[.slice (some a) l.length c] w fun e w' => ∃ A' c', e = .returned (.slice A' l.length c') ∧ w'.ownsRow w.heap.size 60 27 (.slice A' l.length c') l.length (cellsBk l) ∧ Below w.heap.size w w' := by
  have hnil : ∀ W : World, (binOp .eql 22 (.slice (some a) l.length c) (.slice none 0 0)).run Tryz.prog W = .ok (.bool false) W := fun W => by
    simp only [binOp]
    simp [run_equal_slice_nil, Tryz.underlying22]
  obtain ⟨i0, hi0, hz0, hz1, hzb⟩ := infoBk
  have hz2 : (Value.agg noBk.arr).cells.size = 27 := by simp [Value.cells, Bk.arr_size]
  have o1 : (w.alloc (.cells #[] 60)).ownsRow w.heap.size 60 27 (.slice (some ⟨w.heap.size, 0, none⟩) 0 0) 0 [] :=
    World.ownsRow_lit w #[] 0 (Nat.le_refl _) (by unfold maxLen; omega) rfl
  have O1 := Lib.hid o1
  have O2 := Lib.hid (hR.alloc (Nat.le_refl _) (.cells #[] 60)).2.1
  have H63 := Lib.hid (show 0 + l.length ≤ maxLen by unfold maxLen; omega)
  have HBY := Lib.hid (show (0 + l.length) * i0.bytes ≤ 140737488355328 from Nat.le_trans (Nat.mul_le_mul (show 0 + l.length ≤ 100000000000 by omega) hzb) (by omega))
  have O3 := Lib.hid (show w.heap.size ≤ (w.alloc (.cells #[] 60)).heap.size by simp)
  clear o1 hR
  go_enter Tryz.func73, Tryz.ntmps73
  go_wp2_with (at_builtin; refine wpList_app_rd _ rfl (.tmp 5) (.tmp 6) _ rfl w.heap.size 60 i0 (.agg noBk.arr) 27 i0.bytes Tryz.underlying22 hi0 hz0 hz1 rfl hz2 (Nat.succ_pos _) (.slice (some ⟨w.heap.size, 0, none⟩) 0 0) 0 [] rfl O1.out w.heap.size (some a) l.length c (cellsBk l) rfl O2.out (cellsBk_one l) H63.out HBY.out O3.out ?_; intro v1 w1 hown1 hg1 hat1)
  obtain ⟨A', c', hv, _, _⟩ := own_form hown1
  subst hv
  simp only [Nat.zero_add, List.nil_append] at hown1
  have hb := gb_below ((Below.refl w.heap.size w).alloc (Nat.le_refl _) (.cells #[] 60)) hg1 (Nat.le_refl _) O3.out
  go_wp2
  go_ret
  exact ⟨A', c', by simp, hown1, hb⟩
end Go.Proofs.YtmpemeemlhmaaaaGreat
