/- Boxes: blocks of the call's own, read back whole or in part; what a call that only makes memory leaves of them. Ops as cells. -/
import Derived.Test.YtmpemeemlhmaaaaGreatQ13
set_option linter.unusedSimpArgs false
set_option linter.unusedVariables false
set_option maxRecDepth 100000
namespace Go.Proofs.YtmpemeemlhmaaaaGreat
open Go.RowKit

@[go_sem] theorem Bk.csize (x : Bk) : csize x.arr = 27 := Bk.arr_size x
@[go_sem] theorem Adr.csize (x : Adr) : csize x.arr = 17 := Adr.arr_size x
@[go_sem] theorem Bk.extract_all (x : Bk) : x.arr.extract 0 27 = x.arr := by
  have := Bk.arr_size x
  rw [← this]; simp
@[go_sem] theorem Bk.extract_addr (x : Bk) : x.arr.extract 1 18 = x.addr.arr := by
  apply Array.ext_getElem?
  intro j
  rcases Nat.lt_or_ge j 17 with hj | hj
  · rw [show (18 : Nat) = 1 + 17 from rfl, extract_get x.arr 1 17 j hj (by rw [Bk.arr_size]; omega), Nat.add_comm, Bk.arr_addr x j hj]
  · rw [Array.getElem?_eq_none (by rw [Array.size_extract, Bk.arr_size]; omega), Array.getElem?_eq_none (by rw [Adr.arr_size]; exact hj)]

/-! ### what is done to a pool, as cells -/
structure Opr where
  kind : Int
  bk : Bk
  name : List UInt8
  w : Nat
def Opr.arr (o : Opr) : Array Value := (Value.int .i64 o.kind :: (o.bk.arr.toList ++ [Value.string (textOf o.name), fv o.w])).toArray
theorem Opr.arr_size (o : Opr) : o.arr.size = 30 := by simp [Opr.arr, Bk.arr_size]
@[go_sem] theorem Opr.csize (o : Opr) : csize o.arr = 30 := Opr.arr_size o
@[go_sem] theorem Opr.arr_0 (o : Opr) : o.arr[0]? = some (.int .i64 o.kind) := by simp [Opr.arr]
theorem Opr.arr_bk (o : Opr) (j : Nat) (hj : j < 27) : o.arr[j + 1]? = o.bk.arr[j]? := by
  simp [Opr.arr, List.getElem?_toArray, List.getElem?_append, Bk.arr_size, hj]
@[go_sem] theorem Opr.arr_1 (o : Opr) : o.arr[1]? = some (.string (textOf o.bk.name)) := by rw [Opr.arr_bk o 0 (by omega), Bk.arr_0]
@[go_sem] theorem Opr.arr_28 (o : Opr) : o.arr[28]? = some (.string (textOf o.name)) := by simp [Opr.arr, List.getElem?_toArray, List.getElem?_append, Bk.arr_size]
@[go_sem] theorem Opr.arr_29 (o : Opr) : o.arr[29]? = some (.float .f64 o.w) := by simp [Opr.arr, List.getElem?_toArray, List.getElem?_append, Bk.arr_size, fv]
@[go_sem] theorem Opr.extract_bk (o : Opr) : o.arr.extract 1 28 = o.bk.arr := by
  apply Array.ext_getElem?
  intro j
  rcases Nat.lt_or_ge j 27 with hj | hj
  · rw [show (28 : Nat) = 1 + 27 from rfl, extract_get o.arr 1 27 j hj (by rw [Opr.arr_size]; omega), Nat.add_comm, Opr.arr_bk o j hj]
  · rw [Array.getElem?_eq_none (by rw [Array.size_extract, Opr.arr_size]; omega), Array.getElem?_eq_none (by rw [Bk.arr_size]; exact hj)]
@[go_sem] theorem Opr.extract_all (o : Opr) : o.arr.extract 0 30 = o.arr := by
  have := Opr.arr_size o
  rw [← this]; simp
def loadOpr (v : Value) : Sem Value := Instr.loadAt 66 v
@[go_sem ↓] theorem loadOpr_is (v : Value) : Instr.loadAt 66 v = loadOpr v := rfl
@[go_sem] theorem load_opr (W : World) (b o : Nat) (h : Has W b o 30) : (loadOpr (.pointer (some ⟨b, o, none⟩))).run Tryz.prog W = .ok (.agg (cellsAt W b o 30)) W :=
  run_loadAt_has W b o 30 _ _ Tryz.underlying66 rfl (by kernel_rfl) h
@[go_sem] theorem store_bk_box (W : World) (c : Array Value) (x : Bk) (b : Nat) (hb : b = W.heap.size) (hc : csize c = 27) :
    (storeBk (.pointer (some ⟨b, 0, none⟩)) (.agg x.arr)).run Tryz.prog (W.alloc (.cells c 60)) = .ok () (W.alloc (.cells x.arr 60)) := by
  subst hb; exact store_bk_new W c x hc

/-! ### literals of slices of structs -/
def mkBks (n : Nat) (ps : Array (Nat × Value)) : Sem Value := Instr.buildSlice 22 n ps
@[go_sem ↓] theorem mkBks_is (n : Nat) (ps : Array (Nat × Value)) : Instr.buildSlice 22 n ps = mkBks n ps := rfl
@[go_sem] theorem run_mkBks (w : World) (x : Bk) : (mkBks 1 #[(0, .agg x.arr)]).run Tryz.prog w = .ok (.slice (some ⟨w.heap.size, 0, none⟩) 1 1) (w.alloc (.cells x.arr 60)) := by
  obtain ⟨i0, hi0, hz0, hz1, hzb⟩ := infoBk
  exact run_slice_lit w _ _ i0 (.agg noBk.arr) 27 Tryz.underlying22 hi0 hz0 hz1 (Bk.arr_size noBk) (by omega) (by omega) x.arr (Bk.arr_size x)
end Go.Proofs.YtmpemeemlhmaaaaGreat
