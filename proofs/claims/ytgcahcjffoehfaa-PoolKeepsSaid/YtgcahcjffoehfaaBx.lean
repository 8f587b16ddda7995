/- Boxes: blocks of the call's own, read back whole or in part; what a call that only makes memory leaves of them. Ops as cells. -/
import Derived.Test.YtgcahcjffoehfaaPoI
import Derived.Test.YtgcahcjffoehfaaPoP
set_option linter.unusedSimpArgs false
set_option linter.unusedVariables false
namespace Go.Proofs.Ytgcahcjffoehfaa
open Go.RowKit

theorem extract_get (c : Array Value) (o n j : Nat) (hj : j < n) (h : o + n ≤ c.size) : (c.extract o (o + n))[j]? = c[o + j]? := by
  rw [Array.getElem?_extract]
  simp
  omega
/-- how many cells: under a name that no rule on arrays knows -/
def csize (c : Array Value) : Nat := c.size
@[go_sem] theorem Bk.csize (x : Bk) : csize x.arr = 27 := Bk.arr_size x
@[go_sem] theorem Adr.csize (x : Adr) : csize x.arr = 17 := Adr.arr_size x
@[go_sem] theorem Has_box (W : World) (c : Array Value) (t : TypeId) (b o n : Nat) (hb : b = W.heap.size) (h : o + n ≤ csize c) : Has (W.alloc (.cells c t)) b o n = True := by
  subst hb
  unfold csize at h
  simp only [eq_iff_iff, iff_true]
  exact (new_at W c t o n (c.extract o (o + n)) (by rw [Array.size_extract]; omega) (fun j hj => (extract_get c o n j hj h).symm)).1
@[go_sem] theorem cellsAt_box (W : World) (c : Array Value) (t : TypeId) (b o n : Nat) (hb : b = W.heap.size) (h : o + n ≤ csize c) : cellsAt (W.alloc (.cells c t)) b o n = c.extract o (o + n) := by
  subst hb
  unfold csize at h
  exact (new_at W c t o n (c.extract o (o + n)) (by rw [Array.size_extract]; omega) (fun j hj => (extract_get c o n j hj h).symm)).2
@[go_sem] theorem Bk.extract_all (x : Bk) : x.arr.extract 0 27 = x.arr := by
  have := Bk.arr_size x
  rw [← this]; simp
@[go_sem] theorem Bk.extract_addr (x : Bk) : x.arr.extract 1 18 = x.addr.arr := by
  apply Array.ext_getElem?
  intro j
  rcases Nat.lt_or_ge j 17 with hj | hj
  · rw [show (18 : Nat) = 1 + 17 from rfl, extract_get x.arr 1 17 j hj (by rw [Bk.arr_size]; omega), Nat.add_comm, Bk.arr_addr x j hj]
  · rw [Array.getElem?_eq_none (by rw [Array.size_extract, Bk.arr_size]; omega), Array.getElem?_eq_none (by rw [Adr.arr_size]; exact hj)]

/-- behind a call that only made memory all old boxes stand -/
theorem boxes {W w1 : World} (hb : Below W.heap.size W w1) :
    (∀ b o, b < W.heap.size → w1.cell? ⟨b, o, none⟩ = W.cell? ⟨b, o, none⟩) ∧ (∀ b o, b < W.heap.size → w1.frozen? ⟨b, o, none⟩ = W.frozen? ⟨b, o, none⟩) ∧
    (∀ b o n, b < W.heap.size → Has w1 b o n = Has W b o n) ∧ (∀ b o n, b < W.heap.size → cellsAt w1 b o n = cellsAt W b o n) ∧ W.heap.size ≤ w1.heap.size := by
  refine ⟨fun b o h => hb.cell (p := ⟨b, o, none⟩) h, fun b o h => hb.frozen (p := ⟨b, o, none⟩) h, fun b o n h => ?_, fun b o n h => cellsAt_of fun j _ => hb.cell (p := ⟨b, o + j, none⟩) h, hb.size⟩
  unfold Has
  have : ∀ j, w1.cell? ⟨b, o + j, none⟩ = W.cell? ⟨b, o + j, none⟩ := fun j => hb.cell (p := ⟨b, o + j, none⟩) h
  simp only [this]

@[go_sem] theorem Has_set (W : World) (p : Addr) (v : Value) (b o n : Nat) : Has (W.setCell p v) b o n = Has W b o n := by
  rw [eq_iff_iff]
  unfold Has
  refine forall_congr' fun j => forall_congr' fun hj => ?_
  by_cases hp : p = ⟨b, o + j, none⟩
  · subst hp
    cases h : W.cell? ⟨b, o + j, none⟩ with
    | none =>
      have : (W.setCell ⟨b, o + j, none⟩ v).cell? ⟨b, o + j, none⟩ = none := by
        cases h2 : (W.setCell ⟨b, o + j, none⟩ v).cell? ⟨b, o + j, none⟩ with
        | none => rfl
        | some u =>
          exfalso
          cases hb : W.heap[b]? with
          | none => simp [World.cell?, World.setCell, Array.getElem?_modify, hb] at h2
          | some ob =>
            cases ob <;> simp_all [World.cell?, World.setCell, Array.getElem?_modify]
      simp [this]
    | some u => simp [World.cell?_setCell_same _ _ _ h]
  · rw [World.cell?_setCell_other _ _ _ _ hp]
@[go_sem] theorem cellsAt_set (W : World) (p : Addr) (v : Value) (b o n : Nat) (hp : p.block ≠ b) : cellsAt (W.setCell p v) b o n = cellsAt W b o n :=
  cellsAt_of fun j _ => World.cell?_setCell_other _ _ _ _ (fun e => hp (by rw [e]))

/-- block b holds just the cells c, and can be written -/
def Box (W : World) (b : Nat) (c : Array Value) : Prop := ∃ t, W.heap[b]? = some (.cells c t (0, 0))
theorem Box.lt {W : World} {b : Nat} {c : Array Value} (h : Box W b c) : b < W.heap.size := by
  obtain ⟨t, h⟩ := h
  exact (Array.getElem?_eq_some_iff.1 h).1
theorem Box.new (W : World) (c : Array Value) (t : TypeId) : Box (W.alloc (.cells c t)) W.heap.size c := ⟨t, heap_alloc_new W _⟩
theorem Box.new1 (W : World) (ob : Obj) (c : Array Value) (t : TypeId) : Box ((W.alloc ob).alloc (.cells c t)) (W.heap.size + 1) c := by
  have := Box.new (W.alloc ob) c t
  rwa [show (W.alloc ob).heap.size = W.heap.size + 1 by simp] at this
theorem Box.new2 (W : World) (ob ob2 : Obj) (c : Array Value) (t : TypeId) : Box (((W.alloc ob).alloc ob2).alloc (.cells c t)) (W.heap.size + 2) c := by
  have := Box.new1 (W.alloc ob) ob2 c t
  rwa [show (W.alloc ob).heap.size + 1 = W.heap.size + 2 by simp] at this
theorem Box.new3 (W : World) (ob ob2 ob3 : Obj) (c : Array Value) (t : TypeId) : Box ((((W.alloc ob).alloc ob2).alloc ob3).alloc (.cells c t)) (W.heap.size + 3) c := by
  have := Box.new2 (W.alloc ob) ob2 ob3 c t
  rwa [show (W.alloc ob).heap.size + 2 = W.heap.size + 3 by simp] at this
theorem Box.alloc {W : World} {b : Nat} {c : Array Value} (h : Box W b c) (ob : Obj) : Box (W.alloc ob) b c := by
  have hl := h.lt
  obtain ⟨t, h⟩ := h
  exact ⟨t, by rw [Below.heap_alloc W ob b hl]; exact h⟩
theorem Box.drew {W : World} {b : Nat} {c : Array Value} (h : Box W b c) : Box W.drew b c := h
theorem Box.drewN {W : World} {b : Nat} {c : Array Value} (h : Box W b c) (n : Nat) : Box (W.drewN n) b c := h
theorem Box.below {W W' : World} {b B : Nat} {c : Array Value} (h : Box W b c) (hb : Below B W W') (hl : b < B) : Box W' b c := by
  obtain ⟨t, h⟩ := h
  exact ⟨t, by rw [hb.block b hl]; exact h⟩
theorem Box.grown {W W' : World} {b : Nat} {c : Array Value} {row : Option Nat} (h : Box W b c) (hg : W.grownBy W' row) (hl : some b ≠ row) : Box W' b c := by
  have hl2 := h.lt
  obtain ⟨t, h⟩ := h
  exact ⟨t, by rw [hg.block b hl2 hl]; exact h⟩
theorem Box.set_other {W : World} {b : Nat} {c : Array Value} (h : Box W b c) (p : Addr) (v : Value) (hp : p.block ≠ b) : Box (W.setCell p v) b c := by
  obtain ⟨t, h⟩ := h
  exact ⟨t, by rw [Below.heap_setCell W p v b (fun e => hp e.symm)]; exact h⟩
theorem Box.set_same {W : World} {b : Nat} {c : Array Value} (h : Box W b c) (j : Nat) (v : Value) : Box (W.setCell ⟨b, j, none⟩ v) b (c.setIfInBounds j v) := by
  obtain ⟨t, h⟩ := h
  exact ⟨t, by rw [setCell_eq_setRow W b j c t (0, 0) v h]; exact setRow_heap W b c _ t (0, 0) h⟩
/-- what the walk asks of a box -/
theorem Box.facts {W : World} {b : Nat} {c : Array Value} (h : Box W b c) :
    (∀ j, W.cell? ⟨b, j, none⟩ = c[j]?) ∧ (∀ j, W.frozen? ⟨b, j, none⟩ = false) ∧ (∀ o n, o + n ≤ csize c → Has W b o n = True) ∧ (∀ o n, o + n ≤ csize c → cellsAt W b o n = c.extract o (o + n)) := by
  obtain ⟨t, h⟩ := h
  have hc : ∀ j, W.cell? ⟨b, j, none⟩ = c[j]? := fun j => cell_of_row W b j c t (0, 0) h
  refine ⟨hc, fun j => by simp [World.frozen?, h], fun o n hn => ?_, fun o n hn => ?_⟩
  · unfold csize at hn
    simp only [eq_iff_iff, iff_true]
    exact (cellsAt_eq (c := c.extract o (o + n)) (by rw [Array.size_extract]; omega) (fun j hj => by rw [hc, extract_get c o n j hj hn])).1
  · unfold csize at hn
    exact (cellsAt_eq (c := c.extract o (o + n)) (by rw [Array.size_extract]; omega) (fun j hj => by rw [hc, extract_get c o n j hj hn])).2
theorem Box.there {W : World} {b : Nat} {c : Array Value} (h : Box W b c) (o n : Nat) (hn : o + n ≤ c.size) : W.there b o n := by
  obtain ⟨t, h⟩ := h
  intro j hj
  have hj' : o + j < c.size := by omega
  refine ⟨by rw [cell_of_row W b (o + j) c t (0, 0) h, Array.getElem?_eq_getElem hj']; rfl, by simp [World.frozen?, h]⟩

/-! ### what is done to a pool, as cells -/
structure Opr where
  kind : Int
  bk : Bk
  name : List UInt8
  w : Nat
def Opr.arr (o : Opr) : Array Value := (Value.int .i64 o.kind :: (o.bk.arr.toList ++ [Value.string (textOf o.name), fv o.w])).toArray
theorem Opr.arr_size (o : Opr) : o.arr.size = 30 := by simp [Opr.arr, Bk.arr_size]
@[go_sem] theorem Opr.csize (o : Opr) : csize o.arr = 30 := Opr.arr_size o
@[go_sem] theorem Opr.arr_0 (o : Opr) : o.arr[0]? = some (.int .i64 o.kind) := by simp [Opr.arr]
theorem Opr.arr_bk (o : Opr) (j : Nat) (hj : j < 27) : o.arr[j + 1]? = o.bk.arr[j]? := by
  simp [Opr.arr, List.getElem?_toArray, List.getElem?_append, Bk.arr_size, hj]
@[go_sem] theorem Opr.arr_1 (o : Opr) : o.arr[1]? = some (.string (textOf o.bk.name)) := by rw [Opr.arr_bk o 0 (by omega), Bk.arr_0]
@[go_sem] theorem Opr.arr_28 (o : Opr) : o.arr[28]? = some (.string (textOf o.name)) := by simp [Opr.arr, List.getElem?_toArray, List.getElem?_append, Bk.arr_size]
@[go_sem] theorem Opr.arr_29 (o : Opr) : o.arr[29]? = some (.float .f64 o.w) := by simp [Opr.arr, List.getElem?_toArray, List.getElem?_append, Bk.arr_size, fv]
@[go_sem] theorem Opr.extract_bk (o : Opr) : o.arr.extract 1 28 = o.bk.arr := by
  apply Array.ext_getElem?
  intro j
  rcases Nat.lt_or_ge j 27 with hj | hj
  · rw [show (28 : Nat) = 1 + 27 from rfl, extract_get o.arr 1 27 j hj (by rw [Opr.arr_size]; omega), Nat.add_comm, Opr.arr_bk o j hj]
  · rw [Array.getElem?_eq_none (by rw [Array.size_extract, Opr.arr_size]; omega), Array.getElem?_eq_none (by rw [Bk.arr_size]; exact hj)]
@[go_sem] theorem Opr.extract_all (o : Opr) : o.arr.extract 0 30 = o.arr := by
  have := Opr.arr_size o
  rw [← this]; simp
def loadOpr (v : Value) : Sem Value := Instr.loadAt 38 v
@[go_sem ↓] theorem loadOpr_is (v : Value) : Instr.loadAt 38 v = loadOpr v := rfl
@[go_sem] theorem load_opr (W : World) (b o : Nat) (h : Has W b o 30) : (loadOpr (.pointer (some ⟨b, o, none⟩))).run Try.prog W = .ok (.agg (cellsAt W b o 30)) W :=
  run_loadAt_has W b o 30 _ _ Try.underlying38 rfl (by kernel_rfl) h
@[go_sem] theorem store_bk_box (W : World) (c : Array Value) (x : Bk) (b : Nat) (hb : b = W.heap.size) (hc : csize c = 27) :
    (storeBk (.pointer (some ⟨b, 0, none⟩)) (.agg x.arr)).run Try.prog (W.alloc (.cells c 36)) = .ok () (W.alloc (.cells x.arr 36)) := by
  subst hb; exact store_bk_new W c x hc

/-! ### literals of slices of structs -/
theorem foldl_set_get (l : List Value) : ∀ (k off : Nat) (cells : Array Value) (j : Nat),
    ((l.zipIdx k).foldl (fun cs (x : Value × Nat) => cs.setIfInBounds (off + x.2) x.1) cells)[j]? = if off + k ≤ j ∧ j < off + k + l.length ∧ j < cells.size then l[j - (off + k)]? else cells[j]? := by
  induction l with
  | nil => intro k off cells j; simp; omega
  | cons v l ih =>
    intro k off cells j
    rw [List.zipIdx_cons, List.foldl_cons, ih (k + 1) off]
    simp only [Array.size_setIfInBounds, List.length_cons, Array.getElem?_setIfInBounds]
    by_cases h1 : off + k ≤ j ∧ j < off + k + (l.length + 1) ∧ j < cells.size
    · by_cases h2 : off + k = j
      · subst h2
        have : ¬ off + (k + 1) ≤ off + k := by omega
        simp [this, h1.2.2]
      · have h3 : off + (k + 1) ≤ j ∧ j < off + (k + 1) + l.length ∧ j < cells.size := by omega
        rw [if_pos h3, if_pos h1, show j - (off + k) = (j - (off + (k + 1))) + 1 by omega, List.getElem?_cons_succ]
    · have h3 : ¬ (off + (k + 1) ≤ j ∧ j < off + (k + 1) + l.length ∧ j < cells.size) := by omega
      rw [if_neg h3, if_neg h1]
      by_cases h2 : off + k = j
      · subst h2
        have : ¬ off + k < cells.size := by simp at h1; omega
        simp [this]
      · simp [h2]
theorem fill_whole (v cells : Array Value) (h : v.size = cells.size) : Array.foldl (fun cs (x : Value × Nat) => cs.setIfInBounds (0 + x.2) x.1) cells v.zipIdx = v := by
  apply Array.ext_getElem?
  intro j
  have h1 := foldl_set_get v.toList 0 0 cells j
  rw [← Array.foldl_toList, Array.toList_zipIdx, h1]
  by_cases hj : j < cells.size
  · simp [h, hj]
  · simp [hj]; omega
theorem run_slice_lit {P : Program} (w : World) (t e : TypeId) (i : TypeInfo) (z : Value) (size : Nat) (ht : P.underlying t = some (.slice e)) (hi : P.info? e = some i) (hz : i.zero = some z) (hsize : i.size = size) (hzs : z.cells.size = size) (h0 : 0 < size) (h24 : size ≤ 16777216) (c : Array Value) (hc : c.size = size) :
    (Instr.buildSlice t 1 #[(0, .agg c)]).run P w = .ok (.slice (some ⟨w.heap.size, 0, none⟩) 1 1) (w.alloc (.cells c e)) := by
  have hx : (Value.agg c).cells = c := rfl
  have hfw := fill_whole c ((Array.range (1 * size)).map (z.cells[· % z.cells.size]!)) (by simp [hc])
  have hne : ¬ size = 0 := by omega
  have h24' : ¬ 16777216 < size := by omega
  simp only [Nat.zero_add, Nat.one_mul, Array.size_zipIdx, hc] at hfw
  simp [Instr.buildSlice, run_underlying ht, sizeOf, typeInfo, zeroValue, hi, hz, hsize, hne, h24', Instr.fill, hx, hc, newRow, hfw]
def mkBks (n : Nat) (ps : Array (Nat × Value)) : Sem Value := Instr.buildSlice 22 n ps
@[go_sem ↓] theorem mkBks_is (n : Nat) (ps : Array (Nat × Value)) : Instr.buildSlice 22 n ps = mkBks n ps := rfl
@[go_sem] theorem run_mkBks (w : World) (x : Bk) : (mkBks 1 #[(0, .agg x.arr)]).run Try.prog w = .ok (.slice (some ⟨w.heap.size, 0, none⟩) 1 1) (w.alloc (.cells x.arr 36)) := by
  obtain ⟨i0, hi0, hz0, hz1, hzb⟩ := infoBk
  exact run_slice_lit w _ _ i0 (.agg noBk.arr) 27 Try.underlying22 hi0 hz0 hz1 (Bk.arr_size noBk) (by omega) (by omega) x.arr (Bk.arr_size x)
end Go.Proofs.Ytgcahcjffoehfaa
