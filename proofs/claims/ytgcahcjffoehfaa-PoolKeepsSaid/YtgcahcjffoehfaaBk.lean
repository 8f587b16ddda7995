/- Addresses and backends as cells; whole structs out of and into blocks. -/
import Derived.Test.YtgcahcjffoehfaaRows
import Derived.Test.YtgcahcjffoehfaaMem2
import Derived.Deep.WholeRow
import Derived.Deep.MidRow
import Derived.Laws.ResultCell
set_option linter.unusedSimpArgs false
set_option linter.unusedVariables false
namespace Go.Proofs.Ytgcahcjffoehfaa
open Go.RowKit

/-- a float64 as a cell -/
def fv (n : Nat) : Value := .float .f64 n

structure Adr where
  six : Bool
  b : Vector UInt8 16
deriving DecidableEq
structure Bk where
  name : List UInt8
  addr : Adr
  port : Int
  mac : Vector UInt8 6
  w : Nat
  drain : Bool
deriving DecidableEq

def Adr.arr (a : Adr) : Array Value := (Value.bool a.six :: a.b.toList.map bv).toArray
def Bk.arr (x : Bk) : Array Value := (Value.string (textOf x.name) :: Value.bool x.addr.six :: (x.addr.b.toList.map bv ++ Value.int .i64 x.port :: (x.mac.toList.map bv ++ [fv x.w, Value.bool x.drain]))).toArray

theorem Adr.arr_size (a : Adr) : a.arr.size = 17 := by simp [Adr.arr]
theorem Bk.arr_size (x : Bk) : x.arr.size = 27 := by simp [Bk.arr]
@[go_sem] theorem Adr.arr_0 (a : Adr) : a.arr[0]? = some (.bool a.six) := rfl
theorem Adr.arr_b (a : Adr) (i : Nat) (hi : i < 16) : a.arr[i + 1]? = some (bv (a.b.toList.getD i 0)) := by
  simp [Adr.arr, List.getElem?_toArray, hi, List.getD_eq_getElem?_getD]
@[go_sem] theorem Bk.arr_0 (x : Bk) : x.arr[0]? = some (.string (textOf x.name)) := rfl
@[go_sem] theorem Bk.arr_1 (x : Bk) : x.arr[1]? = some (.bool x.addr.six) := rfl
theorem Bk.arr_b (x : Bk) (i : Nat) (hi : i < 16) : x.arr[i + 2]? = some (bv (x.addr.b.toList.getD i 0)) := by
  simp [Bk.arr, List.getElem?_toArray, List.getElem?_append, hi, List.getD_eq_getElem?_getD]
@[go_sem] theorem Bk.arr_18 (x : Bk) : x.arr[18]? = some (.int .i64 x.port) := by simp [Bk.arr, List.getElem?_toArray, List.getElem?_append]
theorem Bk.arr_m (x : Bk) (i : Nat) (hi : i < 6) : x.arr[i + 19]? = some (bv (x.mac.toList.getD i 0)) := by
  simp [Bk.arr, List.getElem?_toArray, List.getElem?_append, hi, List.getD_eq_getElem?_getD]
@[go_sem] theorem Bk.arr_25 (x : Bk) : x.arr[25]? = some (fv x.w) := by simp [Bk.arr, List.getElem?_toArray, List.getElem?_append]
@[go_sem] theorem Bk.arr_26 (x : Bk) : x.arr[26]? = some (.bool x.drain) := by simp [Bk.arr, List.getElem?_toArray, List.getElem?_append]
@[go_sem] theorem fv_is (n : Nat) : fv n = .float .f64 n := rfl
theorem Adr.arr_one (a : Adr) : a.arr.all (·.oneCell') = true := by
  rw [Array.all_eq_true_iff_forall_mem]
  intro v hv
  simp [Adr.arr] at hv
  rcases hv with rfl | ⟨b, _, rfl⟩ <;> rfl
theorem Bk.arr_one (x : Bk) : x.arr.all (·.oneCell') = true := by
  rw [Array.all_eq_true_iff_forall_mem]
  intro v hv
  simp [Bk.arr] at hv
  rcases hv with rfl | rfl | ⟨b, _, rfl⟩ | rfl | ⟨b, _, rfl⟩ | rfl | rfl <;> rfl
/-- the address among a backend's cells -/
theorem Bk.arr_addr (x : Bk) (j : Nat) (hj : j < 17) : x.arr[j + 1]? = x.addr.arr[j]? := by
  rcases j with _ | j
  · rfl
  · rw [show j + 1 + 1 = j + 2 from rfl, Bk.arr_b x j (by omega), Adr.arr_b x.addr j (by omega)]

/-! ### whole structs -/
section
variable {P : Program}
/-- cells that lie in a row are loaded as they lie -/
theorem run_loadCells_of (w : World) (b o n : Nat) (c : Array Value) (hn : c.size = n) (hc : ∀ j, j < n → w.cell? ⟨b, o + j, none⟩ = c[j]?) :
    (loadCellsFrom ⟨b, o, none⟩ 0 n #[]).run P w = .ok c w := by
  subst hn
  have := run_loadCells_list (P := P) w ⟨b, o, none⟩ c.toList (fun j v hv => by
    have hj : j < c.size := by
      rcases Nat.lt_or_ge j c.size with h1 | h1
      · exact h1
      · rw [List.getElem?_eq_none (by simpa using h1)] at hv; cases hv
    rw [Addr.add_mid, hc j hj]
    simpa using hv)
  simpa [loadCells] using this
theorem cell_new (w : World) (c : Array Value) (t : TypeId) (j : Nat) : (w.alloc (.cells c t)).cell? ⟨w.heap.size, j, none⟩ = c[j]? :=
  cell_of_row _ _ j c t (0, 0) (heap_alloc_last w _)
end
/-! ### whole structs out of memory: what lies at a place -/
/-- n cells can be read from offset o of block b on -/
def Has (W : World) (b o n : Nat) : Prop := ∀ j, j < n → ∃ v, W.cell? ⟨b, o + j, none⟩ = some v
/-- those cells -/
def cellsAt (W : World) (b o n : Nat) : Array Value := ((List.range n).map fun j => (W.cell? ⟨b, o + j, none⟩).getD undef).toArray
theorem cellsAt_size (W : World) (b o n : Nat) : (cellsAt W b o n).size = n := by simp [cellsAt]
theorem cellsAt_get (W : World) (b o n j : Nat) (hj : j < n) : (cellsAt W b o n)[j]? = some ((W.cell? ⟨b, o + j, none⟩).getD undef) := by
  simp [cellsAt, List.getElem?_toArray, hj]
theorem cellsAt_eq {W : World} {b o n : Nat} {c : Array Value} (hn : c.size = n) (h : ∀ j, j < n → W.cell? ⟨b, o + j, none⟩ = c[j]?) : Has W b o n ∧ cellsAt W b o n = c := by
  subst hn
  constructor
  · intro j hj
    exact ⟨c[j], by rw [h j hj]; exact Array.getElem?_eq_getElem hj⟩
  · apply Array.ext_getElem?
    intro j
    rcases Nat.lt_or_ge j c.size with hj | hj
    · rw [cellsAt_get _ _ _ _ _ hj, h j hj, Array.getElem?_eq_getElem hj]; rfl
    · rw [Array.getElem?_eq_none (by rw [cellsAt_size]; exact hj), Array.getElem?_eq_none hj]
theorem cellsAt_of {W W' : World} {b o n : Nat} (h : ∀ j, j < n → W'.cell? ⟨b, o + j, none⟩ = W.cell? ⟨b, o + j, none⟩) : cellsAt W' b o n = cellsAt W b o n := by
  unfold cellsAt
  congr 1
  refine List.map_congr_left (fun j hj => ?_)
  rw [h j (List.mem_range.1 hj)]
@[go_sem] theorem Has_drew (W : World) (b o n : Nat) : Has W.drew b o n = Has W b o n := by rw [eq_iff_iff]; exact Iff.rfl
@[go_sem] theorem cellsAt_drew (W : World) (b o n : Nat) : cellsAt W.drew b o n = cellsAt W b o n := rfl
@[go_sem] theorem Has_drewN (W : World) (k b o n : Nat) : Has (W.drewN k) b o n = Has W b o n := by rw [eq_iff_iff]; exact Iff.rfl
@[go_sem] theorem cellsAt_drewN (W : World) (k b o n : Nat) : cellsAt (W.drewN k) b o n = cellsAt W b o n := rfl
theorem Has_alloc {W : World} {b o n : Nat} (hb : b < W.heap.size) (ob : Obj) (h : Has W b o n) : Has (W.alloc ob) b o n := fun j hj => by
  obtain ⟨v, hv⟩ := h j hj
  exact ⟨v, by rw [World.cell?_alloc_lt W ob _ hb]; exact hv⟩
@[go_sem] theorem cellsAt_alloc (W : World) (ob : Obj) (b o n : Nat) (hb : b < W.heap.size) : cellsAt (W.alloc ob) b o n = cellsAt W b o n :=
  cellsAt_of fun j _ => World.cell?_alloc_lt W ob _ hb
@[go_sem] theorem Has_alloc_iff (W : World) (ob : Obj) (b o n : Nat) (hb : b < W.heap.size) : Has (W.alloc ob) b o n = Has W b o n := by
  have h : ∀ j, (W.alloc ob).cell? ⟨b, o + j, none⟩ = W.cell? ⟨b, o + j, none⟩ := fun j => World.cell?_alloc_lt W ob _ hb
  unfold Has
  simp only [h]
theorem new_at (w : World) (c : Array Value) (t : TypeId) (o n : Nat) (d : Array Value) (hd : d.size = n) (h : ∀ j, j < n → c[o + j]? = d[j]?) :
    Has (w.alloc (.cells c t)) w.heap.size o n ∧ cellsAt (w.alloc (.cells c t)) w.heap.size o n = d :=
  cellsAt_eq hd fun j hj => by rw [cell_new]; exact h j hj
@[go_sem] theorem Has_bk_new (w : World) (x : Bk) (t : TypeId) : Has (w.alloc (.cells x.arr t)) w.heap.size 0 27 = True := by
  simp only [eq_iff_iff, iff_true]; exact (new_at w x.arr t 0 27 x.arr (Bk.arr_size x) (fun j _ => by rw [Nat.zero_add])).1
@[go_sem] theorem cellsAt_bk_new (w : World) (x : Bk) (t : TypeId) : cellsAt (w.alloc (.cells x.arr t)) w.heap.size 0 27 = x.arr :=
  (new_at w x.arr t 0 27 x.arr (Bk.arr_size x) (fun j _ => by rw [Nat.zero_add])).2
@[go_sem] theorem Has_bk_addr (w : World) (x : Bk) (t : TypeId) : Has (w.alloc (.cells x.arr t)) w.heap.size 1 17 = True := by
  simp only [eq_iff_iff, iff_true]; exact (new_at w x.arr t 1 17 x.addr.arr (Adr.arr_size _) (fun j hj => by rw [Nat.add_comm]; exact Bk.arr_addr x j hj)).1
@[go_sem] theorem cellsAt_bk_addr (w : World) (x : Bk) (t : TypeId) : cellsAt (w.alloc (.cells x.arr t)) w.heap.size 1 17 = x.addr.arr :=
  (new_at w x.arr t 1 17 x.addr.arr (Adr.arr_size _) (fun j hj => by rw [Nat.add_comm]; exact Bk.arr_addr x j hj)).2
@[go_sem] theorem Has_adr_new (w : World) (x : Adr) (t : TypeId) : Has (w.alloc (.cells x.arr t)) w.heap.size 0 17 = True := by
  simp only [eq_iff_iff, iff_true]; exact (new_at w x.arr t 0 17 x.arr (Adr.arr_size x) (fun j _ => by rw [Nat.zero_add])).1
@[go_sem] theorem cellsAt_adr_new (w : World) (x : Adr) (t : TypeId) : cellsAt (w.alloc (.cells x.arr t)) w.heap.size 0 17 = x.arr :=
  (new_at w x.arr t 0 17 x.arr (Adr.arr_size x) (fun j _ => by rw [Nat.zero_add])).2

theorem run_loadAt_has {P : Program} (W : World) (b o n : Nat) (ty : TypeId) (d : TypeDesc) (hu : P.underlying ty = some d) (hd : d.isRow = true) (hi : (P.info? ty).map (·.size) = some n) (h : Has W b o n) :
    (Instr.loadAt ty (.pointer (some ⟨b, o, none⟩))).run P W = .ok (.agg (cellsAt W b o n)) W := by
  have hc : W.rangeAt b o (cellsAt W b o n).toList := fun j v hv => by
    have hj : j < n := by
      rcases Nat.lt_or_ge j n with h1 | h1
      · exact h1
      · rw [List.getElem?_eq_none (by rw [Array.length_toList, cellsAt_size]; exact h1)] at hv; cases hv
    rw [Array.getElem?_toList, cellsAt_get _ _ _ _ _ hj] at hv
    obtain ⟨u, hu⟩ := h j hj
    rw [hu] at hv ⊢
    exact hv
  have := run_loadAt_mid (P := P) W b o ty (cellsAt W b o n).toList d hc hu hd (by rw [hi, Array.length_toList, cellsAt_size])
  simpa using this
/-- the load of a whole address, of a whole backend: kept shut until the walk can say what lies there -/
def loadAdr (v : Value) : Sem Value := Instr.loadAt 32 v
def loadBk (v : Value) : Sem Value := Instr.loadAt 36 v
def storeBk (v x : Value) : Sem Unit := Instr.storeAt 36 v x
@[go_sem ↓] theorem loadAdr_is (v : Value) : Instr.loadAt 32 v = loadAdr v := rfl
@[go_sem ↓] theorem loadBk_is (v : Value) : Instr.loadAt 36 v = loadBk v := rfl
@[go_sem ↓] theorem storeBk_is (v x : Value) : Instr.storeAt 36 v x = storeBk v x := rfl
@[go_sem] theorem load_bk (W : World) (b o : Nat) (h : Has W b o 27) : (loadBk (.pointer (some ⟨b, o, none⟩))).run Try.prog W = .ok (.agg (cellsAt W b o 27)) W :=
  run_loadAt_has W b o 27 _ _ Try.underlying36 rfl (by kernel_rfl) h
@[go_sem] theorem load_adr (W : World) (b o : Nat) (h : Has W b o 17) : (loadAdr (.pointer (some ⟨b, o, none⟩))).run Try.prog W = .ok (.agg (cellsAt W b o 17)) W :=
  run_loadAt_has W b o 17 _ _ Try.underlying32 rfl (by kernel_rfl) h
/-- a whole backend into the block that was made last -/
@[go_sem] theorem store_bk_new (w : World) (c : Array Value) (x : Bk) (hc : c.size = 27) :
    (storeBk (.pointer (some ⟨w.heap.size, 0, none⟩)) (.agg x.arr)).run Try.prog (w.alloc (.cells c 36)) = .ok () (w.alloc (.cells x.arr 36)) :=
  run_storeAt_new w _ c x.arr (by rw [Bk.arr_size]; kernel_rfl) (by rw [Bk.arr_size]; exact hc) (Bk.arr_one x)
/-- the backend without anything -/
def noBk : Bk := ⟨[], ⟨false, Vector.replicate 16 0⟩, 0, Vector.replicate 6 0, 0, false⟩
theorem noBk_arr : #[Value.string { data := #[] }, Value.bool false, Value.int IntKind.u8 0, Value.int IntKind.u8 0, Value.int IntKind.u8 0, Value.int IntKind.u8 0, Value.int IntKind.u8 0, Value.int IntKind.u8 0, Value.int IntKind.u8 0, Value.int IntKind.u8 0, Value.int IntKind.u8 0, Value.int IntKind.u8 0, Value.int IntKind.u8 0, Value.int IntKind.u8 0, Value.int IntKind.u8 0, Value.int IntKind.u8 0, Value.int IntKind.u8 0, Value.int IntKind.u8 0, Value.int IntKind.i64 0, Value.int IntKind.u8 0, Value.int IntKind.u8 0, Value.int IntKind.u8 0, Value.int IntKind.u8 0, Value.int IntKind.u8 0, Value.int IntKind.u8 0, Value.float FloatKind.f64 0, Value.bool false] = noBk.arr := rfl
@[go_sem] theorem noBk_agg : Value.agg #[Value.string { data := #[] }, Value.bool false, Value.int IntKind.u8 0, Value.int IntKind.u8 0, Value.int IntKind.u8 0, Value.int IntKind.u8 0, Value.int IntKind.u8 0, Value.int IntKind.u8 0, Value.int IntKind.u8 0, Value.int IntKind.u8 0, Value.int IntKind.u8 0, Value.int IntKind.u8 0, Value.int IntKind.u8 0, Value.int IntKind.u8 0, Value.int IntKind.u8 0, Value.int IntKind.u8 0, Value.int IntKind.u8 0, Value.int IntKind.u8 0, Value.int IntKind.i64 0, Value.int IntKind.u8 0, Value.int IntKind.u8 0, Value.int IntKind.u8 0, Value.int IntKind.u8 0, Value.int IntKind.u8 0, Value.int IntKind.u8 0, Value.float FloatKind.f64 0, Value.bool false] = Value.agg noBk.arr := rfl
@[go_sem] theorem noBk_cells : Obj.cells #[Value.string { data := #[] }, Value.bool false, Value.int IntKind.u8 0, Value.int IntKind.u8 0, Value.int IntKind.u8 0, Value.int IntKind.u8 0, Value.int IntKind.u8 0, Value.int IntKind.u8 0, Value.int IntKind.u8 0, Value.int IntKind.u8 0, Value.int IntKind.u8 0, Value.int IntKind.u8 0, Value.int IntKind.u8 0, Value.int IntKind.u8 0, Value.int IntKind.u8 0, Value.int IntKind.u8 0, Value.int IntKind.u8 0, Value.int IntKind.u8 0, Value.int IntKind.i64 0, Value.int IntKind.u8 0, Value.int IntKind.u8 0, Value.int IntKind.u8 0, Value.int IntKind.u8 0, Value.int IntKind.u8 0, Value.int IntKind.u8 0, Value.float FloatKind.f64 0, Value.bool false] 36 = Obj.cells noBk.arr 36 := rfl
/-- a function whose first result is a backend that lies in a cell -/
theorem ret_bk {fn : Func} {p u : Tmp} (h : fn.results = #[.cell p 36, .tmp u]) (tmps : Array Value) (W : World) (b o : Nat) (hp : tmps.getD p undef = .pointer (some ⟨b, o, none⟩)) (hh : Has W b o 27) :
    (results fn tmps).run Try.prog W = .ok (.tuple #[.agg (cellsAt W b o 27), tmps.getD u undef]) W := by
  have hl := run_loadAt_has W b o 27 _ _ Try.underlying36 rfl (by kernel_rfl) hh
  simp only [Instr.loadAt, Instr.sureAddr, Sem.run_bind, Sem.run_pure, Result.andThen_ok] at hl
  rw [results_cell_tmp h, hp]
  simp [asAddr, Result.andThen, hl]
/-- a whole backend into cells that are there -/
def setBk (W : World) (b o : Nat) (x : Bk) : World := W.setCells b o x.arr.toList
@[go_sem] theorem store_bk (W : World) (b o : Nat) (x : Bk) (h : W.there b o 27) : (storeBk (.pointer (some ⟨b, o, none⟩)) (.agg x.arr)).run Try.prog W = .ok () (setBk W b o x) :=
  run_storeAt_mid W b o _ x.arr (by rw [Bk.arr_size]; exact h) (by rw [Bk.arr_size]; kernel_rfl) (Bk.arr_one x)
theorem setBk_same (W : World) (b o : Nat) (x : Bk) (h : W.there b o 27) : ∀ j, j < 27 → (setBk W b o x).cell? ⟨b, o + j, none⟩ = x.arr[j]? := fun j hj => by
  have hs := Bk.arr_size x
  have := World.cell?_setCells_in b x.arr.toList o W (fun i hi => (h i (by simpa [hs] using hi)).1) j (by simpa [hs] using hj)
  rw [setBk, this, Array.getElem_toList, Array.getElem?_eq_getElem (by rw [hs]; exact hj)]
theorem setBk_at (W : World) (b o : Nat) (x : Bk) (h : W.there b o 27) : Has (setBk W b o x) b o 27 ∧ cellsAt (setBk W b o x) b o 27 = x.arr :=
  cellsAt_eq (Bk.arr_size x) (setBk_same W b o x h)
theorem setBk_other (W : World) (b o : Nat) (x : Bk) (p : Addr) (h : p.block ≠ b) : (setBk W b o x).cell? p = W.cell? p :=
  World.cell?_setCells_out b _ o W p (fun hb _ => absurd hb h)
theorem setBk_below {w W : World} {B : Nat} (h : Below B w W) (b o : Nat) (x : Bk) (hb : B ≤ b) : Below B w (setBk W b o x) := by
  unfold setBk
  generalize x.arr.toList = l
  induction l generalizing W o with
  | nil => exact h
  | cons v l ih => rw [World.setCells]; exact ih (h.setCell hb v) (o + 1)
@[go_sem] theorem store_bk_anew (w : World) (x y : Bk) :
    (storeBk (.pointer (some ⟨w.heap.size, 0, none⟩)) (.agg x.arr)).run Try.prog (w.alloc (.cells y.arr 36)) = .ok () (w.alloc (.cells x.arr 36)) :=
  store_bk_new w y.arr x (Bk.arr_size y)
theorem there_new (w : World) (c : Array Value) (t : TypeId) (hc : c.size = 27) : (w.alloc (.cells c t)).there w.heap.size 0 27 := fun j hj => by
  have hj' : j < c.size := by omega
  refine ⟨by rw [Nat.zero_add, cell_new, Array.getElem?_eq_getElem hj']; rfl, ?_⟩
  simp
theorem there_later {w W : World} {b o n B : Nat} (h : w.there b o n) (hb : Below B w W) (hlt : b < B) : W.there b o n := fun j hj => by
  obtain ⟨h1, h2⟩ := h j hj
  exact ⟨by rw [hb.cell hlt]; exact h1, by rw [hb.frozen hlt]; exact h2⟩
/-- what lay in a box lies there later -/
theorem box_later {w W : World} {c : Array Value} {t : TypeId} (hb : Below (w.alloc (.cells c t)).heap.size (w.alloc (.cells c t)) W) : ∀ k, W.cell? ⟨w.heap.size, k, none⟩ = c[k]? := fun k => by
  rw [hb.cell (p := ⟨w.heap.size, k, none⟩) (by simp)]
  exact cell_new w c t k

end Go.Proofs.Ytgcahcjffoehfaa
