/- Addresses and backends as cells; whole structs out of and into blocks. -/
import Derived.Test.YtmpemeemlhmaaaaGreatQ6
import Derived.Test.YtmpemeemlhmaaaaGreatRows
import Derived.Deep.WholeRow
import Derived.Deep.MidRow
import Derived.Laws.ResultCell
import Derived.Laws.FloatArith
set_option linter.unusedSimpArgs false
set_option linter.unusedVariables false
set_option maxRecDepth 100000
namespace Go.Proofs.YtmpemeemlhmaaaaGreat
open Go.RowKit

structure Adr where
  six : Bool
  b : Vector UInt8 16
deriving DecidableEq
structure Bk where
  name : List UInt8
  addr : Adr
  port : Int
  mac : Vector UInt8 6
  w : Nat
  drain : Bool
deriving DecidableEq

def Adr.arr (a : Adr) : Array Value := (Value.bool a.six :: a.b.toList.map bv).toArray
def Bk.arr (x : Bk) : Array Value := (Value.string (textOf x.name) :: Value.bool x.addr.six :: (x.addr.b.toList.map bv ++ Value.int .i64 x.port :: (x.mac.toList.map bv ++ [fv x.w, Value.bool x.drain]))).toArray

theorem Adr.arr_size (a : Adr) : a.arr.size = 17 := by simp [Adr.arr]
theorem Bk.arr_size (x : Bk) : x.arr.size = 27 := by simp [Bk.arr]
@[go_sem] theorem Adr.arr_0 (a : Adr) : a.arr[0]? = some (.bool a.six) := rfl
theorem Adr.arr_b (a : Adr) (i : Nat) (hi : i < 16) : a.arr[i + 1]? = some (bv (a.b.toList.getD i 0)) := by
  simp [Adr.arr, List.getElem?_toArray, hi, List.getD_eq_getElem?_getD]
@[go_sem] theorem Bk.arr_0 (x : Bk) : x.arr[0]? = some (.string (textOf x.name)) := rfl
@[go_sem] theorem Bk.arr_1 (x : Bk) : x.arr[1]? = some (.bool x.addr.six) := rfl
theorem Bk.arr_b (x : Bk) (i : Nat) (hi : i < 16) : x.arr[i + 2]? = some (bv (x.addr.b.toList.getD i 0)) := by
  simp [Bk.arr, List.getElem?_toArray, List.getElem?_append, hi, List.getD_eq_getElem?_getD]
@[go_sem] theorem Bk.arr_18 (x : Bk) : x.arr[18]? = some (.int .i64 x.port) := by simp [Bk.arr, List.getElem?_toArray, List.getElem?_append]
theorem Bk.arr_m (x : Bk) (i : Nat) (hi : i < 6) : x.arr[i + 19]? = some (bv (x.mac.toList.getD i 0)) := by
  simp [Bk.arr, List.getElem?_toArray, List.getElem?_append, hi, List.getD_eq_getElem?_getD]
@[go_sem] theorem Bk.arr_25 (x : Bk) : x.arr[25]? = some (fv x.w) := by simp [Bk.arr, List.getElem?_toArray, List.getElem?_append]
@[go_sem] theorem Bk.arr_26 (x : Bk) : x.arr[26]? = some (.bool x.drain) := by simp [Bk.arr, List.getElem?_toArray, List.getElem?_append]
theorem Adr.arr_one (a : Adr) : a.arr.all (·.oneCell') = true := by
  rw [Array.all_eq_true_iff_forall_mem]
  intro v hv
  simp [Adr.arr] at hv
  rcases hv with rfl | ⟨b, _, rfl⟩ <;> rfl
theorem Bk.arr_one (x : Bk) : x.arr.all (·.oneCell') = true := by
  rw [Array.all_eq_true_iff_forall_mem]
  intro v hv
  simp [Bk.arr] at hv
  rcases hv with rfl | rfl | ⟨b, _, rfl⟩ | rfl | ⟨b, _, rfl⟩ | rfl | rfl <;> rfl
/-- the address among a backend's cells -/
theorem Bk.arr_addr (x : Bk) (j : Nat) (hj : j < 17) : x.arr[j + 1]? = x.addr.arr[j]? := by
  rcases j with _ | j
  · rfl
  · rw [show j + 1 + 1 = j + 2 from rfl, Bk.arr_b x j (by omega), Adr.arr_b x.addr j (by omega)]

/-! ### whole structs -/
section
variable {P : Program}
end
/-! ### whole structs out of memory: what lies at a place -/
@[go_sem] theorem Has_bk_new (w : World) (x : Bk) (t : TypeId) : Has (w.alloc (.cells x.arr t)) w.heap.size 0 27 = True := by
  simp only [eq_iff_iff, iff_true]; exact (new_at w x.arr t 0 27 x.arr (Bk.arr_size x) (fun j _ => by rw [Nat.zero_add])).1
@[go_sem] theorem cellsAt_bk_new (w : World) (x : Bk) (t : TypeId) : cellsAt (w.alloc (.cells x.arr t)) w.heap.size 0 27 = x.arr :=
  (new_at w x.arr t 0 27 x.arr (Bk.arr_size x) (fun j _ => by rw [Nat.zero_add])).2
@[go_sem] theorem Has_bk_addr (w : World) (x : Bk) (t : TypeId) : Has (w.alloc (.cells x.arr t)) w.heap.size 1 17 = True := by
  simp only [eq_iff_iff, iff_true]; exact (new_at w x.arr t 1 17 x.addr.arr (Adr.arr_size _) (fun j hj => by rw [Nat.add_comm]; exact Bk.arr_addr x j hj)).1
@[go_sem] theorem cellsAt_bk_addr (w : World) (x : Bk) (t : TypeId) : cellsAt (w.alloc (.cells x.arr t)) w.heap.size 1 17 = x.addr.arr :=
  (new_at w x.arr t 1 17 x.addr.arr (Adr.arr_size _) (fun j hj => by rw [Nat.add_comm]; exact Bk.arr_addr x j hj)).2
@[go_sem] theorem Has_adr_new (w : World) (x : Adr) (t : TypeId) : Has (w.alloc (.cells x.arr t)) w.heap.size 0 17 = True := by
  simp only [eq_iff_iff, iff_true]; exact (new_at w x.arr t 0 17 x.arr (Adr.arr_size x) (fun j _ => by rw [Nat.zero_add])).1
@[go_sem] theorem cellsAt_adr_new (w : World) (x : Adr) (t : TypeId) : cellsAt (w.alloc (.cells x.arr t)) w.heap.size 0 17 = x.arr :=
  (new_at w x.arr t 0 17 x.arr (Adr.arr_size x) (fun j _ => by rw [Nat.zero_add])).2

/-- the load of a whole address, of a whole backend: kept shut until the walk can say what lies there -/
def loadAdr (v : Value) : Sem Value := Instr.loadAt 56 v
def loadBk (v : Value) : Sem Value := Instr.loadAt 60 v
def storeBk (v x : Value) : Sem Unit := Instr.storeAt 60 v x
@[go_sem ↓] theorem loadAdr_is (v : Value) : Instr.loadAt 56 v = loadAdr v := rfl
@[go_sem ↓] theorem loadBk_is (v : Value) : Instr.loadAt 60 v = loadBk v := rfl
@[go_sem ↓] theorem storeBk_is (v x : Value) : Instr.storeAt 60 v x = storeBk v x := rfl
@[go_sem] theorem load_bk (W : World) (b o : Nat) (h : Has W b o 27) : (loadBk (.pointer (some ⟨b, o, none⟩))).run Tryz.prog W = .ok (.agg (cellsAt W b o 27)) W :=
  run_loadAt_has W b o 27 _ _ Tryz.underlying60 rfl (by kernel_rfl) h
@[go_sem] theorem load_adr (W : World) (b o : Nat) (h : Has W b o 17) : (loadAdr (.pointer (some ⟨b, o, none⟩))).run Tryz.prog W = .ok (.agg (cellsAt W b o 17)) W :=
  run_loadAt_has W b o 17 _ _ Tryz.underlying56 rfl (by kernel_rfl) h
/-- a whole backend into the block that was made last -/
@[go_sem] theorem store_bk_new (w : World) (c : Array Value) (x : Bk) (hc : c.size = 27) :
    (storeBk (.pointer (some ⟨w.heap.size, 0, none⟩)) (.agg x.arr)).run Tryz.prog (w.alloc (.cells c 60)) = .ok () (w.alloc (.cells x.arr 60)) :=
  run_storeAt_new w _ c x.arr (by rw [Bk.arr_size]; kernel_rfl) (by rw [Bk.arr_size]; exact hc) (Bk.arr_one x)
/-- the backend without anything -/
def noBk : Bk := ⟨[], ⟨false, Vector.replicate 16 0⟩, 0, Vector.replicate 6 0, 0, false⟩
theorem noBk_arr : #[Value.string { data := #[] }, Value.bool false, Value.int IntKind.u8 0, Value.int IntKind.u8 0, Value.int IntKind.u8 0, Value.int IntKind.u8 0, Value.int IntKind.u8 0, Value.int IntKind.u8 0, Value.int IntKind.u8 0, Value.int IntKind.u8 0, Value.int IntKind.u8 0, Value.int IntKind.u8 0, Value.int IntKind.u8 0, Value.int IntKind.u8 0, Value.int IntKind.u8 0, Value.int IntKind.u8 0, Value.int IntKind.u8 0, Value.int IntKind.u8 0, Value.int IntKind.i64 0, Value.int IntKind.u8 0, Value.int IntKind.u8 0, Value.int IntKind.u8 0, Value.int IntKind.u8 0, Value.int IntKind.u8 0, Value.int IntKind.u8 0, Value.float FloatKind.f64 0, Value.bool false] = noBk.arr := rfl
@[go_sem] theorem noBk_agg : Value.agg #[Value.string { data := #[] }, Value.bool false, Value.int IntKind.u8 0, Value.int IntKind.u8 0, Value.int IntKind.u8 0, Value.int IntKind.u8 0, Value.int IntKind.u8 0, Value.int IntKind.u8 0, Value.int IntKind.u8 0, Value.int IntKind.u8 0, Value.int IntKind.u8 0, Value.int IntKind.u8 0, Value.int IntKind.u8 0, Value.int IntKind.u8 0, Value.int IntKind.u8 0, Value.int IntKind.u8 0, Value.int IntKind.u8 0, Value.int IntKind.u8 0, Value.int IntKind.i64 0, Value.int IntKind.u8 0, Value.int IntKind.u8 0, Value.int IntKind.u8 0, Value.int IntKind.u8 0, Value.int IntKind.u8 0, Value.int IntKind.u8 0, Value.float FloatKind.f64 0, Value.bool false] = Value.agg noBk.arr := rfl
@[go_sem] theorem noBk_cells : Obj.cells #[Value.string { data := #[] }, Value.bool false, Value.int IntKind.u8 0, Value.int IntKind.u8 0, Value.int IntKind.u8 0, Value.int IntKind.u8 0, Value.int IntKind.u8 0, Value.int IntKind.u8 0, Value.int IntKind.u8 0, Value.int IntKind.u8 0, Value.int IntKind.u8 0, Value.int IntKind.u8 0, Value.int IntKind.u8 0, Value.int IntKind.u8 0, Value.int IntKind.u8 0, Value.int IntKind.u8 0, Value.int IntKind.u8 0, Value.int IntKind.u8 0, Value.int IntKind.i64 0, Value.int IntKind.u8 0, Value.int IntKind.u8 0, Value.int IntKind.u8 0, Value.int IntKind.u8 0, Value.int IntKind.u8 0, Value.int IntKind.u8 0, Value.float FloatKind.f64 0, Value.bool false] 60 = Obj.cells noBk.arr 60 := rfl
/-- a function whose first result is a backend that lies in a cell -/
theorem ret_bk {fn : Func} {p u : Tmp} (h : fn.results = #[.cell p 60, .tmp u]) (tmps : Array Value) (W : World) (b o : Nat) (hp : tmps.getD p undef = .pointer (some ⟨b, o, none⟩)) (hh : Has W b o 27) :
    (results fn tmps).run Tryz.prog W = .ok (.tuple #[.agg (cellsAt W b o 27), tmps.getD u undef]) W := by
  have hl := run_loadAt_has W b o 27 _ _ Tryz.underlying60 rfl (by kernel_rfl) hh
  simp only [Instr.loadAt, Instr.sureAddr, Sem.run_bind, Sem.run_pure, Result.andThen_ok] at hl
  rw [results_cell_tmp h, hp]
  simp [asAddr, Result.andThen, hl]
/-- a whole backend into cells that are there -/
def setBk (W : World) (b o : Nat) (x : Bk) : World := W.setCells b o x.arr.toList
@[go_sem] theorem store_bk (W : World) (b o : Nat) (x : Bk) (h : W.there b o 27) : (storeBk (.pointer (some ⟨b, o, none⟩)) (.agg x.arr)).run Tryz.prog W = .ok () (setBk W b o x) :=
  run_storeAt_mid W b o _ x.arr (by rw [Bk.arr_size]; exact h) (by rw [Bk.arr_size]; kernel_rfl) (Bk.arr_one x)
theorem setBk_same (W : World) (b o : Nat) (x : Bk) (h : W.there b o 27) : ∀ j, j < 27 → (setBk W b o x).cell? ⟨b, o + j, none⟩ = x.arr[j]? := fun j hj => by
  have hs := Bk.arr_size x
  have := World.cell?_setCells_in b x.arr.toList o W (fun i hi => (h i (by simpa [hs] using hi)).1) j (by simpa [hs] using hj)
  rw [setBk, this, Array.getElem_toList, Array.getElem?_eq_getElem (by rw [hs]; exact hj)]
theorem setBk_at (W : World) (b o : Nat) (x : Bk) (h : W.there b o 27) : Has (setBk W b o x) b o 27 ∧ cellsAt (setBk W b o x) b o 27 = x.arr :=
  cellsAt_eq (Bk.arr_size x) (setBk_same W b o x h)
theorem setBk_other (W : World) (b o : Nat) (x : Bk) (p : Addr) (h : p.block ≠ b) : (setBk W b o x).cell? p = W.cell? p :=
  World.cell?_setCells_out b _ o W p (fun hb _ => absurd hb h)
theorem setBk_below {w W : World} {B : Nat} (h : Below B w W) (b o : Nat) (x : Bk) (hb : B ≤ b) : Below B w (setBk W b o x) := by
  unfold setBk
  generalize x.arr.toList = l
  induction l generalizing W o with
  | nil => exact h
  | cons v l ih => rw [World.setCells]; exact ih (h.setCell hb v) (o + 1)
@[go_sem] theorem store_bk_anew (w : World) (x y : Bk) :
    (storeBk (.pointer (some ⟨w.heap.size, 0, none⟩)) (.agg x.arr)).run Tryz.prog (w.alloc (.cells y.arr 60)) = .ok () (w.alloc (.cells x.arr 60)) :=
  store_bk_new w y.arr x (Bk.arr_size y)
theorem there_new (w : World) (c : Array Value) (t : TypeId) (hc : c.size = 27) : (w.alloc (.cells c t)).there w.heap.size 0 27 := fun j hj => by
  have hj' : j < c.size := by omega
  refine ⟨by rw [Nat.zero_add, cell_new, Array.getElem?_eq_getElem hj']; rfl, ?_⟩
  simp
end Go.Proofs.YtmpemeemlhmaaaaGreat

namespace Go.Proofs.YtmpemeemlhmaaaaGreat.Fl
open Ieee

theorem d_binade : double.binade = 4503599627370496 := by decide
theorem d_sign : double.signWeight = 9223372036854775808 := by decide
theorem d_inf : double.infRung = 9218868437227405312 := by decide
theorem d_least : double.leastPlace = -1074 := by decide
theorem d_frac : double.fractionBits = 52 := rfl

/-- of a rung: the magnitude, the place (above the least), the value in units of the least number -/
def mag (r : Nat) : Nat := if r < 4503599627370496 then r else 4503599627370496 + r % 4503599627370496
def pl (r : Nat) : Nat := r / 4503599627370496 - 1
def V (r : Nat) : Nat := mag r * 2 ^ pl r

theorem mag_lt (r : Nat) : mag r < 9007199254740992 := by unfold mag; split <;> omega

theorem read_pos {x : Nat} (h : x < 9218868437227405312) : double.read x = .number false (mag x) ((pl x : Int) - 1074) := by
  unfold Format.read
  simp only [d_sign, d_binade, d_inf, d_least]
  have h1 : x / 9223372036854775808 = 0 := by omega
  have h2 : x % 9223372036854775808 = x := by omega
  rw [h1, h2]
  simp only [mag, pl]
  by_cases h3 : x < 4503599627370496
  · have : x / 4503599627370496 = 0 := by omega
    simp [this, h3]
  · rw [if_neg h3, if_pos h, if_neg h3]
    congr 1

theorem read_neg {x : Nat} (h : x < 9218868437227405312) : double.read (9223372036854775808 + x) = .number true (mag x) ((pl x : Int) - 1074) := by
  unfold Format.read
  simp only [d_sign, d_binade, d_inf, d_least]
  have h1 : (9223372036854775808 + x) / 9223372036854775808 = 1 := by omega
  have h2 : (9223372036854775808 + x) % 9223372036854775808 = x := by omega
  rw [h1, h2]
  simp only [mag, pl]
  by_cases h3 : x < 4503599627370496
  · have : x / 4503599627370496 = 0 := by omega
    simp [this, h3]
  · rw [if_neg h3, if_pos h, if_neg h3]
    congr 1

theorem read_inf : double.read 9218868437227405312 = .infinity false := by decide +kernel
theorem read_ninf : double.read 18442240474082181120 = .infinity true := by decide +kernel
theorem read_nan {x : Nat} (h : 9218868437227405312 < x) (h' : x < 9223372036854775808) : double.read x = .nan false (x - 9218868437227405312) := by
  unfold Format.read
  simp only [d_sign, d_binade, d_inf, d_least]
  have h1 : x / 9223372036854775808 = 0 := by omega
  have h2 : x % 9223372036854775808 = x := by omega
  rw [h1, h2, if_neg (by omega), if_neg (by omega), if_neg (by omega)]
  rfl
theorem read_nnan {x : Nat} (h : 18442240474082181120 < x) (h' : x < 18446744073709551616) : double.read x = .nan true (x - 18442240474082181120) := by
  unfold Format.read
  simp only [d_sign, d_binade, d_inf, d_least]
  have h1 : x / 9223372036854775808 = 1 := by omega
  have h2 : x % 9223372036854775808 = x - 9223372036854775808 := by omega
  rw [h1, h2, if_neg (by omega), if_neg (by omega), if_neg (by omega)]
  simp
  omega

/-- the value grows with the rung, by the unit of the lower one's place -/
theorem V_succ (r : Nat) : V (r + 1) = V r + 2 ^ pl r := by
  unfold V mag pl
  by_cases h : r + 1 < 4503599627370496
  · have h1 : r / 4503599627370496 = 0 := by omega
    have h2 : (r + 1) / 4503599627370496 = 0 := by omega
    rw [if_pos h, if_pos (by omega), h1, h2]
    simp
  · rw [if_neg h]
    by_cases h3 : (r + 1) % 4503599627370496 = 0
    · -- the next binade begins
      have h4 : r % 4503599627370496 = 4503599627370495 := by omega
      have h5 : (r + 1) / 4503599627370496 = r / 4503599627370496 + 1 := by omega
      rw [h3, h5]
      by_cases h6 : r < 4503599627370496
      · have h7 : r / 4503599627370496 = 0 := by omega
        rw [if_pos h6, h7]
        simp
        omega
      · have h7 : r / 4503599627370496 = (r / 4503599627370496 - 1) + 1 := by omega
        rw [if_neg h6, h4]
        have e : r / 4503599627370496 + 1 - 1 = (r / 4503599627370496 - 1) + 1 := by omega
        rw [e, Nat.pow_succ]
        generalize 2 ^ (r / 4503599627370496 - 1) = z
        omega
    · have h5 : (r + 1) / 4503599627370496 = r / 4503599627370496 := by omega
      have h6 : (r + 1) % 4503599627370496 = r % 4503599627370496 + 1 := by omega
      rw [h5, h6, if_neg (by omega)]
      generalize 2 ^ (r / 4503599627370496 - 1) = z
      rw [show 4503599627370496 + (r % 4503599627370496 + 1) = (4503599627370496 + r % 4503599627370496) + 1 from rfl, Nat.succ_mul]

theorem V_mono {r s : Nat} (h : r ≤ s) : V r ≤ V s := by
  induction h with
  | refl => exact Nat.le_refl _
  | step _ ih => rw [V_succ]; exact Nat.le_trans ih (Nat.le_add_right _ _)
theorem V_lt {r s : Nat} (h : r < s) : V r < V s := by
  have h1 := V_succ r
  have h2 := V_mono (show r + 1 ≤ s from h)
  have h3 : 0 < 2 ^ pl r := Nat.two_pow_pos _
  omega
theorem V_le_iff {r s : Nat} : V r ≤ V s ↔ r ≤ s := ⟨fun h => by
  by_cases hc : r ≤ s
  · exact hc
  · have := V_lt (show s < r by omega); omega, V_mono⟩
theorem V_lt_iff {r s : Nat} : V r < V s ↔ r < s := by
  have := @V_le_iff s r; omega
theorem V_zero : V 0 = 0 := by decide
theorem V_pos {r : Nat} (h : 0 < r) : 0 < V r := by have := V_lt h; omega

theorem compare_mul (a b : Int) (z : Nat) (hz : 0 < z) : compare (a * z) (b * z) = compare a b := by
  simp only [compare, compareOfLessAndEq]
  have a1 : (a * (z : Int) < b * z) ↔ a < b := Int.mul_lt_mul_right (by omega)
  have a2 : (a * (z : Int) = b * z) ↔ a = b := Int.mul_eq_mul_right_iff (by omega)
  simp only [a1, a2]
theorem signed_mul (s : Bool) (m k d : Nat) : signed s m (k + d) = signed s m k * (2 ^ d : Nat) := by
  unfold signed
  simp only [Nat.shiftLeft_eq, Nat.pow_add]
  cases s
  · simp [Int.mul_assoc]
  · simp [Int.mul_assoc, Int.neg_mul]
/-- finite numbers stand to each other as their values -/
theorem order_num (s t : Bool) (m n i j : Nat) : Datum.order (.number s m ((i : Int) - 1074)) (.number t n ((j : Int) - 1074)) = some (compare (signed s m i) (signed t n j)) := by
  simp only [Datum.order]
  congr 1
  obtain ⟨b, hb⟩ : ∃ b : Nat, b = min i j := ⟨_, rfl⟩
  have e0 : min ((i : Int) - 1074) ((j : Int) - 1074) = (b : Int) - 1074 := by omega
  rw [e0]
  have e1 : signed s m i = signed s m ((i : Int) - 1074 - ((b : Int) - 1074)).toNat * (2 ^ b : Nat) := by
    rw [← signed_mul]; congr 1; omega
  have e2 : signed t n j = signed t n ((j : Int) - 1074 - ((b : Int) - 1074)).toNat * (2 ^ b : Nat) := by
    rw [← signed_mul]; congr 1; omega
  rw [e1, e2]
  exact (compare_mul _ _ _ (Nat.two_pow_pos _)).symm

/-- the finite words, and the value of each -/
def fin (x : Nat) : Prop := x < 9218868437227405312 ∨ (9223372036854775808 ≤ x ∧ x < 18442240474082181120)
def SV (x : Nat) : Int := if x < 9223372036854775808 then (V x : Int) else -(V (x - 9223372036854775808) : Int)
theorem read_fin {x : Nat} (h : fin x) : ∃ (s : Bool) (m i : Nat), double.read x = .number s m ((i : Int) - 1074) ∧ signed s m i = SV x := by
  rcases h with h | ⟨h, h'⟩
  · exact ⟨_, _, _, read_pos h, by unfold SV; rw [if_pos (by omega)]; simp [signed, V, Nat.shiftLeft_eq]⟩
  · have := read_neg (x := x - 9223372036854775808) (by omega)
    rw [show 9223372036854775808 + (x - 9223372036854775808) = x by omega] at this
    exact ⟨_, _, _, this, by unfold SV; rw [if_neg (by omega)]; simp [signed, V, Nat.shiftLeft_eq]⟩
theorem ord_fin {x y : Nat} (hx : fin x) (hy : fin y) : double.order x y = some (compare (SV x) (SV y)) := by
  obtain ⟨s, m, i, h1, h2⟩ := read_fin hx
  obtain ⟨t, n, j, h3, h4⟩ := read_fin hy
  unfold Format.order
  rw [h1, h3, order_num, h2, h4]
/-- what isn't finite is an infinity or no number -/
theorem not_fin {x : Nat} (hx : x < 18446744073709551616) (h : ¬ fin x) : x = 9218868437227405312 ∨ x = 18442240474082181120 ∨ (∃ s f, double.read x = .nan s f) := by
  unfold fin at h
  by_cases h1 : x = 9218868437227405312
  · exact .inl h1
  by_cases h2 : x = 18442240474082181120
  · exact .inr (.inl h2)
  by_cases h3 : x < 9223372036854775808
  · exact .inr (.inr ⟨_, _, read_nan (by omega) h3⟩)
  · exact .inr (.inr ⟨_, _, read_nnan (by omega) hx⟩)
theorem ord_nan_l {x y : Nat} {s f} (h : double.read x = .nan s f) : double.order x y = none := by
  unfold Format.order; rw [h]; rfl
theorem ord_nan_r {x y : Nat} {s f} (h : double.read y = .nan s f) : double.order x y = none := by
  unfold Format.order; rw [h]; cases double.read x <;> rfl
theorem ord_inf_l {y : Nat} (hy : fin y) : double.order 9218868437227405312 y = some .gt := by
  obtain ⟨t, n, j, h3, h4⟩ := read_fin hy
  unfold Format.order; rw [h3, read_inf]; rfl
theorem ord_ninf_l {y : Nat} (hy : fin y) : double.order 18442240474082181120 y = some .lt := by
  obtain ⟨t, n, j, h3, h4⟩ := read_fin hy
  unfold Format.order; rw [h3, read_ninf]; rfl
theorem ord_inf_r {y : Nat} (hy : fin y) : double.order y 9218868437227405312 = some .lt := by
  obtain ⟨t, n, j, h3, h4⟩ := read_fin hy
  unfold Format.order; rw [h3, read_inf]; rfl
theorem ord_ninf_r {y : Nat} (hy : fin y) : double.order y 18442240474082181120 = some .gt := by
  obtain ⟨t, n, j, h3, h4⟩ := read_fin hy
  unfold Format.order; rw [h3, read_ninf]; rfl

theorem log2_mul (k t : Nat) (hk : 0 < k) : (k * 2 ^ t).log2 = k.log2 + t := by
  have h0 : k * 2 ^ t ≠ 0 := Nat.ne_of_gt (Nat.mul_pos hk (Nat.two_pow_pos _))
  have h1 : 2 ^ k.log2 ≤ k := Nat.log2_self_le (by omega)
  have h2 : k < 2 ^ (k.log2 + 1) := Nat.lt_log2_self
  refine Nat.le_antisymm ?_ ?_
  · refine Nat.le_of_lt_succ ((Nat.log2_lt h0).2 ?_)
    rw [show Nat.succ (k.log2 + t) = (k.log2 + 1) + t by omega, Nat.pow_add]
    exact (Nat.mul_lt_mul_right (Nat.two_pow_pos _)).2 h2
  · refine (Nat.le_log2 h0).2 ?_
    rw [Nat.pow_add]
    exact Nat.mul_le_mul_right _ h1

theorem cut_zero (way : Toward) (neg : Bool) (n : Nat) : way.cut neg n 0 = n := by
  unfold Toward.cut
  cases way <;> simp [Nat.mod_one]
theorem cut_exact (neg : Bool) (k t : Nat) (hk : 0 < k) : Toward.even.cut neg (k * 2 ^ t) t = k := by
  unfold Toward.cut
  have h0 : min t ((k * 2 ^ t).log2 + 2) = t := by rw [log2_mul _ _ hk]; omega
  have h1 : (1 <<< t) = 2 ^ t := by rw [Nat.shiftLeft_eq, Nat.one_mul]
  have hp : 0 < 2 ^ t := Nat.two_pow_pos _
  simp only [h0, h1, Nat.mul_div_cancel _ hp, Nat.mul_mod_left]
  simp
theorem cut_down (n t : Nat) : Toward.down.cut false n t = n / 2 ^ t := by
  unfold Toward.cut
  simp only [Bool.false_and, Bool.toNat_false, Nat.add_zero]
  have h1 : ∀ d, (1 <<< d) = 2 ^ d := fun d => by rw [Nat.shiftLeft_eq, Nat.one_mul]
  rw [h1]
  by_cases h : t ≤ n.log2 + 2
  · rw [Nat.min_eq_left h]
  · rw [Nat.min_eq_right (by omega)]
    have h2 : n < 2 ^ (n.log2 + 1) := Nat.lt_log2_self
    have h3 : 2 ^ (n.log2 + 1) ≤ 2 ^ (n.log2 + 2) := Nat.pow_le_pow_right (by omega) (by omega)
    have h4 : 2 ^ (n.log2 + 2) ≤ 2 ^ t := Nat.pow_le_pow_right (by omega) (by omega)
    rw [Nat.div_eq_of_lt (by omega), Nat.div_eq_of_lt (by omega)]
theorem cut_trunc (neg : Bool) (n t : Nat) : Toward.zero.cut neg n t = n / 2 ^ t := by
  have := cut_down n t
  unfold Toward.cut at this ⊢
  simpa using this

/-- A NUMBER THAT THE FORMAT HAS IS WRITTEN AS ITSELF. -/
theorem nearest_exact (neg : Bool) (k t s : Nat) (p : Int) (hp : p + t = (s : Int) - 1074) (hk0 : 0 < k) (hk : k < 9007199254740992) (hs : s + k.log2 ≤ 2097) :
    ∃ r, r < 9218868437227405312 ∧ double.nearest neg (k * 2 ^ t) p = double.word neg r ∧ V r = k * 2 ^ s := by
  have hlog : k.log2 ≤ 52 := Nat.le_of_lt_succ ((Nat.log2_lt (by omega)).2 (by simpa using hk))
  have h1 : 2 ^ k.log2 ≤ k := Nat.log2_self_le (by omega)
  have h2 : k < 2 ^ (k.log2 + 1) := Nat.lt_log2_self
  have hne : k * 2 ^ t ≠ 0 := Nat.ne_of_gt (Nat.mul_pos hk0 (Nat.two_pow_pos _))
  obtain ⟨l, hl⟩ : ∃ l : Nat, l = s + k.log2 - 52 := ⟨_, rfl⟩
  have hlast : max (p + ((k * 2 ^ t).log2 : Int) - 52) (-1074) = (l : Int) - 1074 := by rw [log2_mul _ _ hk0]; omega
  have hkept : Toward.even.cut neg ((k * 2 ^ t) <<< (p - ((l : Int) - 1074)).toNat) (((l : Int) - 1074) - p).toNat = k * 2 ^ (s - l) := by
    rw [Nat.shiftLeft_eq]
    by_cases hc : (l : Int) - 1074 ≤ p
    · rw [show (((l : Int) - 1074) - p).toNat = 0 by omega, cut_zero, Nat.mul_assoc, ← Nat.pow_add]
      congr 2; omega
    · rw [show (p - ((l : Int) - 1074)).toNat = 0 by omega, Nat.pow_zero, Nat.mul_one]
      obtain ⟨d, hd⟩ : ∃ d : Nat, d = (((l : Int) - 1074) - p).toNat := ⟨_, rfl⟩
      rw [← hd, show k * 2 ^ t = (k * 2 ^ (s - l)) * 2 ^ d by rw [Nat.mul_assoc, ← Nat.pow_add]; congr 2; omega]
      exact cut_exact _ _ _ (Nat.mul_pos hk0 (Nat.two_pow_pos _))
  have hrun : double.nearest neg (k * 2 ^ t) p = double.word neg (min (l * 4503599627370496 + k * 2 ^ (s - l)) 9218868437227405312) := by
    unfold Format.nearest
    simp only [if_neg hne, d_frac, d_least, d_binade, d_inf]
    rw [show ((52 : Nat) : Int) = 52 from rfl, hlast, hkept]
    congr 4
    omega
  by_cases hl0 : l = 0
  · subst hl0
    have hb : k * 2 ^ s < 9007199254740992 := by
      have h5 : k * 2 ^ s < 2 ^ (k.log2 + 1) * 2 ^ s := (Nat.mul_lt_mul_right (Nat.two_pow_pos _)).2 h2
      rw [← Nat.pow_add] at h5
      have h6 : 2 ^ (k.log2 + 1 + s) ≤ 2 ^ 53 := Nat.pow_le_pow_right (by omega) (by omega)
      omega
    refine ⟨k * 2 ^ s, by omega, ?_, ?_⟩
    · rw [hrun, Nat.zero_mul, Nat.zero_add, Nat.sub_zero, Nat.min_eq_left (by omega)]
    · generalize k * 2 ^ s = z at hb
      unfold V mag pl
      split
      · rename_i h7; rw [show z / 4503599627370496 = 0 by omega]; simp
      · rename_i h7; rw [show z / 4503599627370496 = 1 by omega]; simp; omega
  · have hb1 : 4503599627370496 ≤ k * 2 ^ (s - l) := by
      have h5 : 2 ^ k.log2 * 2 ^ (s - l) ≤ k * 2 ^ (s - l) := Nat.mul_le_mul_right _ h1
      rw [← Nat.pow_add, show k.log2 + (s - l) = 52 by omega] at h5
      exact h5
    have hb2 : k * 2 ^ (s - l) < 9007199254740992 := by
      have h5 : k * 2 ^ (s - l) < 2 ^ (k.log2 + 1) * 2 ^ (s - l) := (Nat.mul_lt_mul_right (Nat.two_pow_pos _)).2 h2
      rw [← Nat.pow_add, show k.log2 + 1 + (s - l) = 53 by omega] at h5
      exact h5
    have hv : k * 2 ^ s = k * 2 ^ (s - l) * 2 ^ l := by rw [Nat.mul_assoc, ← Nat.pow_add]; congr 2; omega
    rw [hv]
    generalize k * 2 ^ (s - l) = z at hb1 hb2 hrun
    refine ⟨l * 4503599627370496 + z, by omega, ?_, ?_⟩
    · rw [hrun, Nat.min_eq_left (by omega)]
    · unfold V mag pl
      rw [if_neg (by omega), show (l * 4503599627370496 + z) / 4503599627370496 = l + 1 by omega, show (l * 4503599627370496 + z) % 4503599627370496 = z - 4503599627370496 by omega]
      rw [show 4503599627370496 + (z - 4503599627370496) = z by omega]
      rfl

/-- the unit 1, in units of the least number -/
def top : Nat := 1074
theorem top_is : top = 1074 := rfl
def U : Nat := 2 ^ top
theorem U_split' {p : Nat} (h : p ≤ top) : U = 2 ^ (top - p) * 2 ^ p := by
  have h1 : 2 ^ (top - p + p) = 2 ^ (top - p) * 2 ^ p := Nat.pow_add 2 (top - p) p
  rw [Nat.sub_add_cancel h] at h1
  exact h1
theorem U_split {p : Nat} (h : p ≤ 1074) : U = 2 ^ (1074 - p) * 2 ^ p := by
  have h1 := U_split' (p := p) (by rw [top_is]; exact h)
  rw [h1, show top - p = 1074 - p from congrArg (fun z => z - p) top_is]
theorem U_is : ∃ s : Nat, s = 1074 ∧ U = 2 ^ s := ⟨top, top_is, rfl⟩
theorem U_pos : 0 < U := Nat.two_pow_pos _
theorem read_1024 : double.read 4652218415073722368 = .number false 4503599627370496 (-42) := by decide +kernel
theorem V_1000 : V 4652007308841189376 = 1000 * U := by decide +kernel

theorem word_false (r : Nat) : double.word false r = r := rfl
/-- a number of the format, scaled by a power of two, within bounds -/
theorem write_scaled (x t s : Nat) (p : Int) (hp : p + t = (s : Int) - 1074) (hs : s ≤ 2045) :
    ∃ r, r < 9218868437227405312 ∧ double.write (.number false (mag x * 2 ^ t) p) = r ∧ V r = mag x * 2 ^ s := by
  unfold Format.write
  by_cases h0 : mag x = 0
  · rw [h0, Nat.zero_mul]
    exact ⟨0, by decide, by simp [Format.nearest, word_false], by simp [V_zero]⟩
  · have hm := mag_lt x
    have hlog : (mag x).log2 ≤ 52 := Nat.le_of_lt_succ ((Nat.log2_lt h0).2 (by simpa using hm))
    obtain ⟨r, a, b, c⟩ := nearest_exact false (mag x) t s p hp (by omega) hm (by omega)
    exact ⟨r, a, b.trans (word_false r), c⟩
theorem mul_1024 {x : Nat} (h : x ≤ 4652007308841189376) : ∃ r, r < 9218868437227405312 ∧ double.mul x 4652218415073722368 = some r ∧ V r = V x * 1024 := by
  unfold Format.mul
  rw [read_pos (x := x) (by omega), read_1024]
  obtain ⟨r, a, b, c⟩ := write_scaled x 52 (pl x + 10) ((pl x : Int) - 1074 + -42) (by omega) (by unfold pl; omega)
  refine ⟨r, a, ?_, ?_⟩
  · simp only [Datum.product, Option.map]
    rw [show (4503599627370496 : Nat) = 2 ^ 52 from rfl]
    exact congrArg some b
  · rw [c, V, Nat.pow_add, Nat.mul_assoc]
theorem mul_1024_m0 : double.mul 9223372036854775808 4652218415073722368 = some 9223372036854775808 := by decide +kernel

theorem pl_le_of_V {r c : Nat} (h : V r ≤ V c) : pl r ≤ pl c := by
  have := V_le_iff.1 h
  unfold pl
  have := Nat.div_le_div_right (c := 4503599627370496) this
  omega
theorem V_div {r : Nat} (h : pl r ≤ 1074) : mag r / 2 ^ (1074 - pl r) = V r / U := by
  unfold V
  rw [U_split h, Nat.mul_div_mul_right _ _ (Nat.two_pow_pos _)]
theorem integral_down {r : Nat} (hr : r < 9218868437227405312) (h : pl r ≤ 1074) : (double.read r).integral .down = .number false (V r / U) 0 := by
  rw [read_pos hr]
  simp only [Datum.integral]
  rw [show ((pl r : Int) - 1074).toNat = 0 by omega, show (-((pl r : Int) - 1074)).toNat = 1074 - pl r by omega, Nat.shiftLeft_zero, cut_down, V_div h]
theorem integral_zero {r : Nat} (hr : r < 9218868437227405312) (h : pl r ≤ 1074) : (double.read r).integral .zero = .number false (V r / U) 0 := by
  rw [read_pos hr]
  simp only [Datum.integral]
  rw [show ((pl r : Int) - 1074).toNat = 0 by omega, show (-((pl r : Int) - 1074)).toNat = 1074 - pl r by omega, Nat.shiftLeft_zero, cut_trunc, V_div h]
/-- a whole number is written as itself -/
theorem write_whole (q : Nat) (hq : q < 9007199254740992) : ∃ r, r < 9218868437227405312 ∧ double.write (.number false q 0) = r ∧ V r = q * U := by
  unfold Format.write
  by_cases h0 : q = 0
  · subst h0
    exact ⟨0, by decide, by simp [Format.nearest, word_false], by simp [V_zero]⟩
  · have hlog : q.log2 ≤ 52 := Nat.le_of_lt_succ ((Nat.log2_lt h0).2 (by simpa using hq))
    obtain ⟨u, hu, hU⟩ := U_is
    obtain ⟨r, a, b, c⟩ := nearest_exact false q 0 u 0 (by omega) (by omega) hq (by omega)
    rw [Nat.pow_zero, Nat.mul_one] at b
    rw [← hU] at c
    exact ⟨r, a, b.trans (word_false r), c⟩
theorem V_2p20 : V 4697254411347427328 = 1048576 * U := by decide +kernel
theorem pl_whole {r q : Nat} (hv : V r = q * U) (hq : q ≤ 1048576) : pl r ≤ 1074 := by
  have h1 : V r ≤ V 4697254411347427328 := by rw [hv, V_2p20]; exact Nat.mul_le_mul_right _ hq
  have h2 := pl_le_of_V h1
  have h3 : pl 4697254411347427328 = 1042 := by decide +kernel
  omega

/-- HOW MANY WHOLE QUANTA A WEIGHT HAS -/
def quanta (x : Nat) : Nat := V x * 1024 / U
theorem quanta_mono {x y : Nat} (h : x ≤ y) : quanta x ≤ quanta y := Nat.div_le_div_right (Nat.mul_le_mul_right _ (V_mono h))
theorem quanta_1000 : quanta 4652007308841189376 = 1024000 := by
  unfold quanta
  rw [V_1000, Nat.mul_right_comm, Nat.mul_div_cancel _ U_pos]
theorem quanta_le {x : Nat} (h : x ≤ 4652007308841189376) : quanta x ≤ 1024000 := quanta_1000 ▸ quanta_mono h

theorem V_one : V 4607182418800017408 = U := by decide +kernel
theorem pl_ge_one {r : Nat} (h : U ≤ V r) : 1022 ≤ pl r := by
  rw [← V_one] at h
  have := V_le_iff.1 h
  unfold pl; omega
/-- a whole number by 1024 -/
theorem div_1024 (n : Nat) (hn : n ≤ 1024000) : ∃ r, r < 9218868437227405312 ∧ double.div (double.write (.number false n 0)) 4652218415073722368 = some r ∧ V r * 1024 = n * U := by
  obtain ⟨r0, a0, b0, c0⟩ := write_whole n (by omega)
  rw [b0]
  by_cases h0 : n = 0
  · subst h0
    have hz : r0 = 0 := by
      have h1 : V r0 ≤ V 0 := by rw [c0, V_zero]; simp
      have := V_le_iff.1 h1
      omega
    subst hz
    exact ⟨0, by decide, by decide +kernel, by rw [V_zero]; simp⟩
  · have hU : U ≤ V r0 := by
      rw [c0]
      exact Nat.le_mul_of_pos_left _ (by omega)
    have hpl := pl_ge_one hU
    have hpl2 := pl_whole c0 (by omega)
    have hm := mag_lt r0
    have hm0 : mag r0 ≠ 0 := by
      intro h
      have : V r0 = 0 := by unfold V; rw [h, Nat.zero_mul]
      have := U_pos
      omega
    have hlog : (mag r0).log2 ≤ 52 := Nat.le_of_lt_succ ((Nat.log2_lt hm0).2 (by simpa using hm))
    obtain ⟨k, hk⟩ : ∃ k, k = 54 - (mag r0).log2 := ⟨_, rfl⟩
    obtain ⟨r, a, b, c⟩ := write_scaled r0 (k + 1) (pl r0 - 10) (((pl r0 : Int) - 1074) - (-42) - ((k + 52 : Nat) : Int) - 1) (by omega) (by omega)
    refine ⟨r, a, ?_, ?_⟩
    · unfold Format.div
      rw [read_pos a0, read_1024]
      simp only [Datum.quotient, d_frac, Option.map]
      rw [if_neg (by omega)]
      have hl2 : (4503599627370496 : Nat).log2 = 52 := by decide +kernel
      have hmore : 52 + 2 + (4503599627370496 : Nat).log2 - (mag r0).log2 = k + 52 := by rw [hl2]; omega
      rw [hmore, Nat.shiftLeft_eq]
      have hd : mag r0 * 2 ^ (k + 52) = mag r0 * 2 ^ k * 4503599627370496 := by rw [Nat.pow_add, Nat.mul_assoc]
      rw [hd, Nat.mul_div_cancel _ (by omega), Nat.mul_mod_left]
      have hq : 2 * (mag r0 * 2 ^ k) + ((0 : Nat) != 0).toNat = mag r0 * 2 ^ (k + 1) := by
        have : ((0 : Nat) != 0).toNat = 0 := rfl
        rw [this, Nat.add_zero, Nat.pow_succ, Nat.mul_left_comm, Nat.mul_comm 2]
      rw [hq]
      exact congrArg some b
    · rw [c, ← c0]
      unfold V
      rw [Nat.mul_assoc, show (1024 : Nat) = 2 ^ 10 from rfl, ← Nat.pow_add, show pl r0 - 10 + 10 = pl r0 by omega]
/-- what has so many quanta to the last -/
theorem quanta_of {r n : Nat} (h : V r * 1024 = n * U) : quanta r = n := by
  unfold quanta; rw [h, Nat.mul_div_cancel _ U_pos]
theorem le_1000_of {r n : Nat} (h : V r * 1024 = n * U) (hn : n ≤ 1024000) : r ≤ 4652007308841189376 := by
  rw [← V_le_iff, V_1000]
  have : n * U ≤ 1024000 * U := Nat.mul_le_mul_right _ hn
  generalize V r = v at h ⊢
  generalize n * U = z at h this
  omega
theorem pred_arith {K v y x z u : Nat} (hs : y = v + x) (h : y * K = z + u) (hp2 : x * K ≤ u) : v * K = z + (u - x * K) := by
  subst hs
  rw [Nat.add_mul] at h
  omega
/-- a little less has one fewer -/
theorem V_pos_of {r n : Nat} (h : V r * 1024 = n * U) (h0 : 0 < n) : 0 < r := by
  rcases Nat.eq_zero_or_pos r with h1 | h1
  · subst h1
    rw [V_zero, Nat.zero_mul] at h
    exact absurd h.symm (Nat.ne_of_gt (Nat.mul_pos h0 U_pos))
  · exact h1
theorem gap_le {r : Nat} (hle : r ≤ 4652007308841189376) : 2 ^ pl (r - 1) * 1024 ≤ U := by
  obtain ⟨u, hu, hU2⟩ := U_is
  rw [hU2, show (1024 : Nat) = 2 ^ 10 from rfl, ← Nat.pow_add]
  exact Nat.pow_le_pow_right (by omega) (by unfold pl; omega)
theorem quanta_pred {r m : Nat} (h : V r * 1024 = (m + 1) * U) (hn : m + 1 ≤ 1024000) : quanta (r - 1) = m := by
  have hle := le_1000_of h hn
  have hU := U_pos
  have hr : 0 < r := V_pos_of h (Nat.succ_pos m)
  have hs := V_succ (r - 1)
  rw [Nat.sub_add_cancel hr] at hs
  have hp : 0 < 2 ^ pl (r - 1) := Nat.two_pow_pos _
  have hp2 := gap_le hle
  unfold quanta
  rw [Nat.succ_mul] at h
  have e1 : V (r - 1) * 1024 = m * U + (U - 2 ^ pl (r - 1) * 1024) := pred_arith hs h hp2
  have e2 : (U - 2 ^ pl (r - 1) * 1024) / U = 0 := Nat.div_eq_of_lt (Nat.sub_lt hU (Nat.mul_pos hp (by decide)))
  rw [e1, Nat.mul_comm m U, Nat.mul_add_div hU, e2, Nat.add_zero]
end Go.Proofs.YtmpemeemlhmaaaaGreat.Fl
