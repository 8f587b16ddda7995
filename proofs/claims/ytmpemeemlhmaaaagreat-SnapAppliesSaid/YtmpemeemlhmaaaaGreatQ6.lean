/- A law's frame, whatever its parameters: where the call returns true and all that lay in memory is as it was, the law's specification is met. -/
import Derived.Test.YtmpemeemlhmaaaaGreatRows
import Derived.WalkKit
import Derived.ProofKit
import Derived.OpenShut
import Derived.Carry
import Derived.Test.YtmpemeemlhmaaaaGreatQ1
import Derived.Lib.ConvBytes
import Derived.Test.YtmpemeemlhmaaaaGreatQ3
import Derived.Deep.WholeRow
import Derived.Deep.MidRow
import Derived.Laws.ResultCell
import Derived.Laws.StructEq
import Derived.ChangeKeysEq
import Derived.Deep.Slices
import Derived.Deep.Fields
set_option linter.unusedSimpArgs false
set_option linter.unusedVariables false
set_option maxRecDepth 100000
namespace Go.Proofs.YtmpemeemlhmaaaaGreat
open Go.ChangeShapes Go.WideShapes Go.ChangeAt Go.RowKit

theorem own : ownKnob Tryz.prog.godebug = none := by kernel_rfl
theorem laidOut : laidOutB Tryz.prog = true := by kernel_rfl

section
variable {H : Type} {enc : TypeId × Value → H} {P : Program}

theorem trodAll_below (hl : laidOutB P = true) {W W' : World} (hb : Below W.heap.size W W') : ∀ {ts : List TypeId} {vs : List Value} {ds : List (DataW H)} {ps : List MemPlace},
    (ts.all fun t => P.readableRec t && decide (t < P.types.size)) = true → (∀ x ∈ ps, x.block < W.heap.size) →
    DataW.TrodAll enc P W 0 (fun _ => true) true ts vs ds ps → DataW.TrodAll enc P W' 0 (fun b => decide (b < W.heap.size)) true ts vs ds ps
  | [], vs, ds, ps, _, _, h => by
    obtain ⟨rfl, rfl, rfl⟩ := trodAll_nil h
    exact trodAll_mk0
  | t :: ts, vs, ds, ps, hr, hlt, h => by
    obtain ⟨v, vs', d, ds', p, q, rfl, rfl, rfl, h1, h2⟩ := trodAll_cons h
    simp only [List.all_cons, Bool.and_eq_true, decide_eq_true_eq] at hr
    exact trodAll_cons_mk (Below.trod hl hr.1.1 hr.1.2 h1 hb (fun x hx => hlt x (List.mem_append_left _ hx)))
      (trodAll_below hl hb hr.2 (fun x hx => hlt x (List.mem_append_right _ hx)) h2)

theorem law_post {f : Func} {s : ChangeSpec} (hl : laidOutB P = true) {W W' : World} {args : Array Value} {ds gs : List (DataW H)} {before : List MemPlace}
    (hvars : s.vars = []) (hr : (f.params.toList.all fun t => P.readableRec t && decide (t < P.types.size)) = true) (T : TypeId) (hT : P.underlying T = some .bool) (hres : f.resultTypes = #[T])
    (hW : DataW.Whole enc P f.params.toList s.vars false W args.toList ds gs before)
    (hs : s.fn H ds = { results := [.lit (.bool true)], args := ds })
    (hb : Below W.heap.size W W') : s.post enc P f false true false false W args (.bool true) W' := by
  have hlt : ∀ p ∈ before, p.block < W.heap.size := fun p hp => hW.lt p hp
  have hW' := hW
  obtain ⟨p, q, hA, hV, rfl, hfz, hnd⟩ := hW
  rw [hvars] at hV
  obtain ⟨rfl, rfl⟩ := trodVars_none hV
  refine ⟨ds, [], p ++ [], [], p, [], hW', ?_, ?_, ?_, ?_, fun h => by cases h⟩
  · rw [List.append_nil, hs, hres]
    exact trodAll_mk1 (shut_bool hT true)
  · rw [List.append_nil, hs]
    exact trodAll_below hl hb hr (fun x hx => hlt x (List.mem_append_left _ hx)) hA
  · rw [List.append_nil, hs, hvars]
    rfl
  · exact hb.frame _
end

/-! ### arguments, opened -/
section
open Go.ChangeMaps (open_string)
variable {H : Type} {enc : TypeId × Value → H} {P : Program} {W : World} {base : Nat} {T E : TypeId} {v : Value} {d : DataW H} {ps : List MemPlace}

theorem open_u8 (ht : P.underlying T = some (.int .u8)) (hval : Value.okWide P W .any base T v) (h : DataW.Trod enc P W 0 (fun _ => true) true T v d ps) : ∃ u : Nat, v = .int .u8 (u : Nat) ∧ u < 256 := by
  obtain ⟨x, rfl, rfl, rfl, wx⟩ := open_int ht hval h
  have hx : 0 ≤ x ∧ x ≤ 255 := by simpa [Lit.wf, IntKind.min, IntKind.max, IntKind.signed, IntKind.bits] using wx
  exact ⟨x.toNat, by rw [Int.toNat_of_nonneg hx.1], by omega⟩
theorem open_u32 (ht : P.underlying T = some (.int .u32)) (hval : Value.okWide P W .any base T v) (h : DataW.Trod enc P W 0 (fun _ => true) true T v d ps) : ∃ u : Nat, v = .int .u32 (u : Nat) ∧ u < 4294967296 := by
  obtain ⟨x, rfl, rfl, rfl, wx⟩ := open_int ht hval h
  have hx : 0 ≤ x ∧ x ≤ 4294967295 := by simpa [Lit.wf, IntKind.min, IntKind.max, IntKind.signed, IntKind.bits] using wx
  exact ⟨x.toNat, by rw [Int.toNat_of_nonneg hx.1], by omega⟩
theorem open_u64 (ht : P.underlying T = some (.int .u64)) (hval : Value.okWide P W .any base T v) (h : DataW.Trod enc P W 0 (fun _ => true) true T v d ps) : ∃ u : Nat, v = .int .u64 (u : Nat) ∧ u < 18446744073709551616 := by
  obtain ⟨x, rfl, rfl, rfl, wx⟩ := open_int ht hval h
  have hx : 0 ≤ x ∧ x ≤ 18446744073709551615 := by simpa [Lit.wf, IntKind.min, IntKind.max, IntKind.signed, IntKind.bits] using wx
  exact ⟨x.toNat, by rw [Int.toNat_of_nonneg hx.1], by omega⟩
theorem open_i64 (ht : P.underlying T = some (.int .i64)) (hval : Value.okWide P W .any base T v) (h : DataW.Trod enc P W 0 (fun _ => true) true T v d ps) : ∃ x : Int, v = .int .i64 x ∧ (-9223372036854775808 ≤ x ∧ x ≤ 9223372036854775807) := by
  obtain ⟨x, rfl, rfl, rfl, wx⟩ := open_int ht hval h
  exact ⟨x, rfl, by simpa [Lit.wf, IntKind.min, IntKind.max, IntKind.signed, IntKind.bits] using wx⟩
theorem open_bl (ht : P.underlying T = some .bool) (hval : Value.okWide P W .any base T v) (h : DataW.Trod enc P W 0 (fun _ => true) true T v d ps) : ∃ b : Bool, v = .bool b := by
  obtain ⟨x, rfl, _, _⟩ := open_bool ht hval h
  exact ⟨x, rfl⟩
theorem open_str (ht : P.underlying T = some .string) (hval : Value.okWide P W .any base T v) (h : DataW.Trod enc P W 0 (fun _ => true) true T v d ps) : ∃ s : ByteArray, v = .string s ∧ s.size ≤ maxLen := by
  obtain ⟨x, rfl, _, _, h⟩ := open_string ht hval h
  exact ⟨x, rfl, h⟩

/-- a slice of integers: its cells -/
theorem open_ints_rd {k : IntKind} (ht : P.underlying T = some (.slice E)) (he : P.underlying E = some (.int k)) (hc : P.cellsOf E = 1) (hval : Value.okWide P W .any base T v) (h : DataW.Trod enc P W 0 (fun _ => true) true T v d ps) :
    ∃ (A : Option Addr) (n c : Nat) (l : List Int), v = .slice A n c ∧ n ≤ c ∧ c ≤ 9223372036854775807 ∧ Rd W W.heap.size 1 A n (l.map (Value.int k)) ∧ ∀ x ∈ l, (Lit.int k x).wf = true := by
  obtain ⟨a0, len, cap, rfl⟩ := okWide_slice ht hval
  obtain ⟨fuel, hf⟩ := h
  rcases open_ints ht he hc hf with ⟨hcs, hx⟩ | ⟨a, len', cap', zs, hcs, _, hl, hm, hz, hx, hcell, hwz⟩
  · simp only [Value.cells, List.cons.injEq, Value.slice.injEq, and_true] at hcs
    obtain ⟨rfl, rfl, rfl⟩ := hcs
    exact ⟨none, 0, 0, [], rfl, Nat.le_refl _, by omega, Rd.nil, by simp⟩
  · simp only [Value.cells, List.cons.injEq, Value.slice.injEq, and_true] at hcs
    obtain ⟨rfl, rfl, rfl⟩ := hcs
    unfold maxLen at hm
    rw [if_pos rfl] at hz
    refine ⟨some a, len, cap, zs.take len, rfl, hl, by omega, ⟨by rw [List.length_map, List.length_take]; omega, fun h0 => ⟨a, rfl, ?_, fun j u hu => ?_⟩⟩, fun x hx => hwz x (List.mem_of_mem_take hx)⟩
    · have := World.block_lt_of_cell? _ _ (hcell 0 (by omega))
      rwa [add_block] at this
    · have hj : j < len := by
        rcases Nat.lt_or_ge j len with h1 | h1
        · exact h1
        · rw [List.getElem?_eq_none (by rw [List.length_map, List.length_take]; omega)] at hu; cases hu
      rw [hcell j (by omega)]
      rw [List.getElem?_map, List.getElem?_take_of_lt hj, List.getElem?_eq_getElem (by omega)] at hu
      simp only [Option.map_some, Option.some.injEq] at hu
      rw [← hu, List.getD_eq_getElem?_getD, List.getElem?_eq_getElem (by omega)]
      rfl
theorem open_bytes (ht : P.underlying T = some (.slice E)) (he : P.underlying E = some (.int .u8)) (hc : P.cellsOf E = 1) (hval : Value.okWide P W .any base T v) (h : DataW.Trod enc P W 0 (fun _ => true) true T v d ps) :
    ∃ (A : Option Addr) (n c : Nat) (l : List UInt8), v = .slice A n c ∧ n ≤ c ∧ c ≤ 9223372036854775807 ∧ RdB W W.heap.size A n l := by
  obtain ⟨A, n, c, l, rfl, h1, h2, h3, h4⟩ := open_ints_rd ht he hc hval h
  refine ⟨A, n, c, l.map fun x => UInt8.ofNat x.toNat, rfl, h1, h2, ?_⟩
  unfold RdB
  rw [List.map_map]
  have e : l.map (bv ∘ fun x => UInt8.ofNat x.toNat) = l.map (Value.int .u8) := by
    refine List.map_congr_left (fun x hx => ?_)
    have hw := h4 x hx
    have hx2 : 0 ≤ x ∧ x ≤ 255 := by simpa [Lit.wf, IntKind.min, IntKind.max, IntKind.signed, IntKind.bits] using hw
    simp only [Function.comp, bv]
    congr 1
    rw [UInt8.toNat_ofNat']
    omega
  rw [e]
  exact h3
/-- a 64-bit number as a cell -/
def qv (n : Nat) : Value := .int .u64 (n : Nat)
theorem open_u64s (ht : P.underlying T = some (.slice E)) (he : P.underlying E = some (.int .u64)) (hc : P.cellsOf E = 1) (hval : Value.okWide P W .any base T v) (h : DataW.Trod enc P W 0 (fun _ => true) true T v d ps) :
    ∃ (A : Option Addr) (n c : Nat) (l : List Nat), v = .slice A n c ∧ n ≤ c ∧ c ≤ 9223372036854775807 ∧ Rd W W.heap.size 1 A n (l.map qv) ∧ ∀ x ∈ l, x < 18446744073709551616 := by
  obtain ⟨A, n, c, l, rfl, h1, h2, h3, h4⟩ := open_ints_rd ht he hc hval h
  have hb : ∀ x ∈ l, 0 ≤ x ∧ x ≤ 18446744073709551615 := fun x hx => by
    have hw := h4 x hx
    simpa [Lit.wf, IntKind.min, IntKind.max, IntKind.signed, IntKind.bits] using hw
  refine ⟨A, n, c, l.map Int.toNat, rfl, h1, h2, ?_, fun x hx => ?_⟩
  · rw [List.map_map]
    have e : l.map (qv ∘ Int.toNat) = l.map (Value.int .u64) := by
      refine List.map_congr_left (fun x hx => ?_)
      simp only [Function.comp, qv]
      congr 1
      have := hb x hx
      omega
    rw [e]
    exact h3
  · obtain ⟨y, hy, rfl⟩ := List.mem_map.1 hx
    have := hb y hy
    omega
end

end Go.Proofs.YtmpemeemlhmaaaaGreat

namespace Go.Proofs.YtmpemeemlhmaaaaGreat
open Go.RowKit

@[go_sem, simp] theorem textOf_toList (l : List UInt8) : (textOf l).toList = l := ByteArray.toList_mk l
@[go_sem, simp] theorem textOf_size (l : List UInt8) : (textOf l).size = l.length := by simp [textOf, ByteArray.size]
theorem textOf_of (s : ByteArray) : s = textOf s.data.toList := (textOf_data s).symm

/-- '[]byte(s)': the world behind it -/
def textWorld (w : World) (e : TypeId) (s : List UInt8) : World := Lib.bytesWorld w e (textOf s)
theorem textWorld_below (w : World) (e : TypeId) (s : List UInt8) : Below w.heap.size w (textWorld w e s) :=
  ⟨rfl, rfl, rfl, by unfold textWorld; rw [Lib.bytesWorld_size]; omega, fun k hk => Lib.bytesWorld_at_old w e _ k hk⟩
theorem textWorld_reads (w : World) (e : TypeId) (s : List UInt8) : RdB (textWorld w e s) (w.heap.size + 1) (some ⟨w.heap.size, 0, none⟩) s.length s := by
  refine ⟨by simp, fun _ => ⟨_, rfl, Nat.lt_succ_self _, fun j u hu => ?_⟩⟩
  have hj : j < s.length := by
    rcases Nat.lt_or_ge j s.length with h1 | h1
    · exact h1
    · rw [List.getElem?_eq_none (by simpa using h1)] at hu; cases hu
  have e1 : (⟨w.heap.size, 0, none⟩ : Addr).add j = ⟨w.heap.size, j, none⟩ := by unfold Addr.add; split <;> simp_all
  rw [e1]
  unfold textWorld
  rw [Lib.bytesWorld_cell w e _ j (by rw [textOf_size]; exact hj)]
  rw [List.getElem?_map, List.getElem?_eq_getElem hj] at hu
  simp only [Option.map_some, Option.some.injEq] at hu
  rw [← hu]
  simp [textOf, bv, List.getD_eq_getElem?_getD, hj]
theorem run_text_bytes {P : Program} (src dst e : TypeId) (hs : P.underlying src = some .string) (hd : P.underlying dst = some (.slice e)) (he : P.underlying e = some (.int .u8)) (s : List UInt8) (w : World) :
    (convert src dst (.string (textOf s))).run P w = .ok (.slice (some ⟨w.heap.size, 0, none⟩) s.length (grownCap w s.length 0 e)) (textWorld w e s) := by
  have := Lib.run_convert_string_bytes (P := P) w src dst e (textOf s) hs hd he
  rw [textOf_size] at this
  exact this
end Go.Proofs.YtmpemeemlhmaaaaGreat

namespace Go.Proofs.YtmpemeemlhmaaaaGreat
open Go.RowKit Go.ChangeShapes Go.WideShapes Go.ChangeAt Go.Deep

/-- a float64 as a cell -/
def fv (n : Nat) : Value := .float .f64 n
@[go_sem] theorem fv_is (n : Nat) : fv n = .float .f64 n := rfl
section
variable {P : Program}
/-- cells that lie in a row are loaded as they lie -/
theorem run_loadCells_of (w : World) (b o n : Nat) (c : Array Value) (hn : c.size = n) (hc : ∀ j, j < n → w.cell? ⟨b, o + j, none⟩ = c[j]?) :
    (loadCellsFrom ⟨b, o, none⟩ 0 n #[]).run P w = .ok c w := by
  subst hn
  have := run_loadCells_list (P := P) w ⟨b, o, none⟩ c.toList (fun j v hv => by
    have hj : j < c.size := by
      rcases Nat.lt_or_ge j c.size with h1 | h1
      · exact h1
      · rw [List.getElem?_eq_none (by simpa using h1)] at hv; cases hv
    rw [Addr.add_mid, hc j hj]
    simpa using hv)
  simpa [loadCells] using this
theorem cell_new (w : World) (c : Array Value) (t : TypeId) (j : Nat) : (w.alloc (.cells c t)).cell? ⟨w.heap.size, j, none⟩ = c[j]? :=
  cell_of_row _ _ j c t (0, 0) (heap_alloc_last w _)
end
/-- n cells can be read from offset o of block b on -/
def Has (W : World) (b o n : Nat) : Prop := ∀ j, j < n → ∃ v, W.cell? ⟨b, o + j, none⟩ = some v
/-- those cells -/
def cellsAt (W : World) (b o n : Nat) : Array Value := ((List.range n).map fun j => (W.cell? ⟨b, o + j, none⟩).getD undef).toArray
theorem cellsAt_size (W : World) (b o n : Nat) : (cellsAt W b o n).size = n := by simp [cellsAt]
theorem cellsAt_get (W : World) (b o n j : Nat) (hj : j < n) : (cellsAt W b o n)[j]? = some ((W.cell? ⟨b, o + j, none⟩).getD undef) := by
  simp [cellsAt, List.getElem?_toArray, hj]
theorem cellsAt_eq {W : World} {b o n : Nat} {c : Array Value} (hn : c.size = n) (h : ∀ j, j < n → W.cell? ⟨b, o + j, none⟩ = c[j]?) : Has W b o n ∧ cellsAt W b o n = c := by
  subst hn
  constructor
  · intro j hj
    exact ⟨c[j], by rw [h j hj]; exact Array.getElem?_eq_getElem hj⟩
  · apply Array.ext_getElem?
    intro j
    rcases Nat.lt_or_ge j c.size with hj | hj
    · rw [cellsAt_get _ _ _ _ _ hj, h j hj, Array.getElem?_eq_getElem hj]; rfl
    · rw [Array.getElem?_eq_none (by rw [cellsAt_size]; exact hj), Array.getElem?_eq_none hj]
theorem cellsAt_of {W W' : World} {b o n : Nat} (h : ∀ j, j < n → W'.cell? ⟨b, o + j, none⟩ = W.cell? ⟨b, o + j, none⟩) : cellsAt W' b o n = cellsAt W b o n := by
  unfold cellsAt
  congr 1
  refine List.map_congr_left (fun j hj => ?_)
  rw [h j (List.mem_range.1 hj)]
@[go_sem] theorem Has_drew (W : World) (b o n : Nat) : Has W.drew b o n = Has W b o n := by rw [eq_iff_iff]; exact Iff.rfl
@[go_sem] theorem cellsAt_drew (W : World) (b o n : Nat) : cellsAt W.drew b o n = cellsAt W b o n := rfl
@[go_sem] theorem Has_drewN (W : World) (k b o n : Nat) : Has (W.drewN k) b o n = Has W b o n := by rw [eq_iff_iff]; exact Iff.rfl
@[go_sem] theorem cellsAt_drewN (W : World) (k b o n : Nat) : cellsAt (W.drewN k) b o n = cellsAt W b o n := rfl
theorem Has_alloc {W : World} {b o n : Nat} (hb : b < W.heap.size) (ob : Obj) (h : Has W b o n) : Has (W.alloc ob) b o n := fun j hj => by
  obtain ⟨v, hv⟩ := h j hj
  exact ⟨v, by rw [World.cell?_alloc_lt W ob _ hb]; exact hv⟩
@[go_sem] theorem cellsAt_alloc (W : World) (ob : Obj) (b o n : Nat) (hb : b < W.heap.size) : cellsAt (W.alloc ob) b o n = cellsAt W b o n :=
  cellsAt_of fun j _ => World.cell?_alloc_lt W ob _ hb
@[go_sem] theorem Has_alloc_iff (W : World) (ob : Obj) (b o n : Nat) (hb : b < W.heap.size) : Has (W.alloc ob) b o n = Has W b o n := by
  have h : ∀ j, (W.alloc ob).cell? ⟨b, o + j, none⟩ = W.cell? ⟨b, o + j, none⟩ := fun j => World.cell?_alloc_lt W ob _ hb
  unfold Has
  simp only [h]
theorem new_at (w : World) (c : Array Value) (t : TypeId) (o n : Nat) (d : Array Value) (hd : d.size = n) (h : ∀ j, j < n → c[o + j]? = d[j]?) :
    Has (w.alloc (.cells c t)) w.heap.size o n ∧ cellsAt (w.alloc (.cells c t)) w.heap.size o n = d :=
  cellsAt_eq hd fun j hj => by rw [cell_new]; exact h j hj
theorem run_loadAt_has {P : Program} (W : World) (b o n : Nat) (ty : TypeId) (d : TypeDesc) (hu : P.underlying ty = some d) (hd : d.isRow = true) (hi : (P.info? ty).map (·.size) = some n) (h : Has W b o n) :
    (Instr.loadAt ty (.pointer (some ⟨b, o, none⟩))).run P W = .ok (.agg (cellsAt W b o n)) W := by
  have hc : W.rangeAt b o (cellsAt W b o n).toList := fun j v hv => by
    have hj : j < n := by
      rcases Nat.lt_or_ge j n with h1 | h1
      · exact h1
      · rw [List.getElem?_eq_none (by rw [Array.length_toList, cellsAt_size]; exact h1)] at hv; cases hv
    rw [Array.getElem?_toList, cellsAt_get _ _ _ _ _ hj] at hv
    obtain ⟨u, hu⟩ := h j hj
    rw [hu] at hv ⊢
    exact hv
  have := run_loadAt_mid (P := P) W b o ty (cellsAt W b o n).toList d hc hu hd (by rw [hi, Array.length_toList, cellsAt_size])
  simpa using this
theorem there_later {w W : World} {b o n B : Nat} (h : w.there b o n) (hb : Below B w W) (hlt : b < B) : W.there b o n := fun j hj => by
  obtain ⟨h1, h2⟩ := h j hj
  exact ⟨by rw [hb.cell hlt]; exact h1, by rw [hb.frozen hlt]; exact h2⟩
/-- what lay in a box lies there later -/
theorem box_later {w W : World} {c : Array Value} {t : TypeId} (hb : Below (w.alloc (.cells c t)).heap.size (w.alloc (.cells c t)) W) : ∀ k, W.cell? ⟨w.heap.size, k, none⟩ = c[k]? := fun k => by
  rw [hb.cell (p := ⟨w.heap.size, k, none⟩) (by simp)]
  exact cell_new w c t k
theorem extract_get (c : Array Value) (o n j : Nat) (hj : j < n) (h : o + n ≤ c.size) : (c.extract o (o + n))[j]? = c[o + j]? := by
  rw [Array.getElem?_extract]
  simp
  omega
/-- how many cells: under a name that no rule on arrays knows -/
def csize (c : Array Value) : Nat := c.size
@[go_sem] theorem Has_box (W : World) (c : Array Value) (t : TypeId) (b o n : Nat) (hb : b = W.heap.size) (h : o + n ≤ csize c) : Has (W.alloc (.cells c t)) b o n = True := by
  subst hb
  unfold csize at h
  simp only [eq_iff_iff, iff_true]
  exact (new_at W c t o n (c.extract o (o + n)) (by rw [Array.size_extract]; omega) (fun j hj => (extract_get c o n j hj h).symm)).1
@[go_sem] theorem cellsAt_box (W : World) (c : Array Value) (t : TypeId) (b o n : Nat) (hb : b = W.heap.size) (h : o + n ≤ csize c) : cellsAt (W.alloc (.cells c t)) b o n = c.extract o (o + n) := by
  subst hb
  unfold csize at h
  exact (new_at W c t o n (c.extract o (o + n)) (by rw [Array.size_extract]; omega) (fun j hj => (extract_get c o n j hj h).symm)).2
/-- behind a call that only made memory all old boxes stand -/
theorem boxes {W w1 : World} (hb : Below W.heap.size W w1) :
    (∀ b o, b < W.heap.size → w1.cell? ⟨b, o, none⟩ = W.cell? ⟨b, o, none⟩) ∧ (∀ b o, b < W.heap.size → w1.frozen? ⟨b, o, none⟩ = W.frozen? ⟨b, o, none⟩) ∧
    (∀ b o n, b < W.heap.size → Has w1 b o n = Has W b o n) ∧ (∀ b o n, b < W.heap.size → cellsAt w1 b o n = cellsAt W b o n) ∧ W.heap.size ≤ w1.heap.size := by
  refine ⟨fun b o h => hb.cell (p := ⟨b, o, none⟩) h, fun b o h => hb.frozen (p := ⟨b, o, none⟩) h, fun b o n h => ?_, fun b o n h => cellsAt_of fun j _ => hb.cell (p := ⟨b, o + j, none⟩) h, hb.size⟩
  unfold Has
  have : ∀ j, w1.cell? ⟨b, o + j, none⟩ = W.cell? ⟨b, o + j, none⟩ := fun j => hb.cell (p := ⟨b, o + j, none⟩) h
  simp only [this]
@[go_sem] theorem Has_set (W : World) (p : Addr) (v : Value) (b o n : Nat) : Has (W.setCell p v) b o n = Has W b o n := by
  rw [eq_iff_iff]
  unfold Has
  refine forall_congr' fun j => forall_congr' fun hj => ?_
  by_cases hp : p = ⟨b, o + j, none⟩
  · subst hp
    cases h : W.cell? ⟨b, o + j, none⟩ with
    | none =>
      have : (W.setCell ⟨b, o + j, none⟩ v).cell? ⟨b, o + j, none⟩ = none := by
        cases h2 : (W.setCell ⟨b, o + j, none⟩ v).cell? ⟨b, o + j, none⟩ with
        | none => rfl
        | some u =>
          exfalso
          cases hb : W.heap[b]? with
          | none => simp [World.cell?, World.setCell, Array.getElem?_modify, hb] at h2
          | some ob =>
            cases ob <;> simp_all [World.cell?, World.setCell, Array.getElem?_modify]
      simp [this]
    | some u => simp [World.cell?_setCell_same _ _ _ h]
  · rw [World.cell?_setCell_other _ _ _ _ hp]
@[go_sem] theorem cellsAt_set (W : World) (p : Addr) (v : Value) (b o n : Nat) (hp : p.block ≠ b) : cellsAt (W.setCell p v) b o n = cellsAt W b o n :=
  cellsAt_of fun j _ => World.cell?_setCell_other _ _ _ _ (fun e => hp (by rw [e]))
/-- block b holds just the cells c, and can be written -/
def Box (W : World) (b : Nat) (c : Array Value) : Prop := ∃ t, W.heap[b]? = some (.cells c t (0, 0))
theorem Box.lt {W : World} {b : Nat} {c : Array Value} (h : Box W b c) : b < W.heap.size := by
  obtain ⟨t, h⟩ := h
  exact (Array.getElem?_eq_some_iff.1 h).1
theorem Box.new (W : World) (c : Array Value) (t : TypeId) : Box (W.alloc (.cells c t)) W.heap.size c := ⟨t, heap_alloc_new W _⟩
theorem Box.new1 (W : World) (ob : Obj) (c : Array Value) (t : TypeId) : Box ((W.alloc ob).alloc (.cells c t)) (W.heap.size + 1) c := by
  have := Box.new (W.alloc ob) c t
  rwa [show (W.alloc ob).heap.size = W.heap.size + 1 by simp] at this
theorem Box.new2 (W : World) (ob ob2 : Obj) (c : Array Value) (t : TypeId) : Box (((W.alloc ob).alloc ob2).alloc (.cells c t)) (W.heap.size + 2) c := by
  have := Box.new1 (W.alloc ob) ob2 c t
  rwa [show (W.alloc ob).heap.size + 1 = W.heap.size + 2 by simp] at this
theorem Box.new3 (W : World) (ob ob2 ob3 : Obj) (c : Array Value) (t : TypeId) : Box ((((W.alloc ob).alloc ob2).alloc ob3).alloc (.cells c t)) (W.heap.size + 3) c := by
  have := Box.new2 (W.alloc ob) ob2 ob3 c t
  rwa [show (W.alloc ob).heap.size + 2 = W.heap.size + 3 by simp] at this
theorem Box.alloc {W : World} {b : Nat} {c : Array Value} (h : Box W b c) (ob : Obj) : Box (W.alloc ob) b c := by
  have hl := h.lt
  obtain ⟨t, h⟩ := h
  exact ⟨t, by rw [Below.heap_alloc W ob b hl]; exact h⟩
theorem Box.drew {W : World} {b : Nat} {c : Array Value} (h : Box W b c) : Box W.drew b c := h
theorem Box.drewN {W : World} {b : Nat} {c : Array Value} (h : Box W b c) (n : Nat) : Box (W.drewN n) b c := h
theorem Box.below {W W' : World} {b B : Nat} {c : Array Value} (h : Box W b c) (hb : Below B W W') (hl : b < B) : Box W' b c := by
  obtain ⟨t, h⟩ := h
  exact ⟨t, by rw [hb.block b hl]; exact h⟩
theorem Box.grown {W W' : World} {b : Nat} {c : Array Value} {row : Option Nat} (h : Box W b c) (hg : W.grownBy W' row) (hl : some b ≠ row) : Box W' b c := by
  have hl2 := h.lt
  obtain ⟨t, h⟩ := h
  exact ⟨t, by rw [hg.block b hl2 hl]; exact h⟩
theorem Box.set_other {W : World} {b : Nat} {c : Array Value} (h : Box W b c) (p : Addr) (v : Value) (hp : p.block ≠ b) : Box (W.setCell p v) b c := by
  obtain ⟨t, h⟩ := h
  exact ⟨t, by rw [Below.heap_setCell W p v b (fun e => hp e.symm)]; exact h⟩
theorem Box.set_same {W : World} {b : Nat} {c : Array Value} (h : Box W b c) (j : Nat) (v : Value) : Box (W.setCell ⟨b, j, none⟩ v) b (c.setIfInBounds j v) := by
  obtain ⟨t, h⟩ := h
  exact ⟨t, by rw [setCell_eq_setRow W b j c t (0, 0) v h]; exact setRow_heap W b c _ t (0, 0) h⟩
/-- what the walk asks of a box -/
theorem Box.facts {W : World} {b : Nat} {c : Array Value} (h : Box W b c) :
    (∀ j, W.cell? ⟨b, j, none⟩ = c[j]?) ∧ (∀ j, W.frozen? ⟨b, j, none⟩ = false) ∧ (∀ o n, o + n ≤ csize c → Has W b o n = True) ∧ (∀ o n, o + n ≤ csize c → cellsAt W b o n = c.extract o (o + n)) := by
  obtain ⟨t, h⟩ := h
  have hc : ∀ j, W.cell? ⟨b, j, none⟩ = c[j]? := fun j => cell_of_row W b j c t (0, 0) h
  refine ⟨hc, fun j => by simp [World.frozen?, h], fun o n hn => ?_, fun o n hn => ?_⟩
  · unfold csize at hn
    simp only [eq_iff_iff, iff_true]
    exact (cellsAt_eq (c := c.extract o (o + n)) (by rw [Array.size_extract]; omega) (fun j hj => by rw [hc, extract_get c o n j hj hn])).1
  · unfold csize at hn
    exact (cellsAt_eq (c := c.extract o (o + n)) (by rw [Array.size_extract]; omega) (fun j hj => by rw [hc, extract_get c o n j hj hn])).2
theorem Box.there {W : World} {b : Nat} {c : Array Value} (h : Box W b c) (o n : Nat) (hn : o + n ≤ c.size) : W.there b o n := by
  obtain ⟨t, h⟩ := h
  intro j hj
  have hj' : o + j < c.size := by omega
  refine ⟨by rw [cell_of_row W b (o + j) c t (0, 0) h, Array.getElem?_eq_getElem hj']; rfl, by simp [World.frozen?, h]⟩
theorem foldl_set_get (l : List Value) : ∀ (k off : Nat) (cells : Array Value) (j : Nat),
    ((l.zipIdx k).foldl (fun cs (x : Value × Nat) => cs.setIfInBounds (off + x.2) x.1) cells)[j]? = if off + k ≤ j ∧ j < off + k + l.length ∧ j < cells.size then l[j - (off + k)]? else cells[j]? := by
  induction l with
  | nil => intro k off cells j; simp; omega
  | cons v l ih =>
    intro k off cells j
    rw [List.zipIdx_cons, List.foldl_cons, ih (k + 1) off]
    simp only [Array.size_setIfInBounds, List.length_cons, Array.getElem?_setIfInBounds]
    by_cases h1 : off + k ≤ j ∧ j < off + k + (l.length + 1) ∧ j < cells.size
    · by_cases h2 : off + k = j
      · subst h2
        have : ¬ off + (k + 1) ≤ off + k := by omega
        simp [this, h1.2.2]
      · have h3 : off + (k + 1) ≤ j ∧ j < off + (k + 1) + l.length ∧ j < cells.size := by omega
        rw [if_pos h3, if_pos h1, show j - (off + k) = (j - (off + (k + 1))) + 1 by omega, List.getElem?_cons_succ]
    · have h3 : ¬ (off + (k + 1) ≤ j ∧ j < off + (k + 1) + l.length ∧ j < cells.size) := by omega
      rw [if_neg h3, if_neg h1]
      by_cases h2 : off + k = j
      · subst h2
        have : ¬ off + k < cells.size := by simp at h1; omega
        simp [this]
      · simp [h2]
theorem fill_whole (v cells : Array Value) (h : v.size = cells.size) : Array.foldl (fun cs (x : Value × Nat) => cs.setIfInBounds (0 + x.2) x.1) cells v.zipIdx = v := by
  apply Array.ext_getElem?
  intro j
  have h1 := foldl_set_get v.toList 0 0 cells j
  rw [← Array.foldl_toList, Array.toList_zipIdx, h1]
  by_cases hj : j < cells.size
  · simp [h, hj]
  · simp [hj]; omega
theorem run_slice_lit {P : Program} (w : World) (t e : TypeId) (i : TypeInfo) (z : Value) (size : Nat) (ht : P.underlying t = some (.slice e)) (hi : P.info? e = some i) (hz : i.zero = some z) (hsize : i.size = size) (hzs : z.cells.size = size) (h0 : 0 < size) (h24 : size ≤ 16777216) (c : Array Value) (hc : c.size = size) :
    (Instr.buildSlice t 1 #[(0, .agg c)]).run P w = .ok (.slice (some ⟨w.heap.size, 0, none⟩) 1 1) (w.alloc (.cells c e)) := by
  have hx : (Value.agg c).cells = c := rfl
  have hfw := fill_whole c ((Array.range (1 * size)).map (z.cells[· % z.cells.size]!)) (by simp [hc])
  have hne : ¬ size = 0 := by omega
  have h24' : ¬ 16777216 < size := by omega
  simp only [Nat.zero_add, Nat.one_mul, Array.size_zipIdx, hc] at hfw
  simp [Instr.buildSlice, run_underlying ht, sizeOf, typeInfo, zeroValue, hi, hz, hsize, hne, h24', Instr.fill, hx, hc, newRow, hfw]
theorem Box.go {W w1 : World} {b : Nat} {c : Array Value} (h : Box W b c) (hb : Below W.heap.size W w1) : Box w1 b c := h.below hb h.lt
theorem call0 {w W w1 : World} (h : Below w.heap.size w W) (hb : Below W.heap.size W w1) : Below w.heap.size w w1 := below2 h hb
theorem call1 {w W w1 : World} {ob : Obj} (h : Below w.heap.size w W) (hb : Below (W.alloc ob).heap.size (W.alloc ob) w1) : Below w.heap.size w w1 := below2 (h.alloc h.size ob) hb
/-- v laid over cells from place off on -/
def laid (cells : Array Value) (off : Nat) (v : Array Value) : Array Value := v.zipIdx.foldl (fun cs (x : Value × Nat) => cs.setIfInBounds (off + x.2) x.1) cells
theorem laid_get (cells v : Array Value) (off j : Nat) : (laid cells off v)[j]? = if off ≤ j ∧ j < off + v.size ∧ j < cells.size then v[j - off]? else cells[j]? := by
  have h := foldl_set_get v.toList 0 off cells j
  unfold laid
  rw [← Array.foldl_toList, Array.toList_zipIdx, h]
  simp
theorem fill_cons (place : Nat → Option (Nat × Nat)) (cells : Array Value) (i off size : Nat) (v : Value) (rest : List (Nat × Value)) (hp : place i = some (off, size)) (hs : v.cells.size = size) (hf : off + size ≤ cells.size) :
    Instr.fill place cells ((i, v) :: rest) = Instr.fill place (laid cells off v.cells) rest := by
  have h1 : (decide (v.cells.size ≠ size) || decide (off + v.cells.size > cells.size)) = false := by
    rw [hs]; simp; omega
  rw [Instr.fill, hp]
  simp only [h1, laid]
  rfl
theorem laid_size (cells v : Array Value) (off : Nat) : (laid cells off v).size = cells.size := by
  unfold laid
  generalize v.zipIdx = l
  rw [← Array.foldl_toList]
  generalize l.toList = l
  induction l generalizing cells with
  | nil => rfl
  | cons x l ih => rw [List.foldl_cons, ih]; simp
theorem laid_one (cells : Array Value) (off : Nat) (v : Value) : laid cells off #[v] = cells.setIfInBounds off v := by
  simp [laid]
theorem cells_agg (c : Array Value) : (Value.agg c).cells = c := rfl
theorem run_build {P : Program} (w : World) (t : TypeId) (fs : Array Field) (i : TypeInfo) (z : Array Value) (ps : Array (Nat × Value)) (cells : Array Value) (places : Array (Nat × Nat)) (ht : P.underlying t = some (.struct fs)) (hi : P.info? t = some i) (hz : i.zero = some (.agg z))
    (hp : (Array.mapM (fun f => Prod.mk f.offset <$> sizeOf f.type) fs : Sem (Array (Nat × Nat))).run P w = .ok places w) (hf : Instr.fill (places[·]?) z ps.toList = some cells) : (Instr.build t ps).run P w = .ok (.agg cells) w := by
  simp only [Instr.build, zeroValue, typeInfo, Sem.run_bind, Result.andThen_ok, run_underlying ht]
  simp [hi, hz, hp, cells_agg, hf]
/-- what an own row is behind a call that only made memory -/
theorem own_below {w w' : World} {base size n : Nat} {e : TypeId} {v : Value} {xs : List Value} (h : w.ownsRow base e size v n xs) (hb : Below w.heap.size w w') : w'.ownsRow base e size v n xs :=
  ⟨h.1, h.2.imp id fun ⟨g, cap, cur, h1, h2, h3, h4⟩ => ⟨g, cap, cur, h1, h2, (hb.block g (Array.getElem?_eq_some_iff.1 h3).1).trans h3, h4⟩⟩
theorem own_set {w : World} {base size n : Nat} {e : TypeId} {v : Value} {xs : List Value} (h : w.ownsRow base e size v n xs) {p : Addr} (hp : p.block < base) (u : Value) : (w.setCell p u).ownsRow base e size v n xs :=
  ⟨h.1, h.2.imp id fun ⟨g, cap, cur, h1, h2, h3, h4⟩ => ⟨g, cap, cur, h1, h2, (Below.heap_setCell w p u g (by omega)).trans h3, h4⟩⟩
theorem own_alloc {w : World} {base size n : Nat} {e : TypeId} {v : Value} {xs : List Value} (h : w.ownsRow base e size v n xs) (ob : Obj) : (w.alloc ob).ownsRow base e size v n xs := h.alloc ob
theorem own_less {w : World} {base base' size n : Nat} {e : TypeId} {v : Value} {xs : List Value} (h : w.ownsRow base e size v n xs) (hb : base' ≤ base) : w.ownsRow base' e size v n xs :=
  ⟨h.1, h.2.imp id fun ⟨g, cap, cur, h1, h2, h3, h4⟩ => ⟨g, cap, cur, h1, Nat.le_trans hb h2, h3, h4⟩⟩
/-- one cell of an own row is set -/
theorem own_put {w : World} {base size n g c : Nat} {e : TypeId} {xs : List Value} (h : w.ownsRow base e size (.slice (some ⟨g, 0, none⟩) n c) n xs) (j : Nat) (hj : j < n * size) (u : Value) :
    (w.setCell ⟨g, j, none⟩ u).ownsRow base e size (.slice (some ⟨g, 0, none⟩) n c) n (xs.set j u) := by
  refine ⟨by rw [List.length_set]; exact h.1, ?_⟩
  rcases h.2 with ⟨hv, h0⟩ | ⟨g', cap, cur, hv, h2, h3, h4, h5, h6, h7⟩
  · cases hv
  · injection hv with e1 e2 e3
    injection e1 with e1
    injection e1 with e1
    subst e1 e3
    refine .inr ⟨g, c, cur.setIfInBounds j u, rfl, h2, ?_, h4, h5, by rw [Array.size_setIfInBounds]; exact h6, ?_⟩
    · rw [setCell_eq_setRow w g j cur e (0, 0) u h3]; exact setRow_heap w g cur _ e (0, 0) h3
    · rw [Array.toList_setIfInBounds, List.take_set, h7]
theorem setCells_heap (b : Nat) (t : TypeId) (fr : Nat × Nat) : ∀ (vs : List Value) (o : Nat) (c : Array Value) (W : World), W.heap[b]? = some (.cells c t fr) →
    (W.setCells b o vs).heap[b]? = some (.cells ((vs.zipIdx o).foldl (fun cs (x : Value × Nat) => cs.setIfInBounds x.2 x.1) c) t fr)
  | [], _, _, _, h => h
  | v :: r, o, c, W, h => by
    rw [World.setCells, List.zipIdx_cons, List.foldl_cons]
    exact setCells_heap b t fr r (o + 1) _ _ (by rw [setCell_eq_setRow W b o c t fr v h]; exact setRow_heap W b c _ t fr h)
section
variable {H : Type} {enc : TypeId × Value → H} {P : Program} {w : World} {base : Nat} {spare : Nat → Bool} {held : Bool} {fuel : Nat} {t : TypeId} {cs : List Value} {x : DataW H × List MemPlace}
theorem read_str (ht : P.underlying t = some .string) (h : DataW.trod enc P w base spare held fuel t cs = some x) : ∃ l : List UInt8, cs = [.string (textOf l)] ∧ l.length ≤ 9223372036854775807 := by
  obtain ⟨s, rfl, _, hs⟩ := DataW.trod_string ht h
  refine ⟨s.data.toList, by rw [textOf_data], ?_⟩
  have h2 : s.size ≤ 9223372036854775807 := by unfold maxLen at hs; omega
  show s.data.toList.length ≤ _
  rw [Array.length_toList]
  exact h2
theorem read_i64 (ht : P.underlying t = some (.int .i64)) (h : DataW.trod enc P w base spare held fuel t cs = some x) : ∃ z : Int, cs = [.int .i64 z] ∧ -9223372036854775808 ≤ z ∧ z ≤ 9223372036854775807 := by
  obtain ⟨z, rfl, _, hz⟩ := DataW.trod_int ht h
  have : -9223372036854775808 ≤ z ∧ z ≤ 9223372036854775807 := by simpa [Lit.wf, IntKind.min, IntKind.max, IntKind.signed, IntKind.bits] using hz
  exact ⟨z, rfl, this⟩
theorem read_u8 (ht : P.underlying t = some (.int .u8)) (h : DataW.trod enc P w base spare held fuel t cs = some x) : ∃ b : UInt8, cs = [bv b] := by
  obtain ⟨z, rfl, _, hz⟩ := DataW.trod_int ht h
  have h2 : 0 ≤ z ∧ z ≤ 255 := by simpa [Lit.wf, IntKind.min, IntKind.max, IntKind.signed, IntKind.bits] using hz
  refine ⟨UInt8.ofNat z.toNat, ?_⟩
  unfold bv
  congr 2
  rw [UInt8.toNat_ofNat']
  omega
theorem read_f64 (ht : P.underlying t = some (.float .f64)) (h : DataW.trod enc P w base spare held fuel t cs = some x) : ∃ n : Nat, cs = [fv n] ∧ n < 18446744073709551616 := by
  cases fuel with
  | zero => simp [DataW.trod] at h
  | succ m =>
    unfold DataW.trod at h
    rw [ht] at h
    split at h <;> simp_all
    rename_i heq
    subst heq
    obtain ⟨⟨_, hw⟩, _⟩ := h
    exact ⟨_, rfl, by simpa [Lit.wf] using hw⟩
theorem fld {fs : Array Field} {n : Nat} {xs : List (DataW H × List MemPlace)} (hl : xs.length = fs.size) (hf : ∀ (i : Nat) (f : Field), fs[i]? = some f → DataW.trod enc P w base spare held n f.type ((cs.drop f.offset).take (P.cellsOf f.type)) = xs[i]?)
    (j : Nat) (f : Field) (hj : fs[j]? = some f) : ∃ y, DataW.trod enc P w base spare held n f.type ((cs.drop f.offset).take (P.cellsOf f.type)) = some y := by
  have hlt : j < xs.length := by have := (Array.getElem?_eq_some_iff.1 hj).1; omega
  exact ⟨xs[j], (hf j f hj).trans (List.getElem?_eq_getElem hlt)⟩
theorem seg {α : Type} (l : List α) (o n : Nat) : l.drop o = (l.drop o).take n ++ l.drop (o + n) := by
  rw [← List.drop_drop]; exact (List.take_append_drop n _).symm
/-- an array of bytes -/
theorem read_u8s {k : Nat} {e : TypeId} (ht : P.underlying t = some (.array k e)) (he : P.underlying e = some (.int .u8)) (hc : P.cellsOf e = 1) (hk : P.cellsOf t = k) (h : DataW.trod enc P w base spare held fuel t cs = some x) : ∃ v : Vector UInt8 k, cs = v.toList.map bv := by
  obtain ⟨xs, m, _, _, hl, hxl, hf⟩ := DataW.trod_array ht h
  rw [hk] at hl
  have hg : ∀ i, i < k → ∃ b : UInt8, cs[i]? = some (bv b) := fun i hi => by
    have h1 := hf i hi
    rw [hc, Nat.mul_one, List.getElem?_eq_getElem (by omega)] at h1
    obtain ⟨b, hb⟩ := read_u8 he h1
    refine ⟨b, ?_⟩
    rw [take1_drop cs i undef (by omega)] at hb
    simp only [List.cons.injEq, and_true] at hb
    rw [List.getElem?_eq_getElem (by omega), ← hb, List.getD_eq_getElem?_getD, List.getElem?_eq_getElem (by omega)]
    rfl
  obtain ⟨f, hf⟩ : ∃ f : Nat → UInt8, ∀ i, i < k → cs[i]? = some (bv (f i)) := by
    refine ⟨fun i => if hi : i < k then (hg i hi).choose else 0, fun i hi => ?_⟩
    simp only [hi, dif_pos]
    exact (hg i hi).choose_spec
  refine ⟨Vector.ofFn fun i : Fin k => f i, ?_⟩
  apply List.ext_getElem?
  intro i
  rcases Nat.lt_or_ge i k with hi | hi
  · rw [hf i hi]
    simp [hi]
  · rw [List.getElem?_eq_none (by omega), List.getElem?_eq_none (by simpa using hi)]
end
theorem flatMap_get {α : Type} (f : α → Array Value) (size : Nat) (hs : ∀ x, (f x).size = size) (l : List α) (k j : Nat) (hk : k < l.length) (hj : j < size) : (l.flatMap fun x => (f x).toList)[k * size + j]? = (f (l[k]'hk))[j]? := by
  induction l generalizing k with
  | nil => simp at hk
  | cons x l ih =>
    rw [List.flatMap_cons]
    rcases k with _ | k
    · rw [List.getElem?_append_left (by rw [Array.length_toList, hs]; omega), Array.getElem?_toList]
      simp
    · rw [List.getElem?_append_right (by rw [Array.length_toList, hs, Nat.succ_mul]; omega), Array.length_toList, hs, show (k + 1) * size + j - size = k * size + j by rw [Nat.succ_mul]; omega]
      rw [List.length_cons] at hk
      simpa using ih k (by omega)
theorem flatMap_len {α : Type} (f : α → Array Value) (size : Nat) (hs : ∀ x, (f x).size = size) (l : List α) : (l.flatMap fun x => (f x).toList).length = l.length * size := by
  induction l with
  | nil => simp
  | cons x l ih => rw [List.flatMap_cons, List.length_append, ih, Array.length_toList, hs, List.length_cons, Nat.succ_mul]; omega
section
variable {H : Type} {enc : TypeId × Value → H} {P : Program} {w : World} {base : Nat} {held : Bool} {fuel : Nat} {t : TypeId} {cs : List Value} {x : DataW H × List MemPlace}
/-- a slice of structs -/
theorem read_rows {α : Type} (f : α → Array Value) (good : α → Prop) (size : Nat) (hfs : ∀ x, (f x).size = size) {e : TypeId} (ht : P.underlying t = some (.slice e)) (hc : P.cellsOf e = size) (hpos : 0 < size)
    (hrd : ∀ (n : Nat) (cs : List Value) (y : DataW H × List MemPlace), DataW.trod enc P w base (fun _ => true) held n e cs = some y → ∃ a, cs = (f a).toList ∧ good a)
    (h : DataW.trod enc P w base (fun _ => true) held fuel t cs = some x) :
    ∃ (A : Option Addr) (n c : Nat) (l : List α), cs = [.slice A n c] ∧ n ≤ c ∧ c ≤ 9223372036854775807 ∧ l.length = n ∧ Rd w w.heap.size size A n (l.flatMap fun x => (f x).toList) ∧ (∀ a, A = some a → 0 < n → a = ⟨a.block, a.off, none⟩) ∧ ∀ a ∈ l, good a := by
  rcases open_slice ht h with ⟨rfl, _⟩ | ⟨a, len, cap, m, n, D, Pl, rfl, _, hl, hm, hmm, _, hi⟩
  · exact ⟨none, 0, 0, [], rfl, Nat.le_refl _, by omega, rfl, Rd.nil, (fun a h => by cases h), by simp⟩
  · rw [if_pos rfl] at hmm
    have hg : ∀ i, i < len → ∃ b : α, good b ∧ ∀ j, j < size → w.cell? (a.add (i * size + j)) = (f b)[j]? := fun i hlt => by
      obtain ⟨cs', h1, h2⟩ := hi i (by omega)
      obtain ⟨_, hlen, hcell⟩ := World.cells?_some h1
      obtain ⟨b, hb, hgd⟩ := hrd _ _ _ h2
      rw [hc] at hcell
      refine ⟨b, hgd, fun j hj => ?_⟩
      have := hcell j hj
      rw [add_add_, hb, Array.getElem?_toList] at this
      exact this
    obtain ⟨F, hF⟩ : ∃ F : Fin len → α, ∀ i : Fin len, good (F i) ∧ ∀ j, j < size → w.cell? (a.add (i * size + j)) = (f (F i))[j]? :=
      ⟨fun i => (hg i i.2).choose, fun i => (hg i i.2).choose_spec⟩
    have hll : (List.ofFn F).length = len := List.length_ofFn
    have hcl : ∀ k (hk : k < len) j, j < size → ((List.ofFn F).flatMap fun x => (f x).toList)[k * size + j]? = w.cell? (a.add (k * size + j)) := fun k hk j hj => by
      rw [flatMap_get f size hfs _ k j (by omega) hj, List.getElem_ofFn]
      exact ((hF ⟨k, hk⟩).2 j hj).symm
    refine ⟨some a, len, cap, List.ofFn F, rfl, hl, by unfold maxLen at hm; omega, hll, ⟨by rw [flatMap_len f size hfs, hll], fun h0 => ⟨a, rfl, ?_, fun j u hu => ?_⟩⟩, fun a' ha h0 => ?_, fun b hb => ?_⟩
    · have h1 := hcl 0 h0 0 hpos
      have h2 := flatMap_get f size hfs (List.ofFn F) 0 0 (by omega) hpos
      have h3 : w.cell? (a.add (0 * size + 0)) = some ((f ((List.ofFn F)[0]'(by omega)))[0]'(by rw [hfs]; exact hpos)) := by rw [← h1, h2]; exact Array.getElem?_eq_getElem _
      have := World.block_lt_of_cell? _ _ h3
      rwa [add_block] at this
    · have hj : j < len * size := by
        rcases Nat.lt_or_ge j (len * size) with h1 | h1
        · exact h1
        · rw [List.getElem?_eq_none (by rw [flatMap_len f size hfs, hll]; exact h1)] at hu; cases hu
      have e1 : j = j / size * size + j % size := by rw [Nat.mul_comm]; exact (Nat.div_add_mod j size).symm
      have := hcl (j / size) ((Nat.div_lt_iff_lt_mul hpos).2 hj) (j % size) (Nat.mod_lt _ hpos)
      rw [← e1] at this
      rw [← this]; exact hu
    · injection ha with ha
      subst ha
      have h1 := hcl 0 h0 0 hpos
      have h2 := flatMap_get f size hfs (List.ofFn F) 0 0 (by omega) hpos
      have h3 : w.cell? (a.add (0 * size + 0)) = some ((f ((List.ofFn F)[0]'(by omega)))[0]'(by rw [hfs]; exact hpos)) := by rw [← h1, h2]; exact Array.getElem?_eq_getElem _
      rw [show 0 * size + 0 = 0 by omega, add_zero_] at h3
      have hs := World.cell?_spot h3
      obtain ⟨b, o, s⟩ := a
      simp at hs
      rw [hs]
    · obtain ⟨i, rfl⟩ := List.mem_ofFn.1 hb
      exact (hF i).1
end
theorem texts_cells (l : List (List UInt8)) : (l.flatMap fun s => (#[Value.string (textOf s)] : Array Value).toList) = l.map fun s => .string (textOf s) := by
  induction l with
  | nil => rfl
  | cons a l ih => simp only [List.flatMap_cons, List.map_cons] at ih ⊢; rw [ih]; rfl
section
variable {P : Program}
theorem eqItems_bytes (d : Nat) {e : TypeId} (he : P.underlying e = some (.int .u8)) (l m : List UInt8) (w : World) (hlm : l.length = m.length) : ∀ (j k : Nat), j + k = l.length →
    (Op.eqItems (d + 1) e 1 (l.map bv).toArray (m.map bv).toArray (List.range' k j)).run P w = .ok (l.drop k == m.drop k) w
  | 0, k, h => by
    have h1 : l.drop k = [] := List.drop_eq_nil_of_le (by omega)
    have h2 : m.drop k = [] := List.drop_eq_nil_of_le (by omega)
    simp [Op.eqItems, h1, h2]
  | j + 1, k, h => by
    have hk : k < l.length := by omega
    have hk' : k < m.length := by omega
    have hp : P.plainKey e = true := by simp [Program.plainKey, he]
    have p1 : (part e (l.map bv).toArray (k * 1)).run P w = .ok (bv l[k]) w := run_part_plain w hp (by simp [hk])
    have p2 : (part e (m.map bv).toArray (k * 1)).run P w = .ok (bv m[k]) w := run_part_plain w hp (by simp [hk'])
    have p3 : (Op.equalIn (d + 1) e (bv l[k]) (bv m[k])).run P w = .ok (l[k] == m[k]) w := by
      simp only [bv, Op.equalIn, Sem.run_bind, run_underlying he, Result.andThen_ok, if_true, Sem.run_pure]
      congr 1
      rw [Bool.eq_iff_iff]
      simp only [beq_iff_eq]
      constructor
      · intro h; exact UInt8.toNat_inj.1 (by omega)
      · intro h; rw [h]
    rw [List.range'_succ]
    simp only [Op.eqItems, Sem.run_bind, p1, p2, p3, Result.andThen_ok]
    have ih := eqItems_bytes d he l m w hlm j (k + 1) (by omega)
    have e3 : (l.drop k == m.drop k) = ((l[k] == m[k]) && (l.drop (k + 1) == m.drop (k + 1))) := by
      rw [List.drop_eq_getElem_cons hk, List.drop_eq_getElem_cons hk']; rfl
    rw [e3]
    cases (l[k] == m[k])
    · simp
    · simpa using ih
theorem run_equal_bytes (d : Nat) {t e : TypeId} {n : Nat} (hu : P.underlying t = some (.array n e)) (hsz : (P.info? e).map (·.size) = some 1) (he : P.underlying e = some (.int .u8)) (l m : List UInt8) (hl : l.length = n) (hm : m.length = n) (w : World) :
    (Op.equalIn (d + 2) t (.agg (l.map bv).toArray) (.agg (m.map bv).toArray)).run P w = .ok (l == m) w := by
  obtain ⟨i, hi, hs⟩ : ∃ i, P.info? e = some i ∧ i.size = 1 := by
    cases h : P.info? e with
    | none => simp [h] at hsz
    | some i => exact ⟨i, rfl, by simpa [h] using hsz⟩
  rw [run_equalIn_array w (d + 1) _ _ hu hi]
  have hc : P.cellsOf e = 1 := by simp [Program.cellsOf, hi, hs]
  rw [hc, List.range_eq_range', eqItems_bytes d he l m w (by omega) n 0 (by omega)]
  simp
end
theorem vec_beq {n : Nat} (a b : Vector UInt8 n) : (a.toList == b.toList) = decide (a = b) := by
  rw [Bool.eq_iff_iff]
  simp only [beq_iff_eq, decide_eq_true_eq]
  constructor
  · intro h; exact Vector.toList_inj.1 h
  · intro h; rw [h]
theorem part_one {P : Program} {e : TypeId} (he : (match P.underlying e with | some (.struct _) | some (.array _ _) | none => false | _ => true) = true) {xs : Array Value} {off : Nat} {v : Value} (hx : xs[off]? = some v) (w : World) : (part e xs off).run P w = .ok v w := by
  cases hu : P.underlying e with
  | none => simp [hu] at he
  | some d => cases d <;> simp [hu] at he <;> simp [part, isAgg, run_underlying hu, hx]
theorem part_row {P : Program} {e : TypeId} {n : Nat} (he : (match P.underlying e with | some (.struct _) | some (.array _ _) => true | _ => false) = true) (hs : (P.info? e).map (·.size) = some n) (xs : Array Value) (off : Nat) (w : World) : (part e xs off).run P w = .ok (.agg (xs.extract off (off + n))) w := by
  obtain ⟨i, hi, hi2⟩ : ∃ i, P.info? e = some i ∧ i.size = n := by
    cases h : P.info? e with
    | none => simp [h] at hs
    | some i => exact ⟨i, rfl, by simpa [h] using hs⟩
  have hc : P.cellsOf e = n := by simp [Program.cellsOf, hi, hi2]
  cases hu : P.underlying e with
  | none => simp [hu] at he
  | some d => cases d <;> simp [hu] at he <;> simp [part, isAgg, run_underlying hu, run_sizeOf w hi, hc]
theorem eq_bool (a b : Bool) (d : Nat) (W : World) : (Op.equalIn (d + 1) 4 (.bool a) (.bool b)).run Tryz.prog W = .ok (a == b) W := by
  simp only [Op.equalIn, Sem.run_bind, run_underlying Tryz.underlying4, Result.andThen_ok, Sem.run_pure]
theorem eq_string (a b : List UInt8) (d : Nat) (W : World) : (Op.equalIn (d + 1) 9 (.string (textOf a)) (.string (textOf b))).run Tryz.prog W = .ok (a == b) W := by
  rw [run_equalIn_string W d _ _ _ Tryz.underlying9, textOf_toList, textOf_toList]
theorem eq_int (a b : Int) (d : Nat) (W : World) : (Op.equalIn (d + 1) 3 (.int .i64 a) (.int .i64 b)).run Tryz.prog W = .ok (a == b) W := by
  simp only [Op.equalIn, Sem.run_bind, run_underlying Tryz.underlying3, Result.andThen_ok, if_true, Sem.run_pure]
theorem eqFields_cons {P : Program} (d : Nat) (xs ys : Array Value) (f : Field) (fs : List Field) (h : f.name ≠ "_") (W : World) (a b : Value) (r r' : Bool)
    (p : (part f.type xs f.offset).run P W = .ok a W) (q : (part f.type ys f.offset).run P W = .ok b W) (e : (Op.equalIn d f.type a b).run P W = .ok r W)
    (rest : (Op.eqFields d xs ys fs).run P W = .ok r' W) : (Op.eqFields d xs ys (f :: fs)).run P W = .ok (r && r') W := by
  simp only [Op.eqFields, h, ne_eq, not_false_eq_true, if_true, Sem.run_bind, p, q, e, Result.andThen_ok]
  cases r
  · simp
  · simpa using rest

/-! ### rows of structs, whatever the struct: f says what cells one is -/
/-- a slice of structs reads as l, and lies below block B -/
def RdR {α : Type} (f : α → Array Value) (s : Nat) (w : World) (B : Nat) (A : Option Addr) (n : Nat) (l : List α) : Prop :=
  l.length = n ∧ Rd w B s A n (l.flatMap fun x => (f x).toList) ∧ ∀ a, A = some a → 0 < n → a = ⟨a.block, a.off, none⟩
section
variable {α : Type} {f : α → Array Value} {s : Nat} {w w' : World} {B B' n : Nat} {A : Option Addr} {l : List α}
theorem RdR.nil (w : World) (B : Nat) : RdR f s w B none 0 [] := ⟨rfl, Rd.nil, fun a h _ => by cases h⟩
theorem RdR.len (h : RdR f s w B A n l) : l.length = n := h.1
theorem RdR.below (h : RdR f s w B A n l) (hb : Below B w w') : RdR f s w' B A n l := ⟨h.1, Rd.below h.2.1 hb, h.2.2⟩
theorem RdR.to {C : Nat} (h : RdR f s w B A n l) (hb : Below C w w') (hC : B ≤ C) : RdR f s w' B A n l := ⟨h.1, Rd.to h.2.1 hb hC, h.2.2⟩
theorem RdR.more (h : RdR f s w B A n l) (hB : B ≤ B') : RdR f s w B' A n l := ⟨h.1, Rd.more h.2.1 hB, h.2.2⟩
theorem RdR.drew (h : RdR f s w B A n l) : RdR f s w.drew B A n l := h
theorem RdR.drewN (h : RdR f s w B A n l) (k : Nat) : RdR f s (w.drewN k) B A n l := h
theorem RdR.alloc (h : RdR f s w B A n l) (hB : B ≤ w.heap.size) (o : Obj) : RdR f s (w.alloc o) B A n l := ⟨h.1, Rd.alloc h.2.1 hB o, h.2.2⟩
theorem RdR.up (h : RdR f s w w.heap.size A n l) (ob : Obj) : RdR f s (w.alloc ob) (w.alloc ob).heap.size A n l := (h.alloc (Nat.le_refl _) ob).more (by simp)
theorem RdR.upd (h : RdR f s w w.heap.size A n l) (ob : Obj) : RdR f s (w.alloc ob).drew (w.alloc ob).drew.heap.size A n l := h.up ob
theorem RdR.drewz (h : RdR f s w w.heap.size A n l) : RdR f s w.drew w.drew.heap.size A n l := h
theorem RdR.go {W w1 : World} (h : RdR f s W W.heap.size A n l) (hb : Below W.heap.size W w1) : RdR f s w1 w1.heap.size A n l := (h.below hb).more hb.size
theorem RdR.grownO {W W' : World} {g : Option Nat} (h : RdR f s W B A n l) (hg : W.grownBy W' g) (hne : ∀ a, A = some a → some a.block ≠ g) : RdR f s W' B A n l := by
  obtain ⟨h1, h2, h3⟩ := h
  refine ⟨h1, ⟨h2.1, fun hn => ?_⟩, h3⟩
  obtain ⟨a, hA, hb, hc⟩ := h2.2 hn
  refine ⟨a, hA, hb, fun j u hu => ?_⟩
  have := hc j u hu
  refine hg.cell this ?_
  have := hne a hA
  rwa [add_block]
/-- a write into another block -/
theorem RdR.setO (h : RdR f s w B A n l) {p : Addr} (u : Value) (hp : ∀ a, A = some a → p.block ≠ a.block) : RdR f s (w.setCell p u) B A n l := by
  obtain ⟨h1, h2, h3⟩ := h
  refine ⟨h1, ⟨h2.1, fun hn => ?_⟩, h3⟩
  obtain ⟨a, e, hb, hc⟩ := h2.2 hn
  refine ⟨a, e, hb, fun j u' hu => ?_⟩
  rw [World.cell?_setCell_other _ _ _ _ (fun e2 => by have := hp a e; rw [e2, add_block] at this; omega)]
  exact hc j u' hu
theorem RdR.cell (hs : ∀ x, (f x).size = s) (d : α) {k : Nat} (h : RdR f s w B A n l) (hk : k < n) : ∃ b o, A = some ⟨b, o, none⟩ ∧ b < B ∧ ∀ j, j < s → w.cell? ⟨b, o + k * s + j, none⟩ = (f (l.getD k d))[j]? := by
  obtain ⟨h1, h2, h3⟩ := h
  obtain ⟨a, hA, hb, hc⟩ := h2.2 (by omega)
  have ha := h3 a hA (by omega)
  refine ⟨a.block, a.off, by rw [hA, ← ha], hb, fun j hj => ?_⟩
  have hk' : k < l.length := by omega
  have hg := flatMap_get f s hs l k j hk' hj
  have hx : l.getD k d = l[k] := by rw [List.getD_eq_getElem?_getD, List.getElem?_eq_getElem hk']; rfl
  have hs1 : (f (l[k]'hk'))[j]? = some ((f (l[k]'hk'))[j]'(by rw [hs]; exact hj)) := Array.getElem?_eq_getElem _
  rw [hs1] at hg
  rw [hx, hs1]
  have := hc _ _ hg
  rw [ha, Addr.add_mid] at this
  rw [← this, Nat.add_assoc]
theorem RdR.at_ (hs : ∀ x, (f x).size = s) (d : α) {k : Nat} (h : RdR f s w B A n l) (hk : k < n) : ∃ b o, A = some ⟨b, o, none⟩ ∧ b < B ∧ Has w b (o + k * s) s ∧ cellsAt w b (o + k * s) s = f (l.getD k d) := by
  obtain ⟨b, o, hA, hb, hc⟩ := h.cell hs d hk
  exact ⟨b, o, hA, hb, cellsAt_eq (hs _) hc⟩
theorem RdR.one (x : α) (hs : ∀ x, (f x).size = s) (w : World) (t : TypeId) : RdR f s (w.alloc (.cells (f x) t)) (w.alloc (.cells (f x) t)).heap.size (some ⟨w.heap.size, 0, none⟩) 1 [x] :=
  ⟨rfl, ⟨by simp [hs], fun _ => ⟨_, rfl, by simp, by
    intro j v hv
    rw [Addr.add_mid, Nat.zero_add]
    have := cell_new w (f x) t j
    rw [this]
    simpa using hv⟩⟩, fun a h _ => by injection h with h; rw [← h]⟩
end
theorem rows_len {α : Type} (f : α → Array Value) (s : Nat) (hs : ∀ x, (f x).size = s) (l : List α) : (l.flatMap fun x => (f x).toList).length = l.length * s := flatMap_len f s hs l
theorem rows_snoc {α : Type} (f : α → Array Value) (l : List α) (x : α) : (l.flatMap fun x => (f x).toList) ++ (f x).toList = (l ++ [x]).flatMap fun x => (f x).toList := by simp
theorem rows_app {α : Type} (f : α → Array Value) (l m : List α) : (l.flatMap fun x => (f x).toList) ++ (m.flatMap fun x => (f x).toList) = (l ++ m).flatMap fun x => (f x).toList := by simp
theorem rows_one {α : Type} (f : α → Array Value) (h1 : ∀ x, (f x).all (·.oneCell') = true) (l : List α) : ∀ u ∈ (l.flatMap fun x => (f x).toList), u.oneCell' = true := by
  intro u hu
  obtain ⟨x, _, hx⟩ := List.mem_flatMap.1 hu
  exact Array.all_eq_true_iff_forall_mem.1 (h1 x) u (by simpa using hx)
theorem take_snocR {α : Type} (d : α) (l : List α) (i : Nat) (hi : i < l.length) : l.take i ++ [l.getD i d] = l.take (i + 1) := by
  rw [List.take_succ_eq_append_getElem hi, List.getD_eq_getElem?_getD, List.getElem?_eq_getElem hi]; rfl
theorem getD_mem {α : Type} (d : α) (l : List α) (i : Nat) (hi : i < l.length) : l.getD i d ∈ l := by
  rw [List.getD_eq_getElem?_getD, List.getElem?_eq_getElem hi]; simp
/-- an own row, read -/
theorem RdR.of_own {α : Type} {f : α → Array Value} {s : Nat} {w : World} {base n : Nat} {e : TypeId} {l : List α} {A : Option Addr} {c : Nat} (hn : l.length = n) (h : w.ownsRow base e s (.slice A n c) n (l.flatMap fun x => (f x).toList)) : RdR f s w w.heap.size A n l :=
  ⟨hn, Rd.of_own h, fun a ha _ => by
    rcases h.2 with ⟨hv, h0⟩ | ⟨g, cap, cur, hv, _⟩
    · injection hv with e1 _ _
      rw [e1] at ha; cases ha
    · injection hv with e1 _ _
      rw [e1] at ha
      injection ha with ha
      rw [← ha]⟩
/-- one struct's cells, for the append -/
theorem row_rdR (w : World) (c : Array Value) (s : Nat) (hc : c.size = s) (t : TypeId) : Rd (w.alloc (.cells c t)) (w.heap.size + 1) s (some ⟨w.heap.size, 0, none⟩) 1 c.toList :=
  ⟨by rw [Array.length_toList, hc, Nat.one_mul], fun _ => ⟨_, rfl, Nat.lt_succ_self _, fun j v hv => by
    rw [Addr.add_mid, Nat.zero_add, cell_new w c t j]
    simpa using hv⟩⟩
theorem own_set_ne {w : World} {base size n : Nat} {e : TypeId} {v : Value} {xs : List Value} (h : w.ownsRow base e size v n xs) {p : Addr} (hp : v.ownBlock ≠ some p.block) (u : Value) : (w.setCell p u).ownsRow base e size v n xs := by
  refine ⟨h.1, ?_⟩
  rcases h.2 with hn | ⟨g, cap, cur, rfl, h2, h3, h4⟩
  · exact .inl hn
  · exact .inr ⟨g, cap, cur, rfl, h2, (Below.heap_setCell w p u g (fun e => hp (by rw [← e]; rfl))).trans h3, h4⟩
theorem grown_setCells {w : World} {g : Nat} (vs : List Value) : ∀ (o : Nat) (W : World), w.grownBy W (some g) → w.grownBy (W.setCells g o vs) (some g) := by
  induction vs with
  | nil => exact fun _ _ h => h
  | cons v vs ih =>
    intro o W h
    rw [World.setCells]
    refine ih (o + 1) _ ⟨h.os, h.tape, h.output, by simpa [World.setCell] using h.size, fun k hk hne => ?_⟩
    rw [Below.heap_setCell W _ v k (fun e => hne (by rw [e]))]
    exact h.block k hk hne
theorem below_setCells {w : World} {B g : Nat} (hg : B ≤ g) (vs : List Value) : ∀ (o : Nat) (W : World), Below B w W → Below B w (W.setCells g o vs) := by
  induction vs with
  | nil => exact fun _ _ h => h
  | cons v vs ih => intro o W h; rw [World.setCells]; exact ih (o + 1) _ (h.setCell hg v)
theorem nb {x : Option Nat} {a b c : Nat} (h : x = some a ∨ x = some b) (h1 : c ≠ a) (h2 : c ≠ b) : x ≠ some c := by
  rcases h with rfl | rfl <;> (intro e; injection e with e; omega)
theorem cells_laid (b : Nat) (t : TypeId) (vs : List Value) (o : Nat) (c : Array Value) (W : World) (h : W.heap[b]? = some (.cells c t (0, 0))) : (W.setCells b o vs).heap[b]? = some (.cells (laid c o vs.toArray) t (0, 0)) := by
  have := setCells_heap b t (0, 0) vs o c W h
  rw [this]
  unfold laid
  congr 2
  rw [← Array.foldl_toList, Array.toList_zipIdx]
  have : ∀ (vs : List Value) (k : Nat) (c : Array Value), (List.foldl (fun cs (x : Value × Nat) => cs.setIfInBounds x.2 x.1) c (vs.zipIdx (o + k))) = List.foldl (fun cs (x : Value × Nat) => cs.setIfInBounds (o + x.2) x.1) c (vs.zipIdx k) := by
    intro vs
    induction vs with
    | nil => intros; rfl
    | cons v vs ih => intro k c; rw [List.zipIdx_cons, List.zipIdx_cons, List.foldl_cons, List.foldl_cons, Nat.add_assoc, ih]
  have h2 := this vs 0 c
  simpa using h2
theorem Box.setAll {W : World} {b : Nat} {c : Array Value} (h : Box W b c) (d : Array Value) (hc : d.size = c.size) : Box (W.setCells b 0 d.toList) b d := by
  obtain ⟨t, h⟩ := h
  refine ⟨t, ?_⟩
  have h1 := cells_laid b t d.toList 0 c W h
  rw [h1]
  congr 2
  exact fill_whole d c hc
theorem thereNew (w : World) (c : Array Value) (t : TypeId) (n : Nat) (hc : c.size = n) : (w.alloc (.cells c t)).there w.heap.size 0 n := fun j hj => by
  have hj' : j < c.size := by omega
  refine ⟨by rw [Nat.zero_add, cell_new, Array.getElem?_eq_getElem hj']; rfl, ?_⟩
  simp

end Go.Proofs.YtmpemeemlhmaaaaGreat

namespace Go.Proofs.YtmpemeemlhmaaaaGreat
open Go.RowKit Go.ChangeShapes Go.WideShapes Go.ChangeAt Go.Deep

/-! ### texts -/
def txA (s : List UInt8) : Array Value := #[.string (textOf s)]
theorem txA_size (s : List UInt8) : (txA s).size = 1 := rfl
theorem txA_one (s : List UInt8) : (txA s).all (·.oneCell') = true := by simp [txA, Value.oneCell']
theorem txA_0 (s : List UInt8) : (txA s)[0]? = some (.string (textOf s)) := rfl
abbrev RdT := RdR txA 1
theorem RdR.text {W : World} {B n : Nat} {A : Option Addr} {l : List (List UInt8)} {k : Nat} (h : RdT W B A n l) (hk : k < n) : ∃ b o, A = some ⟨b, o, none⟩ ∧ b < B ∧ W.cell? ⟨b, o + k, none⟩ = some (.string (textOf (l.getD k []))) := by
  obtain ⟨b, o, hA, hb, hc⟩ := RdR.cell txA_size [] h hk
  refine ⟨b, o, hA, hb, ?_⟩
  have := hc 0 (by omega)
  rw [Nat.mul_one, Nat.add_zero] at this
  exact this
section
variable {H : Type} {enc : TypeId × Value → H} {W : World} {base : Nat} {v : Value} {d : DataW H} {ps : List MemPlace} {held : Bool}
set_option maxRecDepth 100000 in
theorem open_txts (hval : Value.okWide Tryz.prog W .any base 116 v) (h : DataW.Trod enc Tryz.prog W 0 (fun _ => true) held 116 v d ps) :
    ∃ (A : Option Addr) (n c : Nat) (l : List (List UInt8)), v = .slice A n c ∧ RdT W W.heap.size A n l ∧ (∀ s ∈ l, s.length ≤ 9223372036854775807) ∧ n ≤ 9223372036854775807 := by
  obtain ⟨a0, len, cap, rfl⟩ := okWide_slice Tryz.underlying116 hval
  obtain ⟨fuel, hf⟩ := h
  obtain ⟨A, n, c, l, hs, hnc, hc, hll, hrd, hsp, hgd⟩ := read_rows txA (fun s => s.length ≤ 9223372036854775807) 1 (fun _ => rfl) Tryz.underlying116 (by kernel_rfl) (by omega) (fun n cs y hy => read_str Tryz.underlying9 hy) hf
  simp only [Value.cells, List.cons.injEq, Value.slice.injEq, and_true] at hs
  obtain ⟨rfl, rfl, rfl⟩ := hs
  exact ⟨a0, len, cap, l, rfl, ⟨hll, hrd, hsp⟩, hgd, by omega⟩
end
def cellsT (l : List (List UInt8)) : List Value := l.flatMap fun x => (txA x).toList
theorem cellsT_snoc (l : List (List UInt8)) (s : List UInt8) : cellsT l ++ [.string (textOf s)] = cellsT (l ++ [s]) := by simp [cellsT, txA]
theorem infoTx : ∃ i : TypeInfo, Tryz.prog.info? 9 = some i ∧ i.zero = some (.string ⟨#[]⟩) ∧ i.size = 1 ∧ i.bytes ≤ 400 := by
  cases h : Tryz.prog.info? 9 with
  | none => exact absurd h (by have : (Tryz.prog.info? 9).isSome = true := by kernel_rfl
                               intro e; rw [e] at this; cases this)
  | some i =>
    have h1 : (Tryz.prog.info? 9).map (·.size) = some 1 := by kernel_rfl
    have h2 : (Tryz.prog.info? 9).map (fun i => decide (i.bytes ≤ 400)) = some true := by kernel_rfl
    have h3 : (Tryz.prog.info? 9).map (·.zero) = some (some (.string ⟨#[]⟩)) := by kernel_rfl
    rw [h] at h1 h2 h3
    simp at h1 h2 h3
    exact ⟨i, rfl, h3, h1, h2⟩
/-- texts are answered, in memory of the call's own -/
def TxP (w : World) (m : List (List UInt8)) (e : Ending) (w' : World) : Prop :=
  ∃ A n c, e = .returned (.slice A n c) ∧ m.length = n ∧ w'.ownsRow w.heap.size 9 1 (.slice A n c) n (cellsT m) ∧ Below w.heap.size w w'
end Go.Proofs.YtmpemeemlhmaaaaGreat
