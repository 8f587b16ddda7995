/- Arguments opened: backends, pools, and what is done to them, as cells. -/
import Derived.Test.YtmpemeemlhmaaaaGreatQ6
import Derived.Test.YtmpemeemlhmaaaaGreatQ11
import Derived.Test.YtmpemeemlhmaaaaGreatQ14
import Derived.Deep.Slices
import Derived.Deep.Fields
import Derived.Test.YtmpemeemlhmaaaaGreatQ33
set_option linter.unusedSimpArgs false
set_option linter.unusedVariables false
set_option maxRecDepth 100000
namespace Go.Proofs.YtmpemeemlhmaaaaGreat
open Go.ChangeShapes Go.WideShapes Go.ChangeAt Go.RowKit Go.Deep

section
variable {H : Type} {enc : TypeId × Value → H} {P : Program} {w : World} {base : Nat} {spare : Nat → Bool} {held : Bool} {fuel : Nat} {t : TypeId} {cs : List Value} {x : DataW H × List MemPlace}
end

section
variable {H : Type} {enc : TypeId × Value → H} {w : World} {base : Nat} {spare : Nat → Bool} {held : Bool} {fuel : Nat} {t : TypeId} {cs : List Value} {x : DataW H × List MemPlace}
theorem read_adr (h : DataW.trod enc Tryz.prog w base spare held fuel 56 cs = some x) : ∃ a : Adr, cs = a.arr.toList := by
  obtain ⟨xs, n, _, _, hl, hxl, hf⟩ := DataW.trod_struct Tryz.underlying56 h
  rw [show Tryz.prog.cellsOf 56 = 17 by kernel_rfl] at hl
  obtain ⟨y0, h0⟩ := fld hxl hf 0 _ rfl
  obtain ⟨y1, h1⟩ := fld hxl hf 1 _ rfl
  obtain ⟨b, hb, _⟩ := DataW.trod_bool (by kernel_rfl) h0
  obtain ⟨v, hv⟩ := read_u8s (k := 16) (e := 5) (by kernel_rfl) (by kernel_rfl) (by kernel_rfl) (by kernel_rfl) h1
  have c0 : (cs.drop 0).take 1 = [.bool b] := hb
  have c1 : (cs.drop 1).take 16 = v.toList.map bv := hv
  refine ⟨⟨b, v⟩, ?_⟩
  have e := seg cs 0 1
  rw [c0, seg cs (0 + 1) 16, c1, List.drop_of_length_le (i := 0 + 1 + 16) (by omega)] at e
  simpa [Adr.arr] using e
/-- a backend as it can be read -/
def Bk.good (b : Bk) : Prop := b.fine ∧ -9223372036854775808 ≤ b.port ∧ b.port ≤ 9223372036854775807
theorem read_bk (h : DataW.trod enc Tryz.prog w base spare held fuel 60 cs = some x) : ∃ b : Bk, cs = b.arr.toList ∧ b.good := by
  obtain ⟨xs, n, _, _, hl, hxl, hf⟩ := DataW.trod_struct Tryz.underlying60 h
  rw [show Tryz.prog.cellsOf 60 = 27 by kernel_rfl] at hl
  obtain ⟨y0, h0⟩ := fld hxl hf 0 _ rfl
  obtain ⟨y1, h1⟩ := fld hxl hf 1 _ rfl
  obtain ⟨y2, h2⟩ := fld hxl hf 2 _ rfl
  obtain ⟨y3, h3⟩ := fld hxl hf 3 _ rfl
  obtain ⟨y4, h4⟩ := fld hxl hf 4 _ rfl
  obtain ⟨y5, h5⟩ := fld hxl hf 5 _ rfl
  obtain ⟨s, hs, hsl⟩ := read_str (by kernel_rfl) h0
  obtain ⟨a, ha⟩ := read_adr h1
  obtain ⟨p, hp, hp1, hp2⟩ := read_i64 (by kernel_rfl) h2
  obtain ⟨m, hm⟩ := read_u8s (k := 6) (e := 5) (by kernel_rfl) (by kernel_rfl) (by kernel_rfl) (by kernel_rfl) h3
  obtain ⟨f, hf, hf2⟩ := read_f64 (by kernel_rfl) h4
  obtain ⟨d, hd, _⟩ := DataW.trod_bool (by kernel_rfl) h5
  have c0 : (cs.drop 0).take 1 = [.string (textOf s)] := hs
  have c1 : (cs.drop 1).take 17 = a.arr.toList := ha
  have c2 : (cs.drop 18).take 1 = [.int .i64 p] := hp
  have c3 : (cs.drop 19).take 6 = m.toList.map bv := hm
  have c4 : (cs.drop 25).take 1 = [fv f] := hf
  have c5 : (cs.drop 26).take 1 = [.bool d] := hd
  refine ⟨⟨s, a, p, m, f, d⟩, ?_, ⟨hsl, hf2⟩, hp1, hp2⟩
  have e := seg cs 0 1
  rw [c0, seg cs (0 + 1) 17, c1, seg cs (0 + 1 + 17) 1, c2, seg cs (0 + 1 + 17 + 1) 6, c3, seg cs (0 + 1 + 17 + 1 + 6) 1, c4, seg cs (0 + 1 + 17 + 1 + 6 + 1) 1, c5, List.drop_of_length_le (i := 0 + 1 + 17 + 1 + 6 + 1 + 1) (by omega)] at e
  simpa [Bk.arr, Adr.arr] using e
def Opr.good (o : Opr) : Prop := o.bk.good ∧ o.w < 18446744073709551616 ∧ o.name.length ≤ 9223372036854775807
theorem read_opr (h : DataW.trod enc Tryz.prog w base spare held fuel 66 cs = some x) : ∃ o : Opr, cs = o.arr.toList ∧ o.good := by
  obtain ⟨xs, n, _, _, hl, hxl, hf⟩ := DataW.trod_struct Tryz.underlying66 h
  rw [show Tryz.prog.cellsOf 66 = 30 by kernel_rfl] at hl
  obtain ⟨y0, h0⟩ := fld hxl hf 0 _ rfl
  obtain ⟨y1, h1⟩ := fld hxl hf 1 _ rfl
  obtain ⟨y2, h2⟩ := fld hxl hf 2 _ rfl
  obtain ⟨y3, h3⟩ := fld hxl hf 3 _ rfl
  obtain ⟨k, hk, _, _⟩ := read_i64 (by kernel_rfl) h0
  obtain ⟨b, hb, hbg⟩ := read_bk h1
  obtain ⟨s, hs, hsl⟩ := read_str (by kernel_rfl) h2
  obtain ⟨f, hf, hf2⟩ := read_f64 (by kernel_rfl) h3
  have c0 : (cs.drop 0).take 1 = [.int .i64 k] := hk
  have c1 : (cs.drop 1).take 27 = b.arr.toList := hb
  have c2 : (cs.drop 28).take 1 = [.string (textOf s)] := hs
  have c3 : (cs.drop 29).take 1 = [fv f] := hf
  refine ⟨⟨k, b, s, f⟩, ?_, hbg, hf2, hsl⟩
  have e := seg cs 0 1
  rw [c0, seg cs (0 + 1) 27, c1, seg cs (0 + 1 + 27) 1, c2, seg cs (0 + 1 + 27 + 1) 1, c3, List.drop_of_length_le (i := 0 + 1 + 27 + 1 + 1) (by omega)] at e
  simpa [Opr.arr] using e
end

section
variable {H : Type} {enc : TypeId × Value → H} {P : Program} {w : World} {base : Nat} {held : Bool} {fuel : Nat} {t : TypeId} {cs : List Value} {x : DataW H × List MemPlace}
end
section
variable {H : Type} {enc : TypeId × Value → H} {W : World} {base : Nat} {v : Value} {d : DataW H} {ps : List MemPlace} {held : Bool}
theorem read_pool {fuel : Nat} {cs : List Value} {x : DataW H × List MemPlace} (h : DataW.trod enc Tryz.prog W 0 (fun _ => true) held fuel 24 cs = some x) :
    ∃ (v : Int) (A : Option Addr) (n c : Nat) (l : List Bk), cs = [.int .i64 v, .slice A n c] ∧ (-9223372036854775808 ≤ v ∧ v ≤ 9223372036854775807) ∧ RdK W W.heap.size A n l ∧ (∀ b ∈ l, b.good) ∧ n ≤ 9223372036854775807 := by
  obtain ⟨xs, n, _, _, hl, hxl, hf⟩ := DataW.trod_struct Tryz.underlying24 h
  rw [show Tryz.prog.cellsOf 24 = 2 by kernel_rfl] at hl
  obtain ⟨y0, h0⟩ := fld hxl hf 0 _ rfl
  obtain ⟨y1, h1⟩ := fld hxl hf 1 _ rfl
  obtain ⟨z, hz, hz1, hz2⟩ := read_i64 (by kernel_rfl) h0
  obtain ⟨A, n, c, l, hs, hnc, hc, hll, hrd, hsp, hgd⟩ := read_rows Bk.arr Bk.good 27 Bk.arr_size (by kernel_rfl : Tryz.prog.underlying _ = some (.slice 60)) (by kernel_rfl) (by omega) (fun n cs y hy => read_bk hy) h1
  have c0 : (cs.drop 0).take 1 = [.int .i64 z] := hz
  have c1 : (cs.drop 1).take 1 = [.slice A n c] := hs
  refine ⟨z, A, n, c, l, ?_, ⟨hz1, hz2⟩, ⟨hll, hrd, hsp⟩, hgd, by omega⟩
  have e := seg cs 0 1
  rw [c0, seg cs (0 + 1) 1, c1, List.drop_of_length_le (i := 0 + 1 + 1) (by omega)] at e
  simpa using e
theorem open_pool (hval : Value.okWide Tryz.prog W .any base 24 v) (h : DataW.Trod enc Tryz.prog W 0 (fun _ => true) held 24 v d ps) :
    ∃ (z : Int) (A : Option Addr) (n c : Nat) (l : List Bk), v = .agg #[.int .i64 z, .slice A n c] ∧ (-9223372036854775808 ≤ z ∧ z ≤ 9223372036854775807) ∧ RdK W W.heap.size A n l ∧ (∀ b ∈ l, b.good) ∧ n ≤ 9223372036854775807 := by
  obtain ⟨cs, rfl, _⟩ := okWide_struct Tryz.underlying24 hval
  obtain ⟨fuel, hf⟩ := h
  obtain ⟨z, A, n, c, l, hcs, hr⟩ := read_pool hf
  have hc : cs.toList = [.int .i64 z, .slice A n c] := hcs
  exact ⟨z, A, n, c, l, by rw [← Array.toArray_toList (xs := cs), hc], hr⟩
theorem open_bk (hval : Value.okWide Tryz.prog W .any base 60 v) (h : DataW.Trod enc Tryz.prog W 0 (fun _ => true) held 60 v d ps) : ∃ b : Bk, v = .agg b.arr ∧ b.good := by
  obtain ⟨cs, rfl, _⟩ := okWide_struct Tryz.underlying60 hval
  obtain ⟨fuel, hf⟩ := h
  obtain ⟨b, hcs, hr⟩ := read_bk hf
  have hc : cs.toList = b.arr.toList := hcs
  exact ⟨b, by rw [Array.toList_inj.1 hc], hr⟩
theorem open_opr (hval : Value.okWide Tryz.prog W .any base 66 v) (h : DataW.Trod enc Tryz.prog W 0 (fun _ => true) held 66 v d ps) : ∃ o : Opr, v = .agg o.arr ∧ o.good := by
  obtain ⟨cs, rfl, _⟩ := okWide_struct Tryz.underlying66 hval
  obtain ⟨fuel, hf⟩ := h
  obtain ⟨b, hcs, hr⟩ := read_opr hf
  have hc : cs.toList = b.arr.toList := hcs
  exact ⟨b, by rw [Array.toList_inj.1 hc], hr⟩
/-- the op without anything -/
def noOp : Opr := ⟨0, noBk, [], 0⟩
/-- a slice of things to be done -/
def cellsOp (l : List Opr) : List Value := l.flatMap fun x => x.arr.toList
def RdO (w : World) (B : Nat) (A : Option Addr) (n : Nat) (l : List Opr) : Prop := l.length = n ∧ Rd w B 30 A n (cellsOp l) ∧ ∀ a, A = some a → 0 < n → a = ⟨a.block, a.off, none⟩
theorem open_oprs (hval : Value.okWide Tryz.prog W .any base 62 v) (h : DataW.Trod enc Tryz.prog W 0 (fun _ => true) held 62 v d ps) :
    ∃ (A : Option Addr) (n c : Nat) (l : List Opr), v = .slice A n c ∧ RdO W W.heap.size A n l ∧ (∀ o ∈ l, o.good) ∧ n ≤ 9223372036854775807 := by
  obtain ⟨a0, len, cap, rfl⟩ := okWide_slice Tryz.underlying62 hval
  obtain ⟨fuel, hf⟩ := h
  obtain ⟨A, n, c, l, hs, hnc, hc, hll, hrd, hsp, hgd⟩ := read_rows Opr.arr Opr.good 30 Opr.arr_size Tryz.underlying62 (by kernel_rfl) (by omega) (fun n cs y hy => read_opr hy) hf
  simp only [Value.cells, List.cons.injEq, Value.slice.injEq, and_true] at hs
  obtain ⟨rfl, rfl, rfl⟩ := hs
  exact ⟨a0, len, cap, l, rfl, ⟨hll, hrd, hsp⟩, hgd, by omega⟩
end
end Go.Proofs.YtmpemeemlhmaaaaGreat

namespace Go.Proofs.YtmpemeemlhmaaaaGreat
open Go.ChangeShapes Go.WideShapes Go.ChangeAt Go.RowKit Go.Deep

section
variable {H : Type} {enc : TypeId × Value → H} {w : World} {base : Nat} {spare : Nat → Bool} {held : Bool} {fuel : Nat} {cs : List Value} {x : DataW H × List MemPlace}
theorem read_tu (h : DataW.trod enc Tryz.prog w base spare held fuel 77 cs = some x) : ∃ t : Tu, cs = t.arr.toList := by
  obtain ⟨xs, n, _, _, hl, hxl, hf⟩ := DataW.trod_struct Tryz.underlying77 h
  rw [show Tryz.prog.cellsOf 77 = 37 by kernel_rfl] at hl
  obtain ⟨y0, h0⟩ := fld hxl hf 0 _ rfl
  obtain ⟨y1, h1⟩ := fld hxl hf 1 _ rfl
  obtain ⟨y2, h2⟩ := fld hxl hf 2 _ rfl
  obtain ⟨y3, h3⟩ := fld hxl hf 3 _ rfl
  obtain ⟨y4, h4⟩ := fld hxl hf 4 _ rfl
  obtain ⟨a, ha⟩ := read_adr h0
  obtain ⟨b, hb⟩ := read_adr h1
  obtain ⟨p, hp, _, _⟩ := read_i64 (by kernel_rfl) h2
  obtain ⟨q, hq, _, _⟩ := read_i64 (by kernel_rfl) h3
  obtain ⟨r, hr, _, _⟩ := read_i64 (by kernel_rfl) h4
  have c0 : (cs.drop 0).take 17 = a.arr.toList := ha
  have c1 : (cs.drop 17).take 17 = b.arr.toList := hb
  have c2 : (cs.drop 34).take 1 = [.int .i64 p] := hp
  have c3 : (cs.drop 35).take 1 = [.int .i64 q] := hq
  have c4 : (cs.drop 36).take 1 = [.int .i64 r] := hr
  refine ⟨⟨a, b, p, q, r⟩, ?_⟩
  have e := seg cs 0 17
  rw [c0, seg cs (0 + 17) 17, c1, seg cs (0 + 17 + 17) 1, c2, seg cs (0 + 17 + 17 + 1) 1, c3, seg cs (0 + 17 + 17 + 1 + 1) 1, c4, List.drop_of_length_le (i := 0 + 17 + 17 + 1 + 1 + 1) (by omega)] at e
  simpa [Tu.arr, tuT] using e
def Fw.good (x : Fw) : Prop := x.name.length ≤ 9223372036854775807
theorem read_fw (h : DataW.trod enc Tryz.prog w base spare held fuel 79 cs = some x) : ∃ t : Fw, cs = t.arr.toList ∧ t.good := by
  obtain ⟨xs, n, _, _, hl, hxl, hf⟩ := DataW.trod_struct Tryz.underlying79 h
  rw [show Tryz.prog.cellsOf 79 = 41 by kernel_rfl] at hl
  obtain ⟨y0, h0⟩ := fld hxl hf 0 _ rfl
  obtain ⟨y1, h1⟩ := fld hxl hf 1 _ rfl
  obtain ⟨y2, h2⟩ := fld hxl hf 2 _ rfl
  obtain ⟨y3, h3⟩ := fld hxl hf 3 _ rfl
  obtain ⟨y4, h4⟩ := fld hxl hf 4 _ rfl
  obtain ⟨a, ha⟩ := read_tu h0
  obtain ⟨s, hs, hsl⟩ := read_str (by kernel_rfl) h1
  obtain ⟨p, hp, _, _⟩ := read_i64 (by kernel_rfl) h2
  obtain ⟨q, hq, _, _⟩ := read_i64 (by kernel_rfl) h3
  obtain ⟨r, hr, _, _⟩ := read_i64 (by kernel_rfl) h4
  have c0 : (cs.drop 0).take 37 = a.arr.toList := ha
  have c1 : (cs.drop 37).take 1 = [.string (textOf s)] := hs
  have c2 : (cs.drop 38).take 1 = [.int .i64 p] := hp
  have c3 : (cs.drop 39).take 1 = [.int .i64 q] := hq
  have c4 : (cs.drop 40).take 1 = [.int .i64 r] := hr
  refine ⟨⟨a, s, p, q, r⟩, ?_, hsl⟩
  have e := seg cs 0 37
  rw [c0, seg cs (0 + 37) 1, c1, seg cs (0 + 37 + 1) 1, c2, seg cs (0 + 37 + 1 + 1) 1, c3, seg cs (0 + 37 + 1 + 1 + 1) 1, c4, List.drop_of_length_le (i := 0 + 37 + 1 + 1 + 1 + 1) (by omega)] at e
  simpa [Fw.arr, fwT] using e
theorem read_ints {P : Program} {k : Nat} {t e : TypeId} (ht : P.underlying t = some (.array k e)) (he : P.underlying e = some (.int .i64)) (hc : P.cellsOf e = 1) (hk : P.cellsOf t = k) (h : DataW.trod enc P w base spare held fuel t cs = some x) : ∃ v : Vector Int k, cs = v.toList.map (Value.int .i64) := by
  obtain ⟨xs, m, _, _, hl, hxl, hf⟩ := DataW.trod_array ht h
  rw [hk] at hl
  have hg : ∀ i, i < k → ∃ b : Int, cs[i]? = some (.int .i64 b) := fun i hi => by
    have h1 := hf i hi
    rw [hc, Nat.mul_one, List.getElem?_eq_getElem (by omega)] at h1
    obtain ⟨b, hb, _, _⟩ := read_i64 he h1
    refine ⟨b, ?_⟩
    rw [take1_drop cs i undef (by omega)] at hb
    simp only [List.cons.injEq, and_true] at hb
    rw [List.getElem?_eq_getElem (by omega), ← hb, List.getD_eq_getElem?_getD, List.getElem?_eq_getElem (by omega)]
    rfl
  obtain ⟨f, hf⟩ : ∃ f : Nat → Int, ∀ i, i < k → cs[i]? = some (.int .i64 (f i)) := by
    refine ⟨fun i => if hi : i < k then (hg i hi).choose else 0, fun i hi => ?_⟩
    simp only [hi, dif_pos]
    exact (hg i hi).choose_spec
  refine ⟨Vector.ofFn fun i : Fin k => f i, ?_⟩
  apply List.ext_getElem?
  intro i
  rcases Nat.lt_or_ge i k with hi | hi
  · rw [hf i hi]
    simp [hi]
  · rw [List.getElem?_eq_none (by omega), List.getElem?_eq_none (by simpa using hi)]
end
section
variable {H : Type} {enc : TypeId × Value → H} {W : World} {base : Nat} {v : Value} {d : DataW H} {ps : List MemPlace} {held : Bool}
theorem read_st {fuel : Nat} {cs : List Value} {x : DataW H × List MemPlace} (h : DataW.trod enc Tryz.prog W 0 (fun _ => true) held fuel 29 cs = some x) : ∃ (x : Sh) (s : Sta), cs = x.arr.toList ∧ StW W W.heap.size x s := by
  obtain ⟨xs, n, _, _, hl, hxl, hf⟩ := DataW.trod_struct Tryz.underlying29 h
  rw [show Tryz.prog.cellsOf 29 = 17 by kernel_rfl] at hl
  obtain ⟨y0, h0⟩ := fld hxl hf 0 _ rfl
  obtain ⟨y1, h1⟩ := fld hxl hf 1 _ rfl
  obtain ⟨y2, h2⟩ := fld hxl hf 2 _ rfl
  obtain ⟨y3, h3⟩ := fld hxl hf 3 _ rfl
  obtain ⟨y4, h4⟩ := fld hxl hf 4 _ rfl
  obtain ⟨y5, h5⟩ := fld hxl hf 5 _ rfl
  obtain ⟨z, A, n, c, l, hs, _, hR, hg, hm⟩ := read_pool h0
  obtain ⟨gA, gn, gc, gl, ghs, gnc, gcc, ghl, ghr, ghp, ghg⟩ := read_rows Hl.arr Hl.good 3 Hl.arr_size (by kernel_rfl : Tryz.prog.underlying _ = some (.slice 74)) (by kernel_rfl) (by omega) (fun n cs y hy => read_hl hy) h1
  obtain ⟨fA, fn, fc, fl, fhs, fnc, fcc, fhl, fhr, fhp, fhg⟩ := read_rows Fw.arr Fw.good 41 Fw.arr_size (by kernel_rfl : Tryz.prog.underlying _ = some (.slice 79)) (by kernel_rfl) (by omega) (fun n cs y hy => read_fw hy) h2
  obtain ⟨p, hp, _, _⟩ := read_i64 (by kernel_rfl) h3
  obtain ⟨q, hq, _, _⟩ := read_i64 (by kernel_rfl) h4
  obtain ⟨ct, hct⟩ := read_ints (k := 11) (e := 3) (by kernel_rfl) (by kernel_rfl) (by kernel_rfl) (by kernel_rfl) h5
  have c0 : (cs.drop 0).take 2 = [.int .i64 z, .slice A n c] := hs
  have c1 : (cs.drop 2).take 1 = [.slice gA gn gc] := ghs
  have c2 : (cs.drop 3).take 1 = [.slice fA fn fc] := fhs
  have c3 : (cs.drop 4).take 1 = [.int .i64 p] := hp
  have c4 : (cs.drop 5).take 1 = [.int .i64 q] := hq
  have c5 : (cs.drop 6).take 11 = ct.toList.map (Value.int .i64) := hct
  refine ⟨⟨z, ⟨A, n, c⟩, ⟨gA, gn, gc⟩, ⟨fA, fn, fc⟩, p, q, ct⟩, ⟨z, l, gl, fl, p, q, ct⟩, ?_, ⟨rfl, hR, ⟨ghl, ghr, ghp⟩, ⟨fhl, fhr, fhp⟩, rfl, rfl, rfl, fun y hy => (hg y hy).1, fun y hy => (ghg y hy).1, fun y hy => fhg y hy, hm, Nat.le_trans gnc gcc, Nat.le_trans fnc fcc⟩⟩
  have e := seg cs 0 2
  rw [c0, seg cs (0 + 2) 1, c1, seg cs (0 + 2 + 1) 1, c2, seg cs (0 + 2 + 1 + 1) 1, c3, seg cs (0 + 2 + 1 + 1 + 1) 1, c4, seg cs (0 + 2 + 1 + 1 + 1 + 1) 11, c5, List.drop_of_length_le (i := 0 + 2 + 1 + 1 + 1 + 1 + 11) (by omega)] at e
  simpa [Sh.arr, shT, cntC] using e
theorem open_st (hval : Value.okWide Tryz.prog W .any base 29 v) (h : DataW.Trod enc Tryz.prog W 0 (fun _ => true) held 29 v d ps) : ∃ (x : Sh) (s : Sta), v = .agg x.arr ∧ StW W W.heap.size x s := by
  obtain ⟨cs, rfl, _⟩ := okWide_struct Tryz.underlying29 hval
  obtain ⟨fuel, hf⟩ := h
  obtain ⟨x, s, hcs, hr⟩ := read_st hf
  have hc : cs.toList = x.arr.toList := hcs
  exact ⟨x, s, by rw [Array.toList_inj.1 hc], hr⟩
end
theorem open_u16 {H : Type} {enc : TypeId × Value → H} {P : Program} {W : World} {base : Nat} {v : Value} {d : DataW H} {ps : List MemPlace} {T : TypeId} (ht : P.underlying T = some (.int .u16)) (hval : Value.okWide P W .any base T v) (h : DataW.Trod enc P W 0 (fun _ => true) true T v d ps) : ∃ u : Nat, v = .int .u16 (u : Nat) ∧ u < 65536 := by
  obtain ⟨x, rfl, rfl, rfl, wx⟩ := open_int ht hval h
  have hx : 0 ≤ x ∧ x ≤ 65535 := by simpa [Lit.wf, IntKind.min, IntKind.max, IntKind.signed, IntKind.bits] using wx
  exact ⟨x.toNat, by rw [Int.toNat_of_nonneg hx.1], by omega⟩
@[go_sem] theorem run_mkU8s0 (w : World) : (mkU8s 0 #[]).run Tryz.prog w = .ok (.slice (some ⟨w.heap.size, 0, none⟩) 0 0) (w.alloc (.cells #[] 5)) := by
  obtain ⟨i0, hi0, hz0, hz1, hz2⟩ := infoU8s
  simp [mkU8s, Instr.buildSlice, run_underlying Tryz.underlying32, zeroValue, sizeOf, typeInfo, hi0, hz0, hz1, Instr.fill, newRow, Value.cells, show Array.range 0 = #[] by apply Array.ext'; rw [Array.toList_range]; rfl]
theorem Ow.lit0 (w : World) : Ow w.heap.size (Value.slice (some ⟨w.heap.size, 0, none⟩) 0 0).ownBlock (w.alloc (.cells #[] 5)) (.slice (some ⟨w.heap.size, 0, none⟩) 0 0) [] (w.alloc (.cells #[] 5)) :=
  Ow.of_own (show (w.alloc (.cells #[] 5)).ownsRow w.heap.size 5 1 (.slice (some ⟨w.heap.size, 0, none⟩) 0 0) 0 (([] : List UInt8).map bv) from World.ownsRow_lit w #[] 0 (Nat.le_refl _) (by unfold maxLen; omega) rfl) (by simp)
/-- the same, as a row beside boxes: since w, nothing older turned -/
theorem Ly.lit0 (w : World) : Ly w.heap.size [] w (w.alloc (.cells #[] 5)) (.slice (some ⟨w.heap.size, 0, none⟩) 0 0) [] :=
  ⟨⟨(Ow.lit0 w).own, ⟨rfl, rfl, rfl, by simp, fun i hi _ => Below.heap_alloc w _ i hi⟩, .inr ⟨_, rfl, Nat.le_refl _⟩, Nat.le_refl _, fun k h => by cases h⟩, fun p hp => by cases hp⟩
theorem RdB.upto {w : World} {B n k : Nat} {A : Option Addr} {l : List UInt8} (h : RdB w B A n l) (hk : k ≤ n) : RdB w B A k (l.take k) := by
  have := Rd.upto h hk
  rw [Nat.mul_one] at this
  unfold RdB
  rw [List.map_take]
  exact this
theorem RdB.go {W w1 : World} {n : Nat} {A : Option Addr} {l : List UInt8} (h : RdB W W.heap.size A n l) (hb : Below W.heap.size W w1) : RdB w1 w1.heap.size A n l := (h.to hb (Nat.le_refl _)).more hb.size
theorem staB_small {s : Sta} (h : okSta s = true) : (staB s).length ≤ 3000000 := by
  have L := okSta_lay h
  have b1 := bksB_len s.bks (fun y hy => layBk_told (L.bk y hy))
  have b2 := hlsB_len s.hls L.hl
  have b3 := fwsB_len s.fws L.fw
  have b4 := numsB_len s.cnt.toList
  have e11 : s.cnt.toList.length = 11 := by simp
  have a1 := (varB_len s.tick.toNat).2
  have a2 := (varB_len s.no.toNat).2
  have a3 := (varB_len s.ver.toNat).2
  have a4 := (varB_len s.bks.length).2
  have a5 := (varB_len s.hls.length).2
  have a6 := (varB_len s.fws.length).2
  have n1 := L.nb
  have n2 := L.nh
  have n3 := L.nf
  unfold staB bksB
  rw [cnt_flat2]
  simp only [List.length_append]
  omega
end Go.Proofs.YtmpemeemlhmaaaaGreat
